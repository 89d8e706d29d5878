/-
Lemmas for the statements of this seat: no statement of the seat is proved in this part (5 of 6); the conditions stand in each theorem.
-/
import Derived.Test.YtlkpadfkmdgjcaaGreatDoorQuery4
import Derived.Test.YtlkpadfkmdgjcaaGreatDoorProg
import Derived.DeepKeys
import Derived.Laws.StructEq
import Derived.WideKeyRuns
import Derived.DeepKeys3
import Derived.Shelf.Sort.Plain
section
set_option linter.unusedSimpArgs false
set_option linter.unusedVariables false
namespace Go.Proofs.YtlkpadfkmdgjcaaGreatDoor
open Go Go.Ev
set_option linter.unusedVariables false
set_option linter.unusedSimpArgs false
set_option maxRecDepth 100000
attribute [local irreducible] kO kB kStr kInt kN kG kIf kfld kld kldN kst knew kmap kbld kbldS kext kcnv klenStr klen kcap kprt kprtN kbool kint kstr keq kun ksl kix kiv kta kmk kmm ksem ksemU kextf kcallV kcallM kcall kL

/-! ### A new store -/
def newS0 (L : List Comp) (most : Nat) : SM := ⟨List.replicate most (0, false), (List.range most).reverse, L, [0], [], List.replicate most (0, 0)⟩
def newS (L : List Comp) (most : Nat) : SM := layS (newS0 L most) 1
theorem newS_gs {L : List Comp} {most : Nat} (h : most ≤ 64) : GS (newS L most) 0 := by
  have hd : ∀ (i : Nat) (x : Int × Bool), (List.replicate most ((0 : Int), false))[i]? = some x → x = (0, false) := fun i x e => by
    obtain ⟨_, e⟩ := List.getElem?_eq_some_iff.1 e
    rw [List.getElem_replicate] at e; exact e.symm
  refine ⟨⟨by simp [newS, newS0, layS], fun i g hg _ => ?_, fun n T r e hT hr => ?_, fun n T c hT hc => ?_⟩, ⟨?_, fun i => ?_⟩, fun i x hx => ?_, by simp [newS, newS0, layS], by simp [newS, newS0, layS]; exact h⟩
  · have := hd i _ hg; cases this
  · rcases layS_tabs hT with hT | rfl
    · cases hT
    · cases hr
  · rcases layS_tabs hT with hT | rfl
    · cases hT
    · rfl
  · show (List.range most).reverse.Nodup
    unfold List.Nodup
    rw [List.pairwise_reverse]
    exact List.nodup_range.imp (fun h e => h e.symm)
  · show i ∈ (List.range most).reverse ↔ ∃ g, (List.replicate most ((0 : Int), false))[i]? = some (g, false)
    rw [List.mem_reverse, List.mem_range]
    constructor
    · intro hi; exact ⟨0, by rw [List.getElem?_replicate, if_pos hi]⟩
    · rintro ⟨g, e⟩
      have := (List.getElem?_eq_some_iff.1 e).1
      simpa using this
  · have := hd i x hx
    subst this
    simp
def newLab (o : Lab) (n bc bp bS k : Nat) : Option Tag := if k < n then o k else if k = bS then some .store else if k = bp then some .spots else if k = bc then some .sch else none
theorem newS_good {L : List Comp} (hG : GoodSc L) : GoodC L := ⟨hG.len, fun q hq => by obtain ⟨d, e, h1, h4⟩ := hG.wide q hq; omega⟩
theorem sNew_spec {w : World} (hD : DeAt w) {a : Option Addr} {L : List Comp} {cp : Nat} {ra : Option Addr} {rc : Nat} (hs : SlIs w a L.length 7 (L.flatMap Comp.cells)) (hG : GoodSc L) {most : Nat} (hm : most ≤ 64) :
    Meets Tryz.prog 12 #[scV a L.length cp (.slice ra 0 rc), .int .i64 most] w fun v w' => ∃ b, v = .tuple #[ptrV b, .nilIface] ∧ ∃ o p, StoreP o w' b p (newS L most) ∧ (∀ k, k < w.heap.size → o k = none) ∧ (∀ k, w'.heap.size ≤ k → o k = none) ∧ Same w w' := by
  have hl := hG.len
  rw [scV]
  refine f12_ok ?_
  unfold f12
  refine knew_of fun w2 h2 hs2 hb2 => ?_
  have hb2 : blk w2 w.heap.size = some (.cells #[.slice a L.length cp, .slice ra 0 rc] 34) := hb2
  repeat (first | refine kN_at ?_ | refine kB_at ?_ | refine kfld_of ?_ | refine kext_at rfl ?_ | refine kld_at hb2 rfl ?_ | refine kldN_at hb2 rfl (by omega) ?_ | refine kG_of (by first | exact rfl | omega) ?_ | refine klen_at ?_ | refine eql_at ?_ | refine neq_at ?_ | refine lss_at ?_ | refine leq_at ?_ | refine gtr_at ?_ | refine geq_at ?_ | refine add_at (by omega) (by omega) ?_ | refine sub_at (by omega) (by omega) ?_ | refine not_at ?_ | refine kO_at ?_ | refine kprt_at rfl ?_ | refine kprtN_at rfl ?_ | refine kcap_at ?_ | refine klenStr_at ?_ | refine kN_iat ?_ | refine kN_fat ?_ | refine kIf_T (by first | exact rfl | exact decT (by omega) | exact notT (decF (by omega))) ?_ | refine kIf_F (by first | exact rfl | exact decF (by omega) | exact notF (decT (by omega))) ?_)
  have hck := check_spec (ra := ra) (rc := rc) (cp := cp) (hs.same h2) hG
  rw [scV] at hck
  refine kcall_of hck ?_
  rintro v w5 ⟨rfl, h5⟩
  have hb5 := h5.get hb2 (fun h => h)
  have m5 := h2.trans h5
  rw [keq_nil_nil' ifErr]
  refine kB_at ?_
  refine kIf_F rfl ?_
  unfold f12_0
  refine kcall_of (rNew_spec (fun _ => none) w5 most hm) ?_
  rintro v w11 ⟨bR, o1, rfl, hl1, hR, h11, hr1, hbR⟩
  have hb11 := h11.get hb5 (fun h => h)
  have m11 := m5.trans h11
  have hRl := hR.1
  repeat (first | refine kN_at ?_ | refine kB_at ?_ | refine kfld_of ?_ | refine kext_at rfl ?_ | refine kG_of (by first | exact rfl | omega) ?_ | refine klen_at ?_ | refine eql_at ?_ | refine neq_at ?_ | refine lss_at ?_ | refine leq_at ?_ | refine gtr_at ?_ | refine geq_at ?_ | refine add_at (by omega) (by omega) ?_ | refine sub_at (by omega) (by omega) ?_ | refine not_at ?_ | refine kO_at ?_ | refine kprt_at rfl ?_ | refine kprtN_at rfl ?_ | refine kcap_at ?_ | refine klenStr_at ?_ | refine kN_iat ?_ | refine kN_fat ?_ | refine kIf_T (by first | exact rfl | exact decT (by omega) | exact notT (decF (by omega))) ?_ | refine kIf_F (by first | exact rfl | exact decF (by omega) | exact notF (decT (by omega))) ?_)
  rw [keq_nil_nil' ifErr]
  refine kB_at ?_
  refine kIf_F rfl ?_
  unfold f12_1
  repeat (first | refine kN_at ?_ | refine kB_at ?_ | refine kfld_of ?_ | refine kext_at rfl ?_ | refine kld_at hb11 rfl ?_ | refine kldN_at hb11 rfl (by omega) ?_ | refine kG_of (by first | exact rfl | omega) ?_ | refine klen_at ?_ | refine eql_at ?_ | refine neq_at ?_ | refine lss_at ?_ | refine leq_at ?_ | refine gtr_at ?_ | refine geq_at ?_ | refine add_at (by omega) (by omega) ?_ | refine sub_at (by omega) (by omega) ?_ | refine not_at ?_ | refine kO_at ?_ | refine kprt_at rfl ?_ | refine kprtN_at rfl ?_ | refine kcap_at ?_ | refine klenStr_at ?_ | refine kN_iat ?_ | refine kN_fat ?_ | refine kIf_T (by first | exact rfl | exact decT (by omega) | exact notT (decF (by omega))) ?_ | refine kIf_F (by first | exact rfl | exact decF (by omega) | exact notF (decT (by omega))) ?_)
  have ho1 : ∀ k t, cutL o1 w11.heap.size k = some t → ¬ atlasTag t := fun k t e et => by
    unfold cutL at e
    split at e
    · rcases Nat.lt_or_ge k w5.heap.size with hk | hk
      · rw [hl1 k hk] at e; cases e
      · obtain ⟨t', e1, e2⟩ := hr1 k hk
        rw [e] at e1; cases e1
        exact tag_roll_atlas e2 et
    · cases e
  refine kcall_of (newAt_spec (cutL o1 w11.heap.size) ho1 w11 L.length hl) ?_
  rintro v w23 ⟨bA, o2, rfl, hl2, hA, h23⟩
  have hb23 := h23.get hb11 (fun h => h)
  have m23 := m11.trans h23
  have hR1 : RollAt (cutL o1 w11.heap.size) w11 bR _ _ := hR.frame (Mod.refl (fun _ => False) _) (fun _ _ _ _ h => h) (LabEq.cut w11 o1)
  have hR2 := hR1.frame h23 (fun _ _ _ _ h => h) hl2
  have hsz5 := m5.size
  have hsz11 := h11.size
  have hsz23 := h23.size
  have ho2 : ∀ k, k < w.heap.size → o2 k = none := fun k hk => by
    rw [hl2 k (by omega)]
    unfold cutL
    rw [if_pos (by omega), hl1 k (by omega)]
  have hDlt := hD.lt
  repeat (first | refine kN_at ?_ | refine kB_at ?_ | refine kfld_of ?_ | refine kext_at rfl ?_ | refine kG_of (by first | exact rfl | omega) ?_ | refine klen_at ?_ | refine eql_at ?_ | refine neq_at ?_ | refine lss_at ?_ | refine leq_at ?_ | refine gtr_at ?_ | refine geq_at ?_ | refine add_at (by omega) (by omega) ?_ | refine sub_at (by omega) (by omega) ?_ | refine not_at ?_ | refine kO_at ?_ | refine kprt_at rfl ?_ | refine kprtN_at rfl ?_ | refine kcap_at ?_ | refine klenStr_at ?_ | refine kN_iat ?_ | refine kN_fat ?_ | refine kIf_T (by first | exact rfl | exact decT (by omega) | exact notT (decF (by omega))) ?_ | refine kIf_F (by first | exact rfl | exact decF (by omega) | exact notF (decT (by omega))) ?_)
  rw [keq_nil_nil' ifErr]
  refine kB_at ?_
  refine kIf_F rfl ?_
  have fin : ∀ (bsc : Nat) (wy : World) (ca : Option Addr) (cc : Nat) (rv : Value), Same w23 wy → blk wy bsc = some (.cells #[.slice ca L.length cc, rv] 34) → SlIs wy ca L.length 7 (L.flatMap Comp.cells) → (∀ k f, ca = some ⟨k, f, none⟩ → w23.heap.size ≤ k ∧ k < wy.heap.size) → rv.oneCell' = true →
      f12_3 (.int .i64 most) (.pointer (some ⟨bR, 0, none⟩)) (ptrV bA) (.pointer (some ⟨bsc, 0, none⟩)) (fun v w' => ∃ b, v = .tuple #[ptrV b, .nilIface] ∧ ∃ o p, StoreP o w' b p (newS L most) ∧ (∀ k, k < w.heap.size → o k = none) ∧ (∀ k, w'.heap.size ≤ k → o k = none) ∧ Same w w') wy := by
    intro bsc wy ca cc rv hwy hbsc hca hcf hrv
    have hszy := hwy.size
    unfold f12_3
    have hbscd : blk wy.drew bsc = _ := hbsc
    repeat (first | refine kN_at ?_ | refine kB_at ?_ | refine kfld_of ?_ | refine kext_at rfl ?_ | refine kld_at hbscd rfl ?_ | refine kldN_at hbscd rfl (by omega) ?_ | refine kG_of (by first | exact rfl | omega) ?_ | refine klen_at ?_ | refine eql_at ?_ | refine neq_at ?_ | refine lss_at ?_ | refine leq_at ?_ | refine gtr_at ?_ | refine geq_at ?_ | refine add_at (by omega) (by omega) ?_ | refine sub_at (by omega) (by omega) ?_ | refine not_at ?_ | refine kO_at ?_ | refine kprt_at rfl ?_ | refine kprtN_at rfl ?_ | refine kcap_at ?_ | refine klenStr_at ?_ | refine kN_iat ?_ | refine kN_fat ?_ | refine kIf_T (by first | exact rfl | exact decT (by omega) | exact notT (decF (by omega))) ?_ | refine kIf_F (by first | exact rfl | exact decF (by omega) | exact notF (decT (by omega))) ?_)
    refine kmk_of (by omega) (by omega) fun w44 h44 hs44 hb44 => ?_
    have hbsc44 := h44.get hbscd (fun h => h)
    refine kG_of (kldN_at hbsc44 rfl (by omega) ⟨rfl, rfl⟩) ?_
    refine kbld_of (cs := [.pointer (some ⟨bR, 0, none⟩), .slice ca L.length cc, rv, ptrV bA, .slice none 0 0, .slice (some ⟨wy.heap.size, 0, none⟩) most most]) rfl ?_
    refine knew_of fun w47 h47 hs47 hb47 => ?_
    have hb47 : blk w47 w44.heap.size = some (.cells #[.pointer (some ⟨bR, 0, none⟩), .slice ca L.length cc, rv, ptrV bA, .slice none 0 0, .slice (some ⟨wy.heap.size, 0, none⟩) most most] 139) := hb47
    have hs44 : w44.heap.size = wy.heap.size + 1 := hs44
    have m47 : Same w23 w47 := ((hwy.trans (Mod.refl (fun _ => False) _).drew).trans h44).trans h47
    have hz : zrow (Value.agg #[.int .i64 0, .int .i64 0]).cells.toList most = (List.replicate most ((0 : Nat), (0 : Nat))).flatMap spotC := zrow_rep (F := spotC) ((0 : Nat), (0 : Nat)) most
    rw [hz] at hb44
    have hb44 : blk w44 wy.heap.size = some (.cells ((List.replicate most ((0 : Nat), (0 : Nat))).flatMap spotC).toArray 153) := hb44
    have hOs := Own.blk (h47.get hb44 (fun h => h)) (n := most) (sz := 2) (by rw [List.size_toArray, flat_len spotC 2 (fun _ => rfl), List.length_replicate]) (by simp [maxLen]; omega)
    rw [List.toList_toArray] at hOs
    generalize hbcB : (match ca with | some x => x.block | none => 0) = bcB
    have hlo : LabEq w23 o2 (newLab o2 w23.heap.size bcB wy.heap.size w44.heap.size) := fun k hk => by unfold newLab; rw [if_pos hk]
    have hl47 : newLab o2 w23.heap.size bcB wy.heap.size w44.heap.size w44.heap.size = some .store := by unfold newLab; rw [if_neg (by omega), if_pos rfl]
    have hlsp : newLab o2 w23.heap.size bcB wy.heap.size w44.heap.size wy.heap.size = some .spots := by unfold newLab; rw [if_neg (by omega), if_neg (by omega), if_pos rfl]
    have hP : StoreP (newLab o2 w23.heap.size bcB wy.heap.size w44.heap.size) w47 w44.heap.size ⟨bR, bA, ca, cc, rv, .slice none 0 0, .slice (some ⟨wy.heap.size, 0, none⟩) most most, fun _ => 0, fun _ _ => 0⟩ (newS0 L most) := {
      lab := hl47
      good := newS_good hG
      tle := by simp [newS0]
      mle := by simp [newS0]
      sle := by simp [newS0]; exact hm
      here := hb47
      roll := hR2.frame m47 (fun _ _ _ _ h => h) hlo
      atlas := hA.frame m47 (fun _ _ _ _ h => h) hlo
      sch := (hca.same (Mod.refl (fun _ => False) _).drew).same (h44.trans h47)
      schl := fun k f e => by
        have e : ca = some ⟨k, f, none⟩ := e
        obtain ⟨k1, k2⟩ := hcf k f e
        have hk : k = bcB := by rw [← hbcB, e]
        refine ⟨?_, by omega⟩
        unfold newLab
        rw [if_neg (by omega), if_neg (by omega), if_neg (by omega), if_pos hk]
      tabs := Own.nil _ _
      tabsl := fun k e => by obtain ⟨_, _, _, e⟩ := e; cases e
      spots := hOs
      spotsl := fun k e => by obtain ⟨_, _, _, e⟩ := e; cases e; exact hlsp
      tab := fun i hi => by simp [newS0] at hi }
    have hDn : newLab o2 w23.heap.size bcB wy.heap.size w44.heap.size 18 = none := by
      unfold newLab
      rw [if_pos (by omega)]
      exact ho2 _ (by omega)
    have h47' : Same w w47 := m23.trans m47
    refine kcall_of (sLay_spec (hD.same h47') hP hDn) ?_
    rintro v w49 ⟨rfl, o4, p4, hl4, hP4, hm4, hc4⟩
    have hn : ∀ k, k < w.heap.size → newLab o2 w23.heap.size bcB wy.heap.size w44.heap.size k = none := fun k hk => by
      unfold newLab
      rw [if_pos (by omega)]
      exact ho2 k hk
    have hsz47 := h47'.size
    refine ⟨w44.heap.size, rfl, o4, p4, hP4, fun k hk => by rw [hl4 k (by omega)]; exact hn k hk, hc4, h47'.trans' (hm4.mono fun k _ ⟨t, e1, _⟩ => .inr ?_)⟩
    rcases Nat.lt_or_ge k w.heap.size with hk | hk
    · rw [hn k hk] at e1; cases e1
    · exact hk
  have hbd : blk w23.drew w.heap.size = some (.cells #[.slice a L.length cp, .slice ra 0 rc] 34) := hb23
  have md : Same w23 w23.drew := (Mod.refl (fun _ => False) _).drew
  have hsd := (hs.same m23).same md
  unfold f12_2
  refine ⟨?_, ?_⟩
  · repeat (first | refine kN_at ?_ | refine kB_at ?_ | refine kfld_of ?_ | refine kext_at rfl ?_ | refine kld_at hbd rfl ?_ | refine kldN_at hbd rfl (by omega) ?_ | refine kG_of (by first | exact rfl | omega) ?_ | refine klen_at ?_ | refine eql_at ?_ | refine neq_at ?_ | refine lss_at ?_ | refine leq_at ?_ | refine gtr_at ?_ | refine geq_at ?_ | refine add_at (by omega) (by omega) ?_ | refine sub_at (by omega) (by omega) ?_ | refine not_at ?_ | refine kO_at ?_ | refine kprt_at rfl ?_ | refine kprtN_at rfl ?_ | refine kcap_at ?_ | refine klenStr_at ?_ | refine kN_iat ?_ | refine kN_fat ?_ | refine kIf_T (by first | exact rfl | exact decT (by omega) | exact notT (decF (by omega))) ?_ | refine kIf_F (by first | exact rfl | exact decF (by omega) | exact notF (decT (by omega))) ?_)
    refine kcall_of (cloneC_spec hsd (by omega)) ?_
    rintro v w33 ⟨hO, h33, hf⟩
    obtain ⟨ca, cn, cc, rfl, hcs, _⟩ := hO.is
    have hcn : cn = L.length := by
      have := hcs.1
      rw [flat_len Comp.cells 7 (fun _ => rfl)] at this
      omega
    subst hcn
    have hb33 := h33.get hbd (fun h => h)
    have hfk : ∀ k f, ca = some ⟨k, f, none⟩ → w23.heap.size ≤ k ∧ k < w33.heap.size := fun k f e => by
      have hv : vblk (.slice ca L.length cc) k := ⟨f, _, _, by rw [e]⟩
      exact ⟨hf k hv, hO.vblk_lt hv⟩
    refine ⟨?_, ?_⟩
    · repeat (first | refine kN_at ?_ | refine kB_at ?_ | refine kfld_of ?_ | refine kext_at rfl ?_ | refine kld_at hb33 rfl ?_ | refine kldN_at hb33 rfl (by omega) ?_ | refine kG_of (by first | exact rfl | omega) ?_ | refine klen_at ?_ | refine eql_at ?_ | refine neq_at ?_ | refine lss_at ?_ | refine leq_at ?_ | refine gtr_at ?_ | refine geq_at ?_ | refine add_at (by omega) (by omega) ?_ | refine sub_at (by omega) (by omega) ?_ | refine not_at ?_ | refine kO_at ?_ | refine kprt_at rfl ?_ | refine kprtN_at rfl ?_ | refine kcap_at ?_ | refine klenStr_at ?_ | refine kN_iat ?_ | refine kN_fat ?_ | refine kIf_T (by first | exact rfl | exact decT (by omega) | exact notT (decF (by omega))) ?_ | refine kIf_F (by first | exact rfl | exact decF (by omega) | exact notF (decT (by omega))) ?_)
      refine kG_of (kld_at hbd rfl ⟨rfl, rfl⟩) ?_
      refine kcall_of cloneR_spec ?_
      rintro v w37 ⟨⟨a', n', c', rfl⟩, h37⟩
      refine knew_of fun w39 h39 hs39 hb39 => ?_
      have hb39' := h39.get (h37.get hb33 (fun h => h)) (fun h => h)
      refine kG_of (kld_at hb39' rfl ⟨rfl, rfl⟩) ?_
      refine kG_of (kld_at hb39' rfl ⟨rfl, rfl⟩) ?_
      refine kbld_of (cs := [.slice ca L.length cc, .slice a' n' c']) rfl ?_
      refine kst_of (vs := [.slice ca L.length cc, .slice a' n' c']) hb39 rfl rfl rfl (by simp) (by simp) fun w41 h41 hs41 hb41 => ?_
      have m41 : Same w33 w41 := (h37.trans h39).trans' (h41.mono fun k _ e => .inr (by have := h37.size; omega))
      exact fin _ w41 ca cc _ ((md.trans h33).trans m41) hb41 (hcs.same m41) (fun k f e => by have := hfk k f e; have := m41.size; omega) rfl
    · refine knew_of fun w39 h39 hs39 hb39 => ?_
      have hb39' := h39.get hb33 (fun h => h)
      refine kG_of (kld_at hb39' rfl ⟨rfl, rfl⟩) ?_
      repeat (first | refine kN_at ?_ | refine kB_at ?_ | refine kfld_of ?_ | refine kext_at rfl ?_ | refine kld_at hb39' rfl ?_ | refine kldN_at hb39' rfl (by omega) ?_ | refine kG_of (by first | exact rfl | omega) ?_ | refine klen_at ?_ | refine eql_at ?_ | refine neq_at ?_ | refine lss_at ?_ | refine leq_at ?_ | refine gtr_at ?_ | refine geq_at ?_ | refine add_at (by omega) (by omega) ?_ | refine sub_at (by omega) (by omega) ?_ | refine not_at ?_ | refine kO_at ?_ | refine kprt_at rfl ?_ | refine kprtN_at rfl ?_ | refine kcap_at ?_ | refine klenStr_at ?_ | refine kN_iat ?_ | refine kN_fat ?_ | refine kIf_T (by first | exact rfl | exact decT (by omega) | exact notT (decF (by omega))) ?_ | refine kIf_F (by first | exact rfl | exact decF (by omega) | exact notF (decT (by omega))) ?_)
      refine kG_of (kld_at hb33 rfl ⟨rfl, rfl⟩) ?_
      refine kG_of (kld_at hbd rfl ⟨rfl, rfl⟩) ?_
      refine kcall_of cloneR_spec ?_
      rintro v w37 ⟨⟨a', n', c', rfl⟩, h37⟩
      refine kbld_of (cs := [.slice ca L.length cc, .slice a' n' c']) rfl ?_
      refine kst_of (vs := [.slice ca L.length cc, .slice a' n' c']) (h37.get hb39 (fun h => h)) rfl rfl rfl (by simp) (by simp) fun w41 h41 hs41 hb41 => ?_
      have m41 : Same w33 w41 := (h39.trans h37).trans' (h41.mono fun k _ e => .inr (by omega))
      exact fin _ w41 ca cc _ ((md.trans h33).trans m41) hb41 (hcs.same m41) (fun k f e => by have := hfk k f e; have := m41.size; omega) rfl
  · refine knew_of fun w39 h39 hs39 hb39 => ?_
    have hb39' := h39.get hbd (fun h => h)
    repeat (first | refine kN_at ?_ | refine kB_at ?_ | refine kfld_of ?_ | refine kext_at rfl ?_ | refine kld_at hb39' rfl ?_ | refine kldN_at hb39' rfl (by omega) ?_ | refine kG_of (by first | exact rfl | omega) ?_ | refine klen_at ?_ | refine eql_at ?_ | refine neq_at ?_ | refine lss_at ?_ | refine leq_at ?_ | refine gtr_at ?_ | refine geq_at ?_ | refine add_at (by omega) (by omega) ?_ | refine sub_at (by omega) (by omega) ?_ | refine not_at ?_ | refine kO_at ?_ | refine kprt_at rfl ?_ | refine kprtN_at rfl ?_ | refine kcap_at ?_ | refine klenStr_at ?_ | refine kN_iat ?_ | refine kN_fat ?_ | refine kIf_T (by first | exact rfl | exact decT (by omega) | exact notT (decF (by omega))) ?_ | refine kIf_F (by first | exact rfl | exact decF (by omega) | exact notF (decT (by omega))) ?_)
    refine kG_of (kld_at hbd rfl ⟨rfl, rfl⟩) ?_
    refine kcall_of (cloneC_spec (hsd.same h39) (by omega)) ?_
    rintro v w33 ⟨hO, h33, hf⟩
    obtain ⟨ca, cn, cc, rfl, hcs, _⟩ := hO.is
    have hcn : cn = L.length := by
      have := hcs.1
      rw [flat_len Comp.cells 7 (fun _ => rfl)] at this
      omega
    subst hcn
    have hb33 := h33.get hb39' (fun h => h)
    have hfk : ∀ k f, ca = some ⟨k, f, none⟩ → w23.heap.size ≤ k ∧ k < w33.heap.size := fun k f e => by
      have hv : vblk (.slice ca L.length cc) k := ⟨f, _, _, by rw [e]⟩
      have h1 := hf k hv
      have h2 : w23.drew.heap.size = w23.heap.size := rfl
      exact ⟨by omega, hO.vblk_lt hv⟩
    repeat (first | refine kN_at ?_ | refine kB_at ?_ | refine kfld_of ?_ | refine kext_at rfl ?_ | refine kld_at hb33 rfl ?_ | refine kldN_at hb33 rfl (by omega) ?_ | refine kG_of (by first | exact rfl | omega) ?_ | refine klen_at ?_ | refine eql_at ?_ | refine neq_at ?_ | refine lss_at ?_ | refine leq_at ?_ | refine gtr_at ?_ | refine geq_at ?_ | refine add_at (by omega) (by omega) ?_ | refine sub_at (by omega) (by omega) ?_ | refine not_at ?_ | refine kO_at ?_ | refine kprt_at rfl ?_ | refine kprtN_at rfl ?_ | refine kcap_at ?_ | refine klenStr_at ?_ | refine kN_iat ?_ | refine kN_fat ?_ | refine kIf_T (by first | exact rfl | exact decT (by omega) | exact notT (decF (by omega))) ?_ | refine kIf_F (by first | exact rfl | exact decF (by omega) | exact notF (decT (by omega))) ?_)
    refine kG_of (kld_at hb39' rfl ⟨rfl, rfl⟩) ?_
    refine kG_of (kld_at hbd rfl ⟨rfl, rfl⟩) ?_
    refine kcall_of cloneR_spec ?_
    rintro v w37 ⟨⟨a', n', c', rfl⟩, h37⟩
    refine kbld_of (cs := [.slice ca L.length cc, .slice a' n' c']) rfl ?_
    refine kst_of (vs := [.slice ca L.length cc, .slice a' n' c']) (h37.get (h33.get hb39 (fun h => h)) (fun h => h)) rfl rfl rfl (by simp) (by simp) fun w41 h41 hs41 hb41 => ?_
    have m41 : Same w23 w41 := (((md.trans h39).trans h33).trans h37).trans' (h41.mono fun k _ e => .inr (by have h2 : w23.drew.heap.size = w23.heap.size := rfl; omega))
    have m33 : Mod (fun k => k = w23.heap.size) w33 w41 := (Mod.of_same h37).trans h41
    refine fin _ w41 ca cc _ m41 hb41 (hcs.mod m33 fun k f e ek => ?_) (fun k f e => by have := hfk k f e; have := m33.size; omega) rfl
    have h1 := hf k ⟨f, _, _, by rw [e]⟩
    have h2 : w23.drew.heap.size = w23.heap.size := rfl
    omega
end Go.Proofs.YtlkpadfkmdgjcaaGreatDoor
end
section
set_option linter.unusedSimpArgs false
set_option linter.unusedVariables false
namespace Go.Proofs.YtlkpadfkmdgjcaaGreatDoor
open Go Go.Ev
set_option linter.unusedVariables false
set_option linter.unusedSimpArgs false
set_option maxRecDepth 100000
attribute [local irreducible] kO kB kStr kInt kN kG kIf kfld kld kldN kst knew kmap kbld kbldS kext kcnv klenStr klen kcap kprt kprtN kbool kint kstr keq kun ksl kix kiv kta kmk kmm ksem ksemU kextf kcallV kcallM kcall kL

/-! ### A store that a function made for itself -/
structure Cur (w0 : World) (o : Lab) (w : World) (b : Nat) (p : Ptrs) (S : SM) (t : Nat) : Prop where
  sp : StoreP o w b p S
  gs : GS S t
  lo : ∀ k, k < w0.heap.size → o k = none
  hi : ∀ k, w.heap.size ≤ k → o k = none
  same : Same w0 w
theorem Cur.loc {w0 : World} {o : Lab} {w w2 : World} {b : Nat} {p : Ptrs} {S : SM} {t : Nat} (h : Cur w0 o w b p S t) (m : Same w w2) : Cur w0 o w2 b p S t :=
  ⟨h.sp.same m, h.gs, h.lo, fun k hk => h.hi k (Nat.le_trans m.size hk), h.same.trans m⟩
theorem Cur.turn {w0 : World} {o : Lab} {w w' : World} {b : Nat} {p : Ptrs} {S S' : SM} {t t' : Nat} (h : Cur w0 o w b p S t) (T : Turned o w b S' w') (hG : GS S' t') : ∃ o' p', Cur w0 o' w' b p' S' t' ∧ LabEq w o o' ∧ Mod (fun k => o k ≠ none) w w' := by
  obtain ⟨o', p', hl, hP, hm, hc⟩ := T
  have hs := h.same.size
  have hm' : Mod (fun k => o k ≠ none) w w' := hm.mono fun k _ ⟨t, e, _⟩ => by rw [e]; simp
  refine ⟨o', p', ⟨hP, hG, fun k hk => by rw [hl k (by omega)]; exact h.lo k hk, hc, h.same.trans' (hm'.mono fun k _ e => .inr ?_)⟩, hl, hm'⟩
  rcases Nat.lt_or_ge k w0.heap.size with hk | hk
  · exact absurd (h.lo k hk) e
  · exact hk
theorem Just.len {L : List (Int × Int)} {P : Nat → Int → Prop} (h : Just L P) {l : List (Int × Int)} (hn : l.Nodup) (hl : ∀ (i : Nat) (g : Int), ((i : Int), g) ∈ l ↔ P i g) (hp : ∀ e ∈ l, 0 ≤ e.1) : L.length = l.length := by
  refine ((List.perm_ext_iff_of_nodup h.1 hn).2 fun e => ?_).length_eq
  rw [h.2.2 e]
  constructor
  · rintro ⟨i, g, rfl, hP⟩; exact (hl i g).2 hP
  · intro he
    have h0 := hp e he
    refine ⟨e.1.toNat, e.2, ?_, ?_⟩
    · rw [Int.toNat_of_nonneg h0]
    · rw [← hl, Int.toNat_of_nonneg h0]; exact he
end Go.Proofs.YtlkpadfkmdgjcaaGreatDoor
end
section
set_option linter.unusedSimpArgs false
set_option linter.unusedVariables false
namespace Go.Proofs.YtlkpadfkmdgjcaaGreatDoor
open Go Go.Ev
set_option linter.unusedVariables false
set_option maxRecDepth 100000

/-! pasodoble/pasodoblelaw09.StoreMatches -/
def f3_5 (x0 : Value) (x1 : Value) (x2 : Value) (x7 : Value) (x9 : Value) (J7 : Value → World → Prop) (Q : Value → World → Prop) (w : World) : Prop :=
  kint .i64 .add x9 (.int .i64 1) fun v31 =>
  J7 v31 w

def f3_4 (x0 : Value) (x1 : Value) (x2 : Value) (x7 : Value) (x9 : Value) (J7 : Value → World → Prop) (Q : Value → World → Prop) (w : World) : Prop :=
  kix (some (.slice 24)) (some 1) x0 x9 fun v24 =>
  kld v24 w fun v25 =>
  kint .u32 .and v25 (.int .u32 255) fun v26 =>
  kcall Tryz.prog 15 #[v26, x9] w fun v27 w28 =>
  kcall Tryz.prog 14 #[x7, v27] w28 fun v29 w30 =>
  f3_5 x0 x1 x2 x7 x9 J7 Q w30

def f3_10 (x0 : Value) (x1 : Value) (x2 : Value) (x7 : Value) (x10 : Value) (x11 : Value) (x12 : Value) (J13 : Value → Value → World → Prop) (Q : Value → World → Prop) (w : World) : Prop :=
  kint .i64 .add x12 (.int .i64 1) fun v45 =>
  J13 x11 v45 w

def f3_13 (x0 : Value) (x1 : Value) (x2 : Value) (x7 : Value) (x10 : Value) (x11 : Value) (x12 : Value) (J13 : Value → Value → World → Prop) (Q : Value → World → Prop) (w : World) : Prop :=
  kint .i64 .add x11 (.int .i64 1) fun v54 =>
  f3_10 x0 x1 x2 x7 x10 v54 x12 J13 Q w

def f3_12 (x0 : Value) (x1 : Value) (x2 : Value) (x7 : Value) (x10 : Value) (x11 : Value) (x12 : Value) (x86 : Value) (J13 : Value → Value → World → Prop) (Q : Value → World → Prop) (w : World) : Prop :=
  kB x86 fun b55 => kIf b55
  (Q (.bool false) w)
  (f3_13 x0 x1 x2 x7 x10 x11 x12 J13 Q w)

def f3_11 (x0 : Value) (x1 : Value) (x2 : Value) (x7 : Value) (x10 : Value) (x11 : Value) (x12 : Value) (J13 : Value → Value → World → Prop) (Q : Value → World → Prop) (w : World) : Prop :=
  klen x10 fun v46 =>
  kint .i64 .geq x11 v46 fun v48 =>
  kB v48 fun b49 => kIf (!b49)
  (kix (some (.slice 37)) (some 2) x10 x11 fun v50 =>
  kfld 0 v50 fun v51 =>
  kld v51 w fun v52 =>
  kint .i64 .neq v52 x12 fun v53 =>
  f3_12 x0 x1 x2 x7 x10 x11 x12 v53 J13 Q w)
  (f3_12 x0 x1 x2 x7 x10 x11 x12 (.bool true) J13 Q w)

def f3_9 (x0 : Value) (x1 : Value) (x2 : Value) (x7 : Value) (x10 : Value) (x11 : Value) (x12 : Value) (x73 : Value) (J13 : Value → Value → World → Prop) (Q : Value → World → Prop) (w : World) : Prop :=
  kB x73 fun b56 => kIf b56
  (f3_10 x0 x1 x2 x7 x10 x11 x12 J13 Q w)
  (f3_11 x0 x1 x2 x7 x10 x11 x12 J13 Q w)

def f3_8 (x0 : Value) (x1 : Value) (x2 : Value) (x7 : Value) (x10 : Value) (x11 : Value) (x12 : Value) (J13 : Value → Value → World → Prop) (Q : Value → World → Prop) (w : World) : Prop :=
  kix (some (.slice 24)) (some 1) x0 x12 fun v37 =>
  kld v37 w fun v38 =>
  kint .u32 .and v38 (.int .u32 255) fun v39 =>
  kint .u32 .andNot x1 v39 fun v40 =>
  kint .u32 .neq v40 (.int .u32 0) fun v41 =>
  kB v41 fun b42 => kIf (!b42)
  (kint .u32 .and v39 x2 fun v43 =>
  kint .u32 .neq v43 (.int .u32 0) fun v44 =>
  f3_9 x0 x1 x2 x7 x10 x11 x12 v44 J13 Q w)
  (f3_9 x0 x1 x2 x7 x10 x11 x12 (.bool true) J13 Q w)

def f3_14 (x0 : Value) (x7 : Value) (x10 : Value) (x11 : Value) (Q : Value → World → Prop) (w : World) : Prop :=
  klen x10 fun v57 =>
  kint .i64 .eql x11 v57 fun v59 =>
  kB v59 fun b60 => kIf b60
  (kcall Tryz.prog 17 #[x7] w fun v61 w62 =>
  klen x0 fun v63 =>
  kint .i64 .eql v61 v63 fun v65 =>
  Q v65 w62)
  (Q (.bool false) w)

def f3_7 (x11 : Value) (x12 : Value) (x0 : Value) (x1 : Value) (x2 : Value) (x7 : Value) (x10 : Value) (J13 : Value → Value → World → Prop) (Q : Value → World → Prop) (w : World) : Prop :=
  klen x0 fun v34 =>
  kint .i64 .lss x12 v34 fun v36 =>
  kB v36 fun b66 => kIf b66
  (f3_8 x0 x1 x2 x7 x10 x11 x12 J13 Q w)
  (f3_14 x0 x7 x10 x11 Q w)

def f3_6 (x0 : Value) (x1 : Value) (x2 : Value) (x7 : Value) (Q : Value → World → Prop) (w : World) : Prop :=
  kcall Tryz.prog 16 #[x7, x1, x2] w fun v32 w33 =>
  kL fun (I : Value → Value → World → Prop) (μ : Value → Value → World → Nat) => I (.int .i64 0) (.int .i64 0) w33 ∧ ∀ (x11 x12 : Value) (w1 : World), I x11 x12 w1 →
  f3_7 x11 x12 x0 x1 x2 x7 v32 (fun y11 y12 w2 => I y11 y12 w2 ∧ μ y11 y12 w2 < μ x11 x12 w1) Q w1

def f3_3 (x9 : Value) (x0 : Value) (x1 : Value) (x2 : Value) (x7 : Value) (J7 : Value → World → Prop) (Q : Value → World → Prop) (w : World) : Prop :=
  klen x0 fun v21 =>
  kint .i64 .lss x9 v21 fun v23 =>
  kB v23 fun b67 => kIf b67
  (f3_4 x0 x1 x2 x7 x9 J7 Q w)
  (f3_6 x0 x1 x2 x7 Q w)

def f3_2 (x0 : Value) (x1 : Value) (x2 : Value) (x7 : Value) (Q : Value → World → Prop) (w : World) : Prop :=
  kL fun (I : Value → World → Prop) (μ : Value → World → Nat) => I (.int .i64 0) w ∧ ∀ (x9 : Value) (w1 : World), I x9 w1 →
  f3_3 x9 x0 x1 x2 x7 (fun y9 w2 => I y9 w2 ∧ μ y9 w2 < μ x9 w1) Q w1

def f3_1 (x0 : Value) (x1 : Value) (x2 : Value) (x7 : Value) (x8 : Value) (x31 : Value) (Q : Value → World → Prop) (w : World) : Prop :=
  kB x31 fun b68 => kIf b68
  (keq Tryz.prog .eql 28 false true x8 .nilIface w fun v19 w20 =>
  Q v19 w20)
  (f3_2 x0 x1 x2 x7 Q w)

def f3_0 (x0 : Value) (x1 : Value) (x2 : Value) (Q : Value → World → Prop) (w : World) : Prop :=
  kcall Tryz.prog 13 #[] w fun v4 w5 =>
  kcall Tryz.prog 12 #[v4, (.int .i64 64)] w5 fun v6 w7 =>
  kext v6 0 fun v8 =>
  kext v6 1 fun v9 =>
  keq Tryz.prog .eql 26 false true v8 (.pointer none) w7 fun v10 w11 =>
  kB v10 fun b12 => kIf (!b12)
  (keq Tryz.prog .neq 28 false true v9 .nilIface w11 fun v13 w14 =>
  kB v13 fun b15 => kIf (!b15)
  (klen x0 fun v16 =>
  kint .i64 .gtr v16 (.int .i64 60) fun v18 =>
  f3_1 x0 x1 x2 v8 v9 v18 Q w14)
  (f3_1 x0 x1 x2 v8 v9 (.bool true) Q w14))
  (f3_1 x0 x1 x2 v8 v9 (.bool true) Q w11)

def f3 (x0 : Value) (x1 : Value) (x2 : Value) (Q : Value → World → Prop) (w : World) : Prop :=
  kcall Tryz.prog 11 #[] w fun v1 w2 =>
  kun .not (some .bool) v1 fun v3 =>
  kB v3 fun b69 => kIf b69
  (Q (.bool false) w2)
  (f3_0 x0 x1 x2 Q w2)

/-! pasodoble/pasodoblelaw09.StoreMoves -/
def f4_9 (x7 : Value) (x10 : Value) (x11 : Value) (x19 : Value) (Q : Value → World → Prop) (w : World) : Prop :=
  kldN 2 x11 w fun v99 =>
  kcall Tryz.prog 24 #[x7, v99, (.int .i64 99)] w fun v100 w101 =>
  kext v100 0 fun v102 =>
  kext v100 1 fun v103 =>
  knew #[(.int .i64 0), (.int .i64 0), (.int .i64 0), (.int .i64 0), (.int .i64 0), (.int .i64 0)] 49 w101 fun v104 w105 =>
  kst 6 v104 v102 w105 fun w106 =>
  kcall Tryz.prog 25 #[x19, x10] w106 fun v107 w108 =>
  kB v107 fun b109 => kIf b109
  (kld (.pointer (some ⟨1, 0, none⟩)) w108 fun v110 =>
  kcall Tryz.prog 20 #[v103, v110] w108 fun v111 w112 =>
  Q v111 w112)
  (Q (.bool false) w108)

def f4_8 (x7 : Value) (x10 : Value) (x11 : Value) (Q : Value → World → Prop) (w : World) : Prop :=
  kldN 2 x11 w fun v94 =>
  kcall Tryz.prog 21 #[x7, v94] w fun v95 w96 =>
  kext v95 0 fun v97 =>
  kext v95 1 fun v98 =>
  f4_9 x7 x10 x11 v97 Q w96

def f4_7 (x0 : Value) (x7 : Value) (x9 : Value) (x10 : Value) (x11 : Value) (x17 : Value) (Q : Value → World → Prop) (w : World) : Prop :=
  kldN 2 x11 w fun v81 =>
  kcall Tryz.prog 21 #[x7, v81] w fun v82 w83 =>
  kext v82 0 fun v84 =>
  kext v82 1 fun v85 =>
  kcall Tryz.prog 19 #[x0, x9] w83 fun v86 w87 =>
  kB v86 fun b114 => kIf b114
  (kldN 2 x11 w87 fun v88 =>
  kldN 6 x17 w87 fun v89 =>
  kcall Tryz.prog 18 #[x7, v88, v89] w87 fun v90 w91 =>
  keq Tryz.prog .neq 28 false true v90 .nilIface w91 fun v92 w93 =>
  kB v92 fun b113 => kIf b113
  (Q (.bool false) w93)
  (f4_8 x7 x10 x11 Q w93))
  (f4_9 x7 x10 x11 v84 Q w87)

def f4_6 (x0 : Value) (x7 : Value) (x9 : Value) (x10 : Value) (x11 : Value) (x17 : Value) (x107 : Value) (Q : Value → World → Prop) (w : World) : Prop :=
  kB x107 fun b115 => kIf b115
  (Q (.bool false) w)
  (f4_7 x0 x7 x9 x10 x11 x17 Q w)

def f4_5 (x0 : Value) (x7 : Value) (x9 : Value) (x10 : Value) (x11 : Value) (x13 : Value) (Q : Value → World → Prop) (w : World) : Prop :=
  kldN 2 x11 w fun v62 =>
  kcall Tryz.prog 24 #[x7, v62, x9] w fun v63 w64 =>
  kext v63 0 fun v65 =>
  kext v63 1 fun v66 =>
  knew #[(.int .i64 0), (.int .i64 0), (.int .i64 0), (.int .i64 0), (.int .i64 0), (.int .i64 0)] 49 w64 fun v67 w68 =>
  kst 6 v67 v65 w68 fun w69 =>
  keq Tryz.prog .neq 28 false true v66 .nilIface w69 fun v70 w71 =>
  kB v70 fun b72 => kIf (!b72)
  (kcall Tryz.prog 19 #[x0, x9] w71 fun v73 w74 =>
  kun .not (some .bool) v73 fun v75 =>
  kB v75 fun b76 => kIf b76
  (kldN 6 v67 w74 fun v77 =>
  kldN 6 x13 w74 fun v78 =>
  keq Tryz.prog .neq 49 false false v77 v78 w74 fun v79 w80 =>
  f4_6 x0 x7 x9 x10 x11 v67 v79 Q w80)
  (f4_6 x0 x7 x9 x10 x11 v67 (.bool false) Q w74))
  (f4_6 x0 x7 x9 x10 x11 v67 (.bool true) Q w71)

def f4_4 (x0 : Value) (x7 : Value) (x9 : Value) (x10 : Value) (x11 : Value) (x13 : Value) (Q : Value → World → Prop) (w : World) : Prop :=
  kldN 2 x11 w fun v50 =>
  kcall Tryz.prog 21 #[x7, v50] w fun v51 w52 =>
  kext v51 0 fun v53 =>
  kext v51 1 fun v54 =>
  klen v53 fun v55 =>
  kcall Tryz.prog 23 #[x0, x9] w52 fun v57 w58 =>
  kcall Tryz.prog 22 #[v57] w58 fun v59 w60 =>
  kint .i64 .neq v55 v59 fun v61 =>
  kB v61 fun b116 => kIf b116
  (Q (.bool false) w60)
  (f4_5 x0 x7 x9 x10 x11 x13 Q w60)

def f4_3 (x0 : Value) (x7 : Value) (x9 : Value) (x10 : Value) (x11 : Value) (x13 : Value) (x74 : Value) (Q : Value → World → Prop) (w : World) : Prop :=
  kB x74 fun b117 => kIf b117
  (Q (.bool false) w)
  (f4_4 x0 x7 x9 x10 x11 x13 Q w)

def f4_2 (x0 : Value) (x1 : Value) (x2 : Value) (x7 : Value) (Q : Value → World → Prop) (w : World) : Prop :=
  kint .u32 .and x0 (.int .u32 255) fun v15 =>
  kcnv .u64 x1 fun v16 =>
  kint .u64 .rem v16 (.int .u64 8) fun v17 =>
  kcnv .i64 v17 fun v18 =>
  kcall Tryz.prog 15 #[v15, (.int .i64 50)] w fun v19 w20 =>
  kcall Tryz.prog 14 #[x7, v19] w20 fun v21 w22 =>
  kext v21 0 fun v23 =>
  kext v21 1 fun v24 =>
  knew #[(.int .i64 0), (.int .i64 0)] 37 w22 fun v25 w26 =>
  kst 2 v25 v23 w26 fun w27 =>
  kbld [(.int .i64 0), (.int .i64 0), (.int .i64 0), (.int .i64 0)] [(0, 1, x2)] fun v28 =>
  kbld [(.int .i64 0), (.int .i64 0), (.int .i64 0), (.int .i64 0), (.int .i64 0), (.int .i64 0)] [(0, 1, v18), (1, 4, v28), (5, 1, (.int .i64 7))] fun v29 =>
  knew #[(.int .i64 0), (.int .i64 0), (.int .i64 0), (.int .i64 0), (.int .i64 0), (.int .i64 0)] 49 w27 fun v30 w31 =>
  kst 6 v30 v29 w31 fun w32 =>
  kldN 2 v25 w32 fun v33 =>
  kldN 6 v30 w32 fun v34 =>
  kcall Tryz.prog 18 #[x7, v33, v34] w32 fun v35 w36 =>
  kcall Tryz.prog 19 #[v15, v18] w36.drew fun v37 w38 =>
  kld (.pointer (some ⟨0, 0, none⟩)) w38 fun v39 =>
  kG (w38 = w38) <|
  kG (kld (.pointer (some ⟨0, 0, none⟩)) w36.drew fun v118 =>
  v118 = v39 ∧ w36.drew = w36.drew) <|
  kcall Tryz.prog 20 #[v35, v39] w38 fun v40 w41 =>
  kbool .neq v37 v40 fun v42 =>
  kB v42 fun b43 => kIf (!b43)
  (kcall Tryz.prog 19 #[v15, v18] w41 fun v44 w45 =>
  kun .not (some .bool) v44 fun v46 =>
  kB v46 fun b47 => kIf b47
  (keq Tryz.prog .neq 28 false true v35 .nilIface w45 fun v48 w49 =>
  kG (w49 = w45) <|
  f4_3 v15 x7 v18 v19 v25 v30 v48 Q w49)
  (f4_3 v15 x7 v18 v19 v25 v30 (.bool false) Q w45))
  (f4_3 v15 x7 v18 v19 v25 v30 (.bool true) Q w41)

def f4_1 (x0 : Value) (x1 : Value) (x2 : Value) (x7 : Value) (x35 : Value) (Q : Value → World → Prop) (w : World) : Prop :=
  kB x35 fun b119 => kIf b119
  (Q (.bool false) w)
  (f4_2 x0 x1 x2 x7 Q w)

def f4_0 (x0 : Value) (x1 : Value) (x2 : Value) (Q : Value → World → Prop) (w : World) : Prop :=
  kcall Tryz.prog 13 #[] w fun v4 w5 =>
  kcall Tryz.prog 12 #[v4, (.int .i64 3)] w5 fun v6 w7 =>
  kext v6 0 fun v8 =>
  kext v6 1 fun v9 =>
  keq Tryz.prog .eql 26 false true v8 (.pointer none) w7 fun v10 w11 =>
  kB v10 fun b12 => kIf (!b12)
  (keq Tryz.prog .neq 28 false true v9 .nilIface w11 fun v13 w14 =>
  f4_1 x0 x1 x2 v8 v13 Q w14)
  (f4_1 x0 x1 x2 v8 (.bool true) Q w11)

def f4 (x0 : Value) (x1 : Value) (x2 : Value) (Q : Value → World → Prop) (w : World) : Prop :=
  kcall Tryz.prog 11 #[] w fun v1 w2 =>
  kun .not (some .bool) v1 fun v3 =>
  kB v3 fun b120 => kIf b120
  (Q (.bool false) w2)
  (f4_0 x0 x1 x2 Q w2)

/-! pasodoble/pasodoblelaw09.StoreFull -/
def f5_6 (x1 : Value) (x5 : Value) (x6 : Value) (x8 : Value) (x9 : Value) (J9 : Value → Value → World → Prop) (Q : Value → World → Prop) (w : World) : Prop :=
  kint .i64 .add x9 (.int .i64 1) fun v38 =>
  J9 x8 v38 w

def f5_5 (x1 : Value) (x5 : Value) (x6 : Value) (x8 : Value) (x9 : Value) (x10 : Value) (J9 : Value → Value → World → Prop) (Q : Value → World → Prop) (w : World) : Prop :=
  kldN 2 x10 w fun v33 =>
  kbldS [(.int .i64 0), (.int .i64 0)] 1 [(0, 2, v33)] 37 w fun v34 w35 =>
  ksem Tryz.prog (Builtin.append_ #[42, 42] 0 #[x8, v34]) w35 fun v36 w37 =>
  f5_6 x1 x5 x6 v36 x9 J9 Q w37

def f5_4 (x1 : Value) (x5 : Value) (x6 : Value) (x8 : Value) (x9 : Value) (J9 : Value → Value → World → Prop) (Q : Value → World → Prop) (w : World) : Prop :=
  kint .u32 .and x1 (.int .u32 255) fun v21 =>
  kcall Tryz.prog 15 #[v21, x9] w fun v22 w23 =>
  kcall Tryz.prog 14 #[x6, v22] w23 fun v24 w25 =>
  kext v24 0 fun v26 =>
  kext v24 1 fun v27 =>
  knew #[(.int .i64 0), (.int .i64 0)] 37 w25 fun v28 w29 =>
  kst 2 v28 v26 w29 fun w30 =>
  keq Tryz.prog .neq 28 false true v27 .nilIface w30 fun v31 w32 =>
  kB v31 fun b39 => kIf b39
  (Q (.bool false) w32)
  (f5_5 x1 x5 x6 x8 x9 v28 J9 Q w32)

def f5_11 (Q : Value → World → Prop) (w : World) : Prop :=
  kcall Tryz.prog 14 #[(.pointer none), (.slice none 0 0)] w fun v134 w135 =>
  kext v134 0 fun v136 =>
  kext v134 1 fun v137 =>
  knew #[(.int .i64 0), (.int .i64 0)] 37 w135 fun v138 w139 =>
  kst 2 v138 v136 w139 fun w140 =>
  kbld [(.int .i64 0), (.int .i64 0)] [] fun v141 =>
  kcall Tryz.prog 21 #[(.pointer none), v141] w140 fun v142 w143 =>
  kext v142 0 fun v144 =>
  kext v142 1 fun v145 =>
  kld (.pointer (some ⟨4, 0, none⟩)) w143 fun v146 =>
  kcall Tryz.prog 20 #[v137, v146] w143 fun v147 w148 =>
  kB v147 fun b149 => kIf b149
  (kld (.pointer (some ⟨4, 0, none⟩)) w148 fun v150 =>
  kcall Tryz.prog 20 #[v145, v150] w148 fun v151 w152 =>
  kB v151 fun b153 => kIf b153
  (kbld [(.int .i64 0), (.int .i64 0)] [] fun v154 =>
  kcall Tryz.prog 29 #[(.pointer none), v154] w152 fun v155 w156 =>
  kun .not (some .bool) v155 fun v157 =>
  kB v157 fun b158 => kIf b158
  (kcall Tryz.prog 17 #[(.pointer none)] w156 fun v159 w160 =>
  kcall Tryz.prog 26 #[(.pointer none)] w160 fun v161 w162 =>
  kint .i64 .add v159 v161 fun v163 =>
  kcall Tryz.prog 16 #[(.pointer none), (.int .u32 0), (.int .u32 0)] w162 fun v164 w165 =>
  klen v164 fun v166 =>
  kint .i64 .add v163 v166 fun v168 =>
  kcall Tryz.prog 30 #[(.pointer none), (.int .i64 0), (.int .i64 0)] w165 fun v169 w170 =>
  klen v169 fun v171 =>
  kint .i64 .add v168 v171 fun v173 =>
  kint .i64 .eql v173 (.int .i64 0) fun v174 =>
  Q v174 w170)
  (Q (.bool false) w156))
  (Q (.bool false) w152))
  (Q (.bool false) w148)

def f5_10 (x177 : Value) (Q : Value → World → Prop) (w : World) : Prop :=
  kB x177 fun b175 => kIf b175
  (Q (.bool false) w)
  (f5_11 Q w)

def f5_9 (x1 : Value) (x5 : Value) (x6 : Value) (x8 : Value) (Q : Value → World → Prop) (w : World) : Prop :=
  kint .i64 .gtr x5 (.int .i64 0) fun v64 =>
  kB v64 fun b176 => kIf b176
  (kint .i64 .quo x5 (.int .i64 2) fun v65 =>
  kix (some (.slice 37)) (some 2) x8 v65 fun v66 =>
  kldN 2 v66 w fun v67 =>
  kcall Tryz.prog 27 #[x6, v67] w fun v68 w69 =>
  kext v68 0 fun v70 =>
  kext v68 1 fun v71 =>
  kint .i64 .quo x5 (.int .i64 2) fun v72 =>
  kix (some (.slice 37)) (some 2) x8 v72 fun v73 =>
  kldN 2 v73 w69 fun v74 =>
  kcall Tryz.prog 27 #[x6, v74] w69 fun v75 w76 =>
  kext v75 0 fun v77 =>
  kext v75 1 fun v78 =>
  kint .i64 .quo x5 (.int .i64 2) fun v79 =>
  kix (some (.slice 37)) (some 2) x8 v79 fun v80 =>
  kldN 2 v80 w76 fun v81 =>
  kcall Tryz.prog 28 #[x6, v81, (.int .i64 0)] w76 fun v82 w83 =>
  kext v82 0 fun v84 =>
  kext v82 1 fun v85 =>
  knew #[(.int .i64 0), (.int .i64 0), (.int .i64 0), (.int .i64 0), (.int .i64 0), (.int .i64 0)] 49 w83 fun v86 w87 =>
  kst 6 v86 v84 w87 fun w88 =>
  kcall Tryz.prog 14 #[x6, (.slice none 0 0)] w88 fun v89 w90 =>
  kext v89 0 fun v91 =>
  kext v89 1 fun v92 =>
  knew #[(.int .i64 0), (.int .i64 0)] 37 w90 fun v93 w94 =>
  kst 2 v93 v91 w94 fun w95 =>
  keq Tryz.prog .neq 28 false true v71 .nilIface w95.drew fun v96 w97 =>
  kG (w97 = w95.drew) <|
  kB v96 fun b98 => kIf (!b98)
  (kint .u32 .and x1 (.int .u32 255) fun v99 =>
  kint .i64 .quo x5 (.int .i64 2) fun v100 =>
  kcall Tryz.prog 15 #[v99, v100] w97 fun v101 w102 =>
  kcall Tryz.prog 25 #[v70, v101] w102 fun v103 w104 =>
  kun .not (some .bool) v103 fun v105 =>
  kB v105 fun b106 => kIf (!b106)
  (kld (.pointer (some ⟨3, 0, none⟩)) w104 fun v107 =>
  kG (w104 = w104) <|
  kcall Tryz.prog 20 #[v78, v107] w104 fun v108 w109 =>
  kun .not (some .bool) v108 fun v110 =>
  kB v110 fun b111 => kIf (!b111)
  (kld (.pointer (some ⟨3, 0, none⟩)) w109 fun v112 =>
  kG (w109 = w109) <|
  kcall Tryz.prog 20 #[v85, v112] w109 fun v113 w114 =>
  kun .not (some .bool) v113 fun v115 =>
  kB v115 fun b116 => kIf (!b116)
  (keq Tryz.prog .neq 28 false true v92 .nilIface w114 fun v117 w118 =>
  kG (w118 = w114) <|
  kB v117 fun b119 => kIf (!b119)
  (kldN 2 v93 w118 fun v120 =>
  kG (w118 = w118) <|
  kint .i64 .quo x5 (.int .i64 2) fun v121 =>
  kix (some (.slice 37)) (some 2) x8 v121 fun v122 =>
  kldN 2 v122 w118 fun v123 =>
  kG (w118 = w118) <|
  keq Tryz.prog .eql 37 false false v120 v123 w118 fun v124 w125 =>
  kG (w125 = w118) <|
  kB v124 fun b126 => kIf (!b126)
  (kfld 0 v93 fun v127 =>
  kld v127 w125 fun v128 =>
  kG (w125 = w125) <|
  kint .i64 .quo x5 (.int .i64 2) fun v129 =>
  kix (some (.slice 37)) (some 2) x8 v129 fun v130 =>
  kfld 0 v130 fun v131 =>
  kld v131 w125 fun v132 =>
  kG (w125 = w125) <|
  kint .i64 .neq v128 v132 fun v133 =>
  f5_10 v133 Q w125)
  (f5_10 (.bool true) Q w125))
  (f5_10 (.bool true) Q w118))
  (f5_10 (.bool true) Q w114))
  (f5_10 (.bool true) Q w109))
  (f5_10 (.bool true) Q w104))
  (f5_10 (.bool true) Q w97))
  (f5_11 Q w)

def f5_8 (x1 : Value) (x5 : Value) (x6 : Value) (x8 : Value) (x92 : Value) (Q : Value → World → Prop) (w : World) : Prop :=
  kB x92 fun b177 => kIf b177
  (Q (.bool false) w)
  (f5_9 x1 x5 x6 x8 Q w)

def f5_7 (x1 : Value) (x5 : Value) (x6 : Value) (x8 : Value) (Q : Value → World → Prop) (w : World) : Prop :=
  kcall Tryz.prog 26 #[x6] w fun v40 w41 =>
  kint .u32 .andNot (.int .u32 255) x1 fun v42 =>
  kcall Tryz.prog 15 #[v42, (.int .i64 0)] w41 fun v43 w44 =>
  kcall Tryz.prog 14 #[x6, v43] w44 fun v45 w46 =>
  kext v45 0 fun v47 =>
  kext v45 1 fun v48 =>
  knew #[(.int .i64 0), (.int .i64 0)] 37 w46 fun v49 w50 =>
  kst 2 v49 v47 w50 fun w51 =>
  kld (.pointer (some ⟨2, 0, none⟩)) w51 fun v52 =>
  kcall Tryz.prog 20 #[v48, v52] w51 fun v53 w54 =>
  kun .not (some .bool) v53 fun v55 =>
  kB v55 fun b56 => kIf (!b56)
  (kcall Tryz.prog 17 #[x6] w54 fun v57 w58 =>
  kint .i64 .neq v57 x5 fun v59 =>
  kB v59 fun b60 => kIf (!b60)
  (kcall Tryz.prog 26 #[x6] w58 fun v61 w62 =>
  kint .i64 .neq v61 v40 fun v63 =>
  f5_8 x1 x5 x6 x8 v63 Q w62)
  (f5_8 x1 x5 x6 x8 (.bool true) Q w58))
  (f5_8 x1 x5 x6 x8 (.bool true) Q w54)

def f5_3 (x8 : Value) (x9 : Value) (x1 : Value) (x5 : Value) (x6 : Value) (J9 : Value → Value → World → Prop) (Q : Value → World → Prop) (w : World) : Prop :=
  kint .i64 .lss x9 x5 fun v20 =>
  kB v20 fun b178 => kIf b178
  (f5_4 x1 x5 x6 x8 x9 J9 Q w)
  (f5_7 x1 x5 x6 x8 Q w)

def f5_2 (x1 : Value) (x5 : Value) (x6 : Value) (Q : Value → World → Prop) (w : World) : Prop :=
  kbldS [(.int .i64 0), (.int .i64 0)] 0 [] 37 w fun v18 w19 =>
  kL fun (I : Value → Value → World → Prop) (μ : Value → Value → World → Nat) => I v18 (.int .i64 0) w19 ∧ ∀ (x8 x9 : Value) (w1 : World), I x8 x9 w1 →
  f5_3 x8 x9 x1 x5 x6 (fun y8 y9 w2 => I y8 y9 w2 ∧ μ y8 y9 w2 < μ x8 x9 w1) Q w1

def f5_1 (x1 : Value) (x5 : Value) (x6 : Value) (x45 : Value) (Q : Value → World → Prop) (w : World) : Prop :=
  kB x45 fun b179 => kIf b179
  (Q (.bool false) w)
  (f5_2 x1 x5 x6 Q w)

def f5_0 (x0 : Value) (x1 : Value) (Q : Value → World → Prop) (w : World) : Prop :=
  kcnv .u64 x0 fun v4 =>
  kint .u64 .rem v4 (.int .u64 65) fun v5 =>
  kcnv .i64 v5 fun v6 =>
  kcall Tryz.prog 13 #[] w fun v7 w8 =>
  kcall Tryz.prog 12 #[v7, v6] w8 fun v9 w10 =>
  kext v9 0 fun v11 =>
  kext v9 1 fun v12 =>
  keq Tryz.prog .eql 26 false true v11 (.pointer none) w10 fun v13 w14 =>
  kB v13 fun b15 => kIf (!b15)
  (keq Tryz.prog .neq 28 false true v12 .nilIface w14 fun v16 w17 =>
  f5_1 x1 v6 v11 v16 Q w17)
  (f5_1 x1 v6 v11 (.bool true) Q w14)

def f5 (x0 : Value) (x1 : Value) (Q : Value → World → Prop) (w : World) : Prop :=
  kcall Tryz.prog 11 #[] w fun v1 w2 =>
  kun .not (some .bool) v1 fun v3 =>
  kB v3 fun b180 => kIf b180
  (Q (.bool false) w2)
  (f5_0 x0 x1 Q w2)

/-! pasodoble/pasodoblelaw09.StoreApart -/
def f6_6 (x0 : Value) (x1 : Value) (x2 : Value) (x7 : Value) (x9 : Value) (x10 : Value) (J8 : Value → Value → World → Prop) (Q : Value → World → Prop) (w : World) : Prop :=
  kint .i64 .add x10 (.int .i64 1) fun v50 =>
  J8 x9 v50 w

def f6_5 (x0 : Value) (x1 : Value) (x2 : Value) (x7 : Value) (x9 : Value) (x10 : Value) (x11 : Value) (J8 : Value → Value → World → Prop) (Q : Value → World → Prop) (w : World) : Prop :=
  kldN 2 x11 w fun v45 =>
  kbldS [(.int .i64 0), (.int .i64 0)] 1 [(0, 2, v45)] 37 w fun v46 w47 =>
  ksem Tryz.prog (Builtin.append_ #[42, 42] 0 #[x9, v46]) w47 fun v48 w49 =>
  f6_6 x0 x1 x2 x7 v48 x10 J8 Q w49

def f6_4 (x0 : Value) (x1 : Value) (x2 : Value) (x7 : Value) (x9 : Value) (x10 : Value) (J8 : Value → Value → World → Prop) (Q : Value → World → Prop) (w : World) : Prop :=
  kix (some (.slice 24)) (some 1) x0 x10 fun v30 =>
  kld v30 w fun v31 =>
  kint .u32 .and v31 (.int .u32 255) fun v32 =>
  kint .i64 .mul (.int .i64 100) x10 fun v33 =>
  kcall Tryz.prog 15 #[v32, v33] w fun v34 w35 =>
  kcall Tryz.prog 14 #[x7, v34] w35 fun v36 w37 =>
  kext v36 0 fun v38 =>
  kext v36 1 fun v39 =>
  knew #[(.int .i64 0), (.int .i64 0)] 37 w37 fun v40 w41 =>
  kst 2 v40 v38 w41 fun w42 =>
  keq Tryz.prog .neq 28 false true v39 .nilIface w42 fun v43 w44 =>
  kB v43 fun b51 => kIf b51
  (Q (.bool false) w44)
  (f6_5 x0 x1 x2 x7 x9 x10 v40 J8 Q w44)

def f6_11 (x0 : Value) (x2 : Value) (x7 : Value) (x9 : Value) (x13 : Value) (x14 : Value) (J16 : Value → World → Prop) (Q : Value → World → Prop) (w : World) : Prop :=
  kint .i64 .add x14 (.int .i64 1) fun v77 =>
  J16 v77 w

def f6_12 (x0 : Value) (x2 : Value) (x7 : Value) (x9 : Value) (x13 : Value) (x14 : Value) (x15 : Value) (x16 : Value) (J16 : Value → World → Prop) (Q : Value → World → Prop) (w : World) : Prop :=
  kfld 11 x15 fun v78 =>
  kld v78 w fun v79 =>
  kcnv .u64 v79 fun v80 =>
  kint .u64 .rem v80 (.int .u64 8) fun v81 =>
  kcnv .i64 v81 fun v82 =>
  kfld 13 x15 fun v83 =>
  kld v83 w fun v84 =>
  kbld [(.int .i64 0), (.int .i64 0), (.int .i64 0), (.int .i64 0)] [(0, 1, v84)] fun v85 =>
  kbld [(.int .i64 0), (.int .i64 0), (.int .i64 0), (.int .i64 0), (.int .i64 0), (.int .i64 0)] [(0, 1, v82), (1, 4, v85)] fun v86 =>
  knew #[(.int .i64 0), (.int .i64 0), (.int .i64 0), (.int .i64 0), (.int .i64 0), (.int .i64 0)] 49 w fun v87 w88 =>
  kst 6 v87 v86 w88 fun w89 =>
  kfld 0 x15 fun v90 =>
  kld v90 w89 fun v91 =>
  kint .i64 .eql v91 (.int .i64 2) fun v92 =>
  kB v92 fun b129 => kIf b129
  (kix (some (.slice 37)) (some 2) x9 x16 fun v93 =>
  kldN 2 v93 w89 fun v94 =>
  kcall Tryz.prog 27 #[x7, v94] w89 fun v95 w96 =>
  f6_11 x0 x2 x7 x9 x13 x14 J16 Q w96)
  (kint .i64 .eql v91 (.int .i64 3) fun v97 =>
  kB v97 fun b128 => kIf b128
  (kix (some (.slice 37)) (some 2) x9 x16 fun v98 =>
  kldN 2 v98 w89.drew fun v99 =>
  kG (w89.drew = w89.drew) <|
  kldN 6 v87 w89.drew fun v100 =>
  kG (w89.drew = w89.drew) <|
  kcall Tryz.prog 18 #[x7, v99, v100] w89.drew fun v101 w102 =>
  f6_11 x0 x2 x7 x9 x13 x14 J16 Q w102)
  (kint .i64 .eql v91 (.int .i64 4) fun v103 =>
  kB v103 fun b127 => kIf b127
  (kix (some (.slice 37)) (some 2) x9 x16 fun v104 =>
  kldN 2 v104 w89.drew fun v105 =>
  kG (w89.drew = w89.drew) <|
  kfld 0 v87 fun v106 =>
  kld v106 w89.drew fun v107 =>
  kG (w89.drew = w89.drew) <|
  kcall Tryz.prog 24 #[x7, v105, v107] w89.drew fun v108 w109 =>
  f6_11 x0 x2 x7 x9 x13 x14 J16 Q w109)
  (kint .i64 .eql v91 (.int .i64 5) fun v110 =>
  kB v110 fun b126 => kIf b126
  (kix (some (.slice 37)) (some 2) x9 x16 fun v111 =>
  kldN 2 v111 w89.drew fun v112 =>
  kG (w89.drew = w89.drew) <|
  kldN 6 v87 w89.drew fun v113 =>
  kG (w89.drew = w89.drew) <|
  kcall Tryz.prog 31 #[x7, v112, v113] w89.drew fun v114 w115 =>
  f6_11 x0 x2 x7 x9 x13 x14 J16 Q w115)
  (kint .i64 .eql v91 (.int .i64 6) fun v116 =>
  kB v116 fun b125 => kIf b125
  (kix (some (.slice 37)) (some 2) x9 x16 fun v117 =>
  kldN 2 v117 w89.drew fun v118 =>
  kG (w89.drew = w89.drew) <|
  kfld 0 v87 fun v119 =>
  kld v119 w89.drew fun v120 =>
  kG (w89.drew = w89.drew) <|
  kfld 13 x15 fun v121 =>
  kld v121 w89.drew fun v122 =>
  kG (w89.drew = w89.drew) <|
  kcall Tryz.prog 32 #[x7, v118, v120, (.int .i64 0), v122, x14] w89.drew fun v123 w124 =>
  f6_11 x0 x2 x7 x9 x13 x14 J16 Q w124)
  (f6_11 x0 x2 x7 x9 x13 x14 J16 Q w89)))))

def f6_10 (x0 : Value) (x2 : Value) (x7 : Value) (x9 : Value) (x13 : Value) (x14 : Value) (J16 : Value → World → Prop) (Q : Value → World → Prop) (w : World) : Prop :=
  kix (some (.slice 66)) (some 16) x2 x14 fun v63 =>
  kldN 16 v63 w fun v64 =>
  knew #[(.int .i64 0), (.int .i64 0), (.int .i64 0), (.int .i64 0), (.slice none 0 0), (.int .i64 0), (.int .i64 0), (.int .i64 0), (.int .i64 0), (.int .i64 0), (.int .i64 0), (.int .i64 0), (.int .i64 0), (.int .i64 0), (.int .u32 0), (.int .u32 0)] 66 w fun v65 w66 =>
  kst 16 v65 v64 w66 fun w67 =>
  kfld 1 v65 fun v68 =>
  kld v68 w67 fun v69 =>
  kcnv .u64 v69 fun v70 =>
  klen x9 fun v71 =>
  kcnv .u64 v71 fun v73 =>
  kint .u64 .rem v70 v73 fun v74 =>
  kcnv .i64 v74 fun v75 =>
  kint .i64 .eql v75 x13 fun v76 =>
  kB v76 fun b130 => kIf b130
  (f6_11 x0 x2 x7 x9 x13 x14 J16 Q w67)
  (f6_12 x0 x2 x7 x9 x13 x14 v65 v75 J16 Q w67)

def f6_13 (x0 : Value) (x7 : Value) (x9 : Value) (x13 : Value) (Q : Value → World → Prop) (w : World) : Prop :=
  kix (some (.slice 37)) (some 2) x9 x13 fun v131 =>
  kldN 2 v131 w fun v132 =>
  kcall Tryz.prog 21 #[x7, v132] w fun v133 w134 =>
  kext v133 0 fun v135 =>
  kext v133 1 fun v136 =>
  kix (some (.slice 37)) (some 2) x9 x13 fun v137 =>
  kldN 2 v137 w134 fun v138 =>
  kcall Tryz.prog 33 #[x7, v138] w134 fun v139 w140 =>
  kext v139 0 fun v141 =>
  kext v139 1 fun v142 =>
  keq Tryz.prog .eql 28 false true v136 .nilIface w140 fun v143 w144 =>
  kB v143 fun b145 => kIf b145
  (keq Tryz.prog .eql 28 false true v142 .nilIface w144 fun v146 w147 =>
  kB v146 fun b148 => kIf b148
  (kix (some (.slice 24)) (some 1) x0 x13 fun v149 =>
  kld v149 w147 fun v150 =>
  kint .u32 .and v150 (.int .u32 255) fun v151 =>
  kint .u32 .eql v141 v151 fun v152 =>
  kB v152 fun b153 => kIf b153
  (kix (some (.slice 24)) (some 1) x0 x13 fun v154 =>
  kld v154 w147 fun v155 =>
  kint .u32 .and v155 (.int .u32 255) fun v156 =>
  kint .i64 .mul (.int .i64 100) x13 fun v157 =>
  kcall Tryz.prog 15 #[v156, v157] w147 fun v158 w159 =>
  kcall Tryz.prog 25 #[v135, v158] w159 fun v160 w161 =>
  Q v160 w161)
  (Q (.bool false) w147))
  (Q (.bool false) w147))
  (Q (.bool false) w144)

def f6_9 (x0 : Value) (x2 : Value) (x7 : Value) (x9 : Value) (x13 : Value) (x14 : Value) (x87 : Value) (J16 : Value → World → Prop) (Q : Value → World → Prop) (w : World) : Prop :=
  kB x87 fun b162 => kIf b162
  (f6_10 x0 x2 x7 x9 x13 x14 J16 Q w)
  (f6_13 x0 x7 x9 x13 Q w)

def f6_8 (x14 : Value) (x0 : Value) (x2 : Value) (x7 : Value) (x9 : Value) (x13 : Value) (J16 : Value → World → Prop) (Q : Value → World → Prop) (w : World) : Prop :=
  klen x2 fun v58 =>
  kint .i64 .lss x14 v58 fun v60 =>
  kB v60 fun b61 => kIf b61
  (kint .i64 .lss x14 (.int .i64 150) fun v62 =>
  f6_9 x0 x2 x7 x9 x13 x14 v62 J16 Q w)
  (f6_9 x0 x2 x7 x9 x13 x14 (.bool false) J16 Q w)

def f6_7 (x0 : Value) (x1 : Value) (x2 : Value) (x7 : Value) (x9 : Value) (Q : Value → World → Prop) (w : World) : Prop :=
  kcnv .u64 x1 fun v52 =>
  klen x9 fun v53 =>
  kcnv .u64 v53 fun v55 =>
  kint .u64 .rem v52 v55 fun v56 =>
  kcnv .i64 v56 fun v57 =>
  kL fun (I : Value → World → Prop) (μ : Value → World → Nat) => I (.int .i64 0) w ∧ ∀ (x14 : Value) (w1 : World), I x14 w1 →
  f6_8 x14 x0 x2 x7 x9 v57 (fun y14 w2 => I y14 w2 ∧ μ y14 w2 < μ x14 w1) Q w1

def f6_3 (x9 : Value) (x10 : Value) (x0 : Value) (x1 : Value) (x2 : Value) (x7 : Value) (J8 : Value → Value → World → Prop) (Q : Value → World → Prop) (w : World) : Prop :=
  klen x0 fun v27 =>
  kint .i64 .lss x10 v27 fun v29 =>
  kB v29 fun b163 => kIf b163
  (f6_4 x0 x1 x2 x7 x9 x10 J8 Q w)
  (f6_7 x0 x1 x2 x7 x9 Q w)

def f6_2 (x0 : Value) (x1 : Value) (x2 : Value) (x7 : Value) (Q : Value → World → Prop) (w : World) : Prop :=
  kbldS [(.int .i64 0), (.int .i64 0)] 0 [] 37 w fun v25 w26 =>
  kL fun (I : Value → Value → World → Prop) (μ : Value → Value → World → Nat) => I v25 (.int .i64 0) w26 ∧ ∀ (x9 x10 : Value) (w1 : World), I x9 x10 w1 →
  f6_3 x9 x10 x0 x1 x2 x7 (fun y9 y10 w2 => I y9 y10 w2 ∧ μ y9 y10 w2 < μ x9 x10 w1) Q w1

def f6_1 (x0 : Value) (x1 : Value) (x2 : Value) (x7 : Value) (x8 : Value) (x44 : Value) (Q : Value → World → Prop) (w : World) : Prop :=
  kB x44 fun b164 => kIf b164
  (keq Tryz.prog .eql 28 false true x8 .nilIface w fun v23 w24 =>
  Q v23 w24)
  (f6_2 x0 x1 x2 x7 Q w)

def f6_0 (x0 : Value) (x1 : Value) (x2 : Value) (Q : Value → World → Prop) (w : World) : Prop :=
  kcall Tryz.prog 13 #[] w fun v4 w5 =>
  kcall Tryz.prog 12 #[v4, (.int .i64 64)] w5 fun v6 w7 =>
  kext v6 0 fun v8 =>
  kext v6 1 fun v9 =>
  keq Tryz.prog .eql 26 false true v8 (.pointer none) w7 fun v10 w11 =>
  kB v10 fun b12 => kIf (!b12)
  (keq Tryz.prog .neq 28 false true v9 .nilIface w11 fun v13 w14 =>
  kB v13 fun b15 => kIf (!b15)
  (klen x0 fun v16 =>
  kint .i64 .eql v16 (.int .i64 0) fun v18 =>
  kB v18 fun b19 => kIf (!b19)
  (klen x0 fun v20 =>
  kint .i64 .gtr v20 (.int .i64 60) fun v22 =>
  f6_1 x0 x1 x2 v8 v9 v22 Q w14)
  (f6_1 x0 x1 x2 v8 v9 (.bool true) Q w14))
  (f6_1 x0 x1 x2 v8 v9 (.bool true) Q w14))
  (f6_1 x0 x1 x2 v8 v9 (.bool true) Q w11)

def f6 (x0 : Value) (x1 : Value) (x2 : Value) (Q : Value → World → Prop) (w : World) : Prop :=
  kcall Tryz.prog 11 #[] w fun v1 w2 =>
  kun .not (some .bool) v1 fun v3 =>
  kB v3 fun b165 => kIf b165
  (Q (.bool false) w2)
  (f6_0 x0 x1 x2 Q w2)

/-! pasodoble/pasodoblelaw09.parts -/
def f15_2 (x0 : Value) (x1 : Value) (x5 : Value) (x6 : Value) (J3 : Value → Value → World → Prop) (Q : Value → World → Prop) (w : World) : Prop :=
  kint .i64 .add x6 (.int .i64 1) fun v14 =>
  J3 x5 v14 w

def f15_1 (x0 : Value) (x1 : Value) (x5 : Value) (x6 : Value) (J3 : Value → Value → World → Prop) (Q : Value → World → Prop) (w : World) : Prop :=
  kint .u32 .shr x0 x6 fun v4 =>
  kint .u32 .rem v4 (.int .u32 2) fun v5 =>
  kint .u32 .eql v5 (.int .u32 1) fun v6 =>
  kB v6 fun b15 => kIf b15
  (kint .i64 .add x1 x6 fun v7 =>
  kbld [(.int .i64 0), (.int .i64 0), (.int .i64 0), (.int .i64 0)] [(0, 1, v7)] fun v8 =>
  kbld [(.int .i64 0), (.int .i64 0), (.int .i64 0), (.int .i64 0), (.int .i64 0), (.int .i64 0)] [(0, 1, x6), (1, 4, v8), (5, 1, x6)] fun v9 =>
  kbldS [(.int .i64 0), (.int .i64 0), (.int .i64 0), (.int .i64 0), (.int .i64 0), (.int .i64 0)] 1 [(0, 6, v9)] 49 w fun v10 w11 =>
  ksem Tryz.prog (Builtin.append_ #[40, 40] 0 #[x5, v10]) w11 fun v12 w13 =>
  f15_2 x0 x1 v12 x6 J3 Q w13)
  (f15_2 x0 x1 x5 x6 J3 Q w)

def f15_3 (x5 : Value) (Q : Value → World → Prop) (w : World) : Prop :=
  Q x5 w

def f15_0 (x5 : Value) (x6 : Value) (x0 : Value) (x1 : Value) (J3 : Value → Value → World → Prop) (Q : Value → World → Prop) (w : World) : Prop :=
  kint .i64 .lss x6 (.int .i64 8) fun v3 =>
  kB v3 fun b16 => kIf b16
  (f15_1 x0 x1 x5 x6 J3 Q w)
  (f15_3 x5 Q w)

def f15 (x0 : Value) (x1 : Value) (Q : Value → World → Prop) (w : World) : Prop :=
  kbldS [(.int .i64 0), (.int .i64 0), (.int .i64 0), (.int .i64 0), (.int .i64 0), (.int .i64 0)] 0 [] 49 w fun v1 w2 =>
  kL fun (I : Value → Value → World → Prop) (μ : Value → Value → World → Nat) => I v1 (.int .i64 0) w2 ∧ ∀ (x5 x6 : Value) (w1 : World), I x5 x6 w1 →
  f15_0 x5 x6 x0 x1 (fun y5 y6 w2 => I y5 y6 w2 ∧ μ y5 y6 w2 < μ x5 x6 w1) Q w1

/-! pasodoble/pasodobleref09.Same -/
def f25_3 (x0 : Value) (x1 : Value) (x5 : Value) (J4 : Value → World → Prop) (Q : Value → World → Prop) (w : World) : Prop :=
  kint .i64 .add x5 (.int .i64 1) fun v15 =>
  J4 v15 w

def f25_2 (x0 : Value) (x1 : Value) (x5 : Value) (J4 : Value → World → Prop) (Q : Value → World → Prop) (w : World) : Prop :=
  kix (some (.slice 49)) (some 6) x0 x5 fun v9 =>
  kldN 6 v9 w.drew fun v10 =>
  kG (w.drew = w.drew) <|
  kix (some (.slice 49)) (some 6) x1 x5 fun v11 =>
  kldN 6 v11 w.drew fun v12 =>
  kG (w.drew = w.drew) <|
  keq Tryz.prog .neq 49 false false v10 v12 w.drew fun v13 w14 =>
  kG (w14 = w.drew) <|
  kB v13 fun b16 => kIf b16
  (Q (.bool false) w14)
  (f25_3 x0 x1 x5 J4 Q w14)

def f25_4 (Q : Value → World → Prop) (w : World) : Prop :=
  Q (.bool true) w

def f25_1 (x5 : Value) (x0 : Value) (x1 : Value) (J4 : Value → World → Prop) (Q : Value → World → Prop) (w : World) : Prop :=
  klen x0 fun v6 =>
  kint .i64 .lss x5 v6 fun v8 =>
  kB v8 fun b17 => kIf b17
  (f25_2 x0 x1 x5 J4 Q w)
  (f25_4 Q w)

def f25_0 (x0 : Value) (x1 : Value) (Q : Value → World → Prop) (w : World) : Prop :=
  kL fun (I : Value → World → Prop) (μ : Value → World → Nat) => I (.int .i64 0) w ∧ ∀ (x5 : Value) (w1 : World), I x5 w1 →
  f25_1 x5 x0 x1 (fun y5 w2 => I y5 w2 ∧ μ y5 w2 < μ x5 w1) Q w1

def f25 (x0 : Value) (x1 : Value) (Q : Value → World → Prop) (w : World) : Prop :=
  klen x0 fun v1 =>
  klen x1 fun v3 =>
  kint .i64 .neq v1 v3 fun v5 =>
  kB v5 fun b18 => kIf b18
  (Q (.bool false) w)
  (f25_0 x0 x1 Q w)

end Go.Proofs.YtlkpadfkmdgjcaaGreatDoor
end
section
set_option linter.unusedSimpArgs false
set_option linter.unusedVariables false
namespace Go.Proofs.YtlkpadfkmdgjcaaGreatDoor
open Go Go.Ev
set_option linter.unusedVariables false
set_option linter.unusedSimpArgs false
set_option maxRecDepth 100000
attribute [local irreducible] kO kB kStr kInt kN kG kIf kfld kld kldN kst knew kmap kbld kbldS kext kcnv klenStr klen kcap kprt kprtN kbool kint kstr keq kun ksl kix kiv kta kmk kmm ksem ksemU kextf kcallV kcallM kcall kL

deriving instance DecidableEq for Part
theorem wf_i64 {n : Int} (h : I64 n) : (Lit.int .i64 n).wf = true := by
  simp [Lit.wf, IntKind.min, IntKind.max, IntKind.signed, IntKind.bits]
  exact h
theorem cellsInt : Tryz.prog.cellsOf 3 = 1 := by kernel_rfl
theorem kl_int {n : Int} (h : I64 n) (d : Nat) : Tryz.prog.keyLits (d + 1) 3 [.int .i64 n] = some [.int .i64 n] := by
  unfold Program.keyLits
  simp only [Tryz.underlying3]
  rw [if_pos ⟨trivial, wf_i64 h⟩]
end Go.Proofs.YtlkpadfkmdgjcaaGreatDoor
end
section
set_option linter.unusedSimpArgs false
set_option linter.unusedVariables false
namespace Go.Proofs.YtlkpadfkmdgjcaaGreatDoor
open Go Go.Ev
set_option linter.unusedVariables false
set_option linter.unusedSimpArgs false
set_option maxRecDepth 100000
attribute [local irreducible] kO kB kStr kInt kN kG kIf kfld kld kldN kst knew kmap kbld kbldS kext kcnv klenStr klen kcap kprt kprtN kbool kint kstr keq kun ksl kix kiv kta kmk kmm ksem ksemU kextf kcallV kcallM kcall kL

def pa (c v : Int) : Part := ⟨c, v, 0, 0, 0, 0⟩
def l1 : List Part := [pa 1 0, pa 0 5]
def l2 : List Part := [pa 0 0, pa 1 0]
end Go.Proofs.YtlkpadfkmdgjcaaGreatDoor
end
section
set_option linter.unusedSimpArgs false
set_option linter.unusedVariables false
namespace Go.Proofs.YtlkpadfkmdgjcaaGreatDoor
open Go Go.Ev
set_option linter.unusedVariables false
set_option linter.unusedSimpArgs false
set_option maxRecDepth 100000
attribute [local irreducible] kO kB kStr kInt kN kG kIf kfld kld kldN kst knew kmap kbld kbldS kext kcnv klenStr klen kcap kprt kprtN kbool kint kstr keq kun ksl kix kiv kta kmk kmm ksem ksemU kextf kcallV kcallM kcall kL

theorem wide_str : ∀ j, j < 8 → (⟨#[97, 98, 99, 100, 101, 102, 103, 104]⟩ : ByteArray).extract j (j + 1) = ⟨#[UInt8.ofNat (97 + j)]⟩
  | 0, _ => rfl | 1, _ => rfl | 2, _ => rfl | 3, _ => rfl | 4, _ => rfl | 5, _ => rfl | 6, _ => rfl | 7, _ => rfl
  | n + 8, h => by omega
end Go.Proofs.YtlkpadfkmdgjcaaGreatDoor
end
section
set_option linter.unusedSimpArgs false
set_option linter.unusedVariables false
namespace Go.Proofs.YtlkpadfkmdgjcaaGreatDoor
open Go Go.Ev
set_option linter.unusedVariables false
set_option linter.unusedSimpArgs false
set_option maxRecDepth 100000

/-! ### The schema of eight -/
def comp8 (i : Nat) : Comp := ⟨ByteArray.extract ⟨#[97, 98, 99, 100, 101, 102, 103, 104]⟩ i (i + 1), 1, decide ((i : Int) < 7), 0, 0, 0, 0⟩
def comps8 (n : Nat) : List Comp := (List.range n).map comp8
theorem comps8_succ (n : Nat) : comps8 (n + 1) = comps8 n ++ [comp8 n] := by simp [comps8, List.range_succ]
def EightInv (w w0 : World) (b0 b1 : Nat) (x : Value) (wr : World) : Prop :=
  ∃ (i : Nat) (v : Value) (c : Array Value), i ≤ 8 ∧ x = .int .i64 i ∧ blk wr b0 = some (.cells c 34) ∧ c.size = 2 ∧ blk wr b1 = some (.cells #[v, .slice none 0 0] 34) ∧ Own wr v 7 ((comps8 i).flatMap Comp.cells) ∧ Same w wr ∧ (∀ b, vblk v b → w0.heap.size ≤ b) ∧ w0.heap.size ≤ wr.heap.size

set_option maxHeartbeats 1000000 in
theorem eight_spec' (l : List Comp) (hl : l = comps8 8) (w : World) : Meets Tryz.prog 62 #[] w fun v w' => ∃ a c, v = .agg #[.slice a l.length c, .slice none 0 0] ∧ SlIs w' a l.length 7 (l.flatMap Comp.cells) ∧ Same w w' := by
  refine f62_ok ?_
  unfold f62
  refine knew_of fun w2 h2 hs2 hb0 => ?_
  simp -dsimp [fillL]
  have h5 : ∀ o, Same w (w2.alloc o) := fun o => h2.alloc o
  refine kL_of (EightInv w (w2.alloc (.cells #[.slice none 0 0, .slice none 0 0] 34)) w.heap.size w2.heap.size) (fun x _ => 8 - (RowKit.intOf x).toNat) ⟨⟨0, _, _, by omega, rfl, (alloc_heap_old (by omega)).trans hb0, rfl, alloc_heap_new _ _, Own.nil _ _, h5 _, fun b hb => (by obtain ⟨_, _, _, h⟩ := hb; cases h), Nat.le_refl _⟩, ?_⟩
  rintro x wr ⟨i, v, c, hi, rfl, hbb0, hc, hbb1, hown, hm, hf, hsz⟩
  have hz : (w2.alloc (.cells #[.slice none 0 0, .slice none 0 0] 34)).heap.size = w2.heap.size + 1 := by simp
  rw [hz] at hf hsz
  obtain ⟨va, vn, vc, rfl, hs, _⟩ := hown.is
  unfold f62_0
  simp -dsimp
  refine kIf_dec (fun hlt => ?_) (fun hge => ?_)
  · have hlt : i < 8 := by omega
    have hadd := i64_succ (i := i) (by omega)
    have hadd' : ((i + 1 : Nat) : Int) = (i : Int) + 1 := by simp
    unfold f62_1
    generalize hstr : (⟨#[97, 98, 99, 100, 101, 102, 103, 104]⟩ : ByteArray) = str
    have hx : str.size = 8 := by rw [← hstr]; rfl
    refine kfld_of ?_
    refine kld_of (v := .slice va vn vc) (show blk wr.drew _ = _ from hbb1) rfl ?_
    refine kG_of rfl ?_
    simp -dsimp only [kint_add, hadd]
    rw [ksl_string rfl rfl]
    simp only [loV_int, hiV_int]
    refine kG_of ⟨by omega, by omega, by rw [hx]; omega⟩ ?_
    have hname : str.extract (i : Int).toNat ((i + 1 : Nat) : Int).toNat = (comp8 i).name := by
      have e1 : (i : Int).toNat = i := by omega
      have e2 : ((i + 1 : Nat) : Int).toNat = i + 1 := by omega
      rw [e1, e2, comp8, ← hstr]
    rw [hname]
    simp -dsimp only [kint_lss]
    refine kbld_of (cs := (comp8 i).cells) (by rfl) ?_
    refine kbldS_of (cs := (comp8 i).cells) (by rfl) fun w15 h15 hs15 hb15 => ?_
    have h15 : Same wr w15 := ((Mod.refl _ _).drew).trans h15
    have hb1' := h15.get hbb1 (fun h => h)
    have hb0' := h15.get hbb0 (fun h => h)
    refine kG_of ?_ ?_
    · refine kld_of (v := .slice va vn vc) hb1' rfl ?_
      exact ⟨rfl, rfl⟩
    refine ksem_append apComp (by omega) (hown.same h15) (Src.ofSlIs (hk := slComp_is.choose_spec) 1 (SlIs.blk hb15 rfl) rfl) ?_ ?_ ?_
    · have := flat_len Comp.cells 7 (fun _ => rfl) (comps8 i)
      have h3 : (comps8 i).length = i := by simp [comps8]
      have h4 : (comp8 i).cells.toArray.toList.length = 7 := rfl
      omega
    · have := flat_len Comp.cells 7 (fun _ => rfl) (comps8 i)
      have h3 : (comps8 i).length = i := by simp [comps8]
      have h4 : (comp8 i).cells.toArray.toList.length = 7 := rfl
      omega
    intro v' w17 ho hm17 hf17
    have hb1'' := hm17.get hb1' (fun h => by have := hf _ h; omega)
    have hb0'' := hm17.get hb0' (fun h => by have := hf _ h; have := hs2; omega)
    have hm17' : Same w w17 := Mod.after (hm.trans h15) hm17 (fun b hb => by have := hf b hb; have := h2.size; omega)
    have hvf : ∀ b, vblk v' b → w2.heap.size + 1 ≤ b := by
      intro b hb
      rcases hf17 b hb with h | h
      · exact hf b h
      · have := h15.size; omega
    obtain ⟨va', vn', vc', rfl, _, _⟩ := ho.is
    refine kfld_of ?_
    refine kst_of (vs := [.slice va' vn' vc']) hb1'' rfl rfl rfl (by simp) (by simp) fun w19 h19 hs19 hb19 => ?_
    have hb0''' := h19.get hb0'' (fun h => by omega)
    have ho' := ho.mod h19 (fun b hb h => by have := hvf b hb; omega)
    have hm19 : Same w w19 := Mod.after hm17' h19 (fun b hb => by have := h2.size; omega)
    unfold f62_2
    simp -dsimp [hadd]
    refine ⟨⟨i + 1, _, c, by omega, rfl, hb0''', hc, hb19, ?_, hm19, ?_, ?_⟩, by simp [RowKit.intOf]; omega⟩
    · rw [comps8_succ, List.flatMap_append]; simpa using ho'
    · rw [hz]; exact hvf
    · rw [hz]; have := hm17.size; have := h15.size; have := h19.size; omega
  · have : i = 8 := by omega
    subst this
    unfold f62_3
    refine kldN_of (cs := [.slice va vn vc, .slice none 0 0]) hbb1 (by simp) rfl (by omega) ?_
    refine kst_of (vs := [.slice va vn vc, .slice none 0 0]) hbb0 rfl rfl rfl (by simp [hc]) (by simp) fun w19 h19 hs19 hb19 => ?_
    have hset : setAll [.slice va vn vc, .slice none 0 0] c 0 = #[.slice va vn vc, .slice none 0 0] := by
      match c, hc with
      | ⟨[x, y]⟩, _ => rfl
    rw [hset] at hb19
    refine kldN_of (cs := [.slice va vn vc, .slice none 0 0]) hb19 (by simp) rfl (by omega) ?_
    have hl8 : l.length = 8 := by rw [hl]; simp [comps8]
    rw [← hl] at hs
    have hvn : vn = 8 := by
      have h1 := hs.1
      rw [flat_len Comp.cells 7 (fun _ => rfl), hl8] at h1
      omega
    subst hvn
    refine ⟨va, vc, by rw [hl8], by rw [hl8]; exact hs.mod h19 (fun b o e h => by have := hf b ⟨o, 8, vc, by rw [e]⟩; omega), Mod.after hm h19 (fun b hb => by omega)⟩
end Go.Proofs.YtlkpadfkmdgjcaaGreatDoor
end
section
set_option linter.unusedSimpArgs false
set_option linter.unusedVariables false
namespace Go.Proofs.YtlkpadfkmdgjcaaGreatDoor
open Go Go.Ev
set_option linter.unusedVariables false
set_option linter.unusedSimpArgs false
set_option maxRecDepth 100000

/-! ### The entities of a statement -/
structure Being where
  mask : Nat
  ticks : List Int
  named : Bool
def Being.ok (x : Being) : Prop := x.mask < 4294967296 ∧ x.ticks.length = 8 ∧ ∀ t ∈ x.ticks, I64 t
def Being.val (x : Being) : Value := .agg (msk x.mask :: (x.ticks.map (Value.int .i64) ++ [.bool x.named])).toArray
def Being.has (x : Being) (i : Nat) : Bool := x.mask / 2 ^ i % 2 == 1
def Being.part (x : Being) (i : Nat) : Part := ⟨i, 0, 0, 0, 0, x.ticks.getD i 0⟩
def Being.parts (x : Being) (n : Nat) : List Part := ((List.range n).filter x.has).map x.part
theorem Being.parts_succ (x : Being) (n : Nat) : x.parts (n + 1) = if x.has n then x.parts n ++ [x.part n] else x.parts n := by
  unfold Being.parts
  rw [List.range_succ, List.filter_append, List.map_append]
  cases h : x.has n <;> simp [h]
theorem Being.parts_len (x : Being) (n : Nat) : (x.parts n).length ≤ n := by
  unfold Being.parts
  rw [List.length_map]
  exact Nat.le_trans (List.length_filter_le _ _) (by simp)
def PartsInv (x : Being) (w w0 : World) (b1 : Nat) (c : Array Value) (v y : Value) (wr : World) : Prop :=
  ∃ i : Nat, i ≤ 8 ∧ y = .int .i64 i ∧ blk wr b1 = some (.cells c 110) ∧ Own wr v 6 ((x.parts i).flatMap Part.cells) ∧ Same w wr ∧ (∀ b, vblk v b → w0.heap.size ≤ b) ∧ w0.heap.size ≤ wr.heap.size
theorem shr_u32 {m i : Nat} (h : m < 4294967296) (hi : i ≤ 32) : ishr .u32 (m : Int) (i : Int) = ((m / 2 ^ i : Nat) : Int) := by
  show (m : Int).fdiv (2 ^ (min i 32)) = _
  rw [Nat.min_eq_left hi, Int.fdiv_eq_ediv_of_nonneg _ (by exact Int.pow_nonneg (by omega))]
  simp

set_option maxHeartbeats 1000000 in
theorem beingParts_spec (x : Being) (hx : x.ok) (w : World) : Meets Tryz.prog 58 #[x.val] w fun v w' => Own w' v 6 ((x.parts 8).flatMap Part.cells) ∧ Same w w' ∧ ∀ k, vblk v k → w.heap.size ≤ k := by
  obtain ⟨hm1, ht, hti⟩ := hx
  refine f58_ok ?_
  unfold f58
  refine knew_of fun w2 h2 hs2 hb1 => ?_
  refine kbldS_of (cs := []) rfl fun w4 h4 hs4 hb4 => ?_
  have hb1 := h4.get hb1 (fun h => h)
  refine kL_of (PartsInv x w w2 w.heap.size (Value.cells x.val)) (fun _ y _ => 8 - (RowKit.intOf y).toNat) ⟨⟨0, by omega, rfl, hb1, ?_, h2.trans h4, fun b hb => (by rw [vblk_new hb]; exact Nat.le_refl _), h4.size⟩, ?_⟩
  · exact Own.blk (arr := #[]) (n := 0) hb4 rfl (by simp [maxLen])
  rintro v y wr ⟨i, hi, rfl, hbb, hown, hm, hf, hsz⟩
  unfold f58_0
  simp -dsimp only [kint_lss, kB_bool]
  refine kIf_dec (fun hlt => ?_) (fun hge => ?_)
  · have hlt : i < 8 := by omega
    have hadd := i64_succ (i := i) (by omega)
    unfold f58_1
    refine kfld_of ?_
    refine kld_of (v := msk x.mask) hbb rfl ?_
    simp -dsimp only [msk, kint_shr]
    refine kG_of (by omega) ?_
    rw [shr_u32 hm1 (by omega)]
    simp -dsimp only [kint_rem]
    refine kG_of (by omega) ?_
    have hrem : ((x.mask / 2 ^ i : Nat) : Int).tmod 2 = ((x.mask / 2 ^ i % 2 : Nat) : Int) := by rw [Int.tmod_eq_emod_of_nonneg (Int.natCast_nonneg _)]; simp
    rw [hrem]
    simp -dsimp only [kint_eql, kB_bool]
    refine kIf_dec (fun h => ?_) (fun h => ?_)
    · have hhas : x.has i = true := by unfold Being.has; simp only [beq_iff_eq]; omega
      refine kfld_of ?_
      simp -dsimp only [kix_array]
      refine kG_of (by omega) ?_
      have e1 : (i : Int).toNat * 1 = i := by omega
      rw [add_mk, e1]
      have hil : i < x.ticks.length := by omega
      refine kld_of (v := .int .i64 (x.ticks.getD i 0)) hbb ?_ ?_
      · rw [show 0 + 1 + i = i + 1 by omega]
        simp [Being.val, Value.cells, hil, List.getElem?_append]
      refine kbld_of (cs := (x.part i).cells) rfl ?_
      refine kbldS_of (cs := (x.part i).cells) rfl fun w16 h16 hs16 hb16 => ?_
      have hlen := x.parts_len i
      have hfl := flat_len Part.cells 6 (fun _ => rfl) (x.parts i)
      have h6 : ((x.part i).cells.toArray.toList).length = 6 := rfl
      refine ksem_append apPart (by omega) (hown.same h16) (Src.ofSlIs (hk := slPart_is.choose_spec) 1 (SlIs.blk hb16 rfl) rfl) (by omega) (by omega) ?_
      intro v' w17 ho hm17 hf17
      have hvlt : ∀ b, vblk v b → b ≠ w.heap.size := fun b hb e => by have := hf b hb; omega
      unfold f58_2
      simp -dsimp only [kint_add, hadd]
      refine ⟨⟨i + 1, by omega, rfl, hm17.get (h16.get hbb (fun h => h)) (fun h => hvlt _ h rfl), ?_, Mod.after (hm.trans h16) hm17 (fun b hb => by have := hf b hb; have := h2.size; omega), fun b hb => ?_, ?_⟩, by simp [RowKit.intOf]; omega⟩
      · rw [Being.parts_succ, hhas, if_pos rfl, List.flatMap_append]; simpa using ho
      · rcases hf17 b hb with h | h
        · exact hf b h
        · have := h16.size; omega
      · have := hm17.size; have := h16.size; omega
    · have hhas : x.has i = false := by unfold Being.has; simp only [beq_eq_false_iff_ne]; omega
      unfold f58_2
      simp -dsimp only [kint_add, hadd]
      refine ⟨⟨i + 1, by omega, rfl, hbb, ?_, hm, hf, hsz⟩, by simp [RowKit.intOf]; omega⟩
      rw [Being.parts_succ, hhas]; exact hown
  · have : i = 8 := by omega
    subst this
    unfold f58_3
    exact ⟨hown, hm, fun k hk => by have := hf k hk; have := h2.size; omega⟩
end Go.Proofs.YtlkpadfkmdgjcaaGreatDoor
end
section
set_option linter.unusedSimpArgs false
set_option linter.unusedVariables false
namespace Go.Proofs.YtlkpadfkmdgjcaaGreatDoor
open Go Go.Ev
set_option linter.unusedVariables false
set_option linter.unusedSimpArgs false
set_option maxRecDepth 100000
attribute [local irreducible] kO kB kStr kInt kN kG kIf kfld kld kldN kst knew kmap kbld kbldS kext kcnv klenStr klen kcap kprt kprtN kbool kint kstr keq kun ksl kix kiv kta kmk kmm ksem ksemU kextf kcallV kcallM kcall kL

end Go.Proofs.YtlkpadfkmdgjcaaGreatDoor
end
section
set_option linter.unusedSimpArgs false
set_option linter.unusedVariables false
namespace Go.Proofs.YtlkpadfkmdgjcaaGreatDoor
open Go Go.Ev
set_option linter.unusedVariables false
set_option linter.unusedSimpArgs false
set_option maxRecDepth 100000
attribute [local irreducible] kO kB kStr kInt kN kG kIf kfld kld kldN kst knew kmap kbld kbldS kext kcnv klenStr klen kcap kprt kprtN kbool kint kstr keq kun ksl kix kiv kta kmk kmm ksem ksemU kextf kcallV kcallM kcall kL

theorem msk_lt255 (x : Nat) : x &&& 255 < 256 := by
  have : x &&& 255 ≤ 255 := Nat.and_le_right
  omega
end Go.Proofs.YtlkpadfkmdgjcaaGreatDoor
end
section
set_option linter.unusedSimpArgs false
set_option linter.unusedVariables false
namespace Go.Proofs.YtlkpadfkmdgjcaaGreatDoor
open Go Go.Ev
set_option linter.unusedVariables false
set_option linter.unusedSimpArgs false
set_option maxRecDepth 100000
attribute [local irreducible] kO kB kStr kInt kN kG kIf kfld kld kldN kst knew kmap kbld kbldS kext kcnv klenStr klen kcap kprt kprtN kbool kint kstr keq kun ksl kix kiv kta kmk kmm ksem ksemU kextf kcallV kcallM kcall kL

end Go.Proofs.YtlkpadfkmdgjcaaGreatDoor
end
section
set_option linter.unusedSimpArgs false
set_option linter.unusedVariables false
namespace Go.Proofs.YtlkpadfkmdgjcaaGreatDoor
open Go Go.Ev
set_option linter.unusedVariables false
set_option linter.unusedSimpArgs false
set_option maxRecDepth 100000

end Go.Proofs.YtlkpadfkmdgjcaaGreatDoor
end
section
set_option linter.unusedSimpArgs false
set_option linter.unusedVariables false
namespace Go.Proofs.YtlkpadfkmdgjcaaGreatDoor
open Go Go.Ev
set_option linter.unusedVariables false
set_option linter.unusedSimpArgs false
set_option maxRecDepth 100000
attribute [local irreducible] kO kB kStr kInt kN kG kIf kfld kld kldN kst knew kmap kbld kbldS kext kcnv klenStr klen kcap kprt kprtN kbool kint kstr keq kun ksl kix kiv kta kmk kmm ksem ksemU kextf kcallV kcallM kcall kL

end Go.Proofs.YtlkpadfkmdgjcaaGreatDoor
end
section
set_option linter.unusedSimpArgs false
set_option linter.unusedVariables false
namespace Go.Proofs.YtlkpadfkmdgjcaaGreatDoor
open Go Go.Ev
set_option linter.unusedVariables false
set_option linter.unusedSimpArgs false
set_option maxRecDepth 100000
attribute [local irreducible] kO kB kStr kInt kN kG kIf kfld kld kldN kst knew kmap kbld kbldS kext kcnv klenStr klen kcap kprt kprtN kbool kint kstr keq kun ksl kix kiv kta kmk kmm ksem ksemU kextf kcallV kcallM kcall kL

end Go.Proofs.YtlkpadfkmdgjcaaGreatDoor
end
section
set_option linter.unusedSimpArgs false
set_option linter.unusedVariables false
namespace Go.Proofs.YtlkpadfkmdgjcaaGreatDoor
open Go Go.Ev
set_option linter.unusedVariables false
set_option linter.unusedSimpArgs false
set_option maxRecDepth 100000
attribute [local irreducible] kO kB kStr kInt kN kG kIf kfld kld kldN kst knew kmap kbld kbldS kext kcnv klenStr klen kcap kprt kprtN kbool kint kstr keq kun ksl kix kiv kta kmk kmm ksem ksemU kextf kcallV kcallM kcall kL

end Go.Proofs.YtlkpadfkmdgjcaaGreatDoor
end
section
set_option linter.unusedSimpArgs false
set_option linter.unusedVariables false
namespace Go.Proofs.YtlkpadfkmdgjcaaGreatDoor
open Go Go.Ev
set_option linter.unusedVariables false
set_option linter.unusedSimpArgs false
set_option maxRecDepth 100000
attribute [local irreducible] kO kB kStr kInt kN kG kIf kfld kld kldN kst knew kmap kbld kbldS kext kcnv klenStr klen kcap kprt kprtN kbool kint kstr keq kun ksl kix kiv kta kmk kmm ksem ksemU kextf kcallV kcallM kcall kL

end Go.Proofs.YtlkpadfkmdgjcaaGreatDoor
end
section
set_option linter.unusedSimpArgs false
set_option linter.unusedVariables false
namespace Go.Proofs.YtlkpadfkmdgjcaaGreatDoor
open Go Go.Ev
set_option linter.unusedVariables false
set_option linter.unusedSimpArgs false
set_option maxRecDepth 100000
attribute [local irreducible] kO kB kStr kInt kN kG kIf kfld kld kldN kst knew kmap kbld kbldS kext kcnv klenStr klen kcap kprt kprtN kbool kint kstr keq kun ksl kix kiv kta kmk kmm ksem ksemU kextf kcallV kcallM kcall kL

end Go.Proofs.YtlkpadfkmdgjcaaGreatDoor
end
section
set_option linter.unusedSimpArgs false
set_option linter.unusedVariables false
namespace Go.Proofs.YtlkpadfkmdgjcaaGreatDoor
open Go Go.Ev
set_option linter.unusedVariables false
set_option linter.unusedSimpArgs false
set_option maxRecDepth 100000
attribute [local irreducible] kO kB kStr kInt kN kG kIf kfld kld kldN kst knew kmap kbld kbldS kext kcnv klenStr klen kcap kprt kprtN kbool kint kstr keq kun ksl kix kiv kta kmk kmm ksem ksemU kextf kcallV kcallM kcall kL

end Go.Proofs.YtlkpadfkmdgjcaaGreatDoor
end
section
set_option linter.unusedSimpArgs false
set_option linter.unusedVariables false
namespace Go.Proofs.YtlkpadfkmdgjcaaGreatDoor
open Go Go.Ev
set_option linter.unusedVariables false
set_option linter.unusedSimpArgs false
set_option maxRecDepth 100000
attribute [local irreducible] kO kB kStr kInt kN kG kIf kfld kld kldN kst knew kmap kbld kbldS kext kcnv klenStr klen kcap kprt kprtN kbool kint kstr keq kun ksl kix kiv kta kmk kmm ksem ksemU kextf kcallV kcallM kcall kL

/-! ### '==' of entities -/
theorem cellsEnt : Tryz.prog.cellsOf 37 = 2 := by kernel_rfl
theorem kl_ent {i g : Int} (h1 : I64 i) (h2 : I64 g) (d : Nat) : Tryz.prog.keyLits (d + 2) 37 [.int .i64 i, .int .i64 g] = some [.int .i64 i, .int .i64 g] := by
  unfold Program.keyLits
  simp only [Tryz.underlying37, cellsEnt]
  rw [if_pos ⟨by rfl, by kernel_rfl⟩]
  simp [cellsInt, kl_int h1, kl_int h2]
theorem keyEnt : Tryz.prog.keyTypeAt 10 37 = true := by kernel_rfl
theorem formEnt (i g : Int) : Value.formed Tryz.prog 37 (entV i g) = true := by
  unfold Value.formed entV
  simp only [Tryz.underlying37, cellsEnt]
  rfl
end Go.Proofs.YtlkpadfkmdgjcaaGreatDoor
end
section
set_option linter.unusedSimpArgs false
set_option linter.unusedVariables false
namespace Go.Ev
open Go Go.RowKit
/-! ### Maps whose keys are records, to which entries are only added -/
section
variable {α : Type} [DecidableEq α]
def entsG (F : α → Value) : Nat → List (α × Value) → List MapEntry
  | _, [] => []
  | i, (n, v) :: r => { key := F n, val := v, born := i } :: entsG F (i + 1) r
def lkG (n : α) : List (α × Value) → Option (Nat × Value)
  | [] => none
  | (m, v) :: r => if n = m then some (0, v) else (lkG n r).map fun x => (x.1 + 1, x.2)
def valG (n : α) (kv : List (α × Value)) : Option Value := (lkG n kv).map (·.2)
def putG (n : α) (v : Value) : List (α × Value) → List (α × Value)
  | [] => [(n, v)]
  | (m, u) :: r => if n = m then (n, v) :: r else (m, u) :: putG n v r
def MapG (F : α → Value) (w : World) (b : Nat) (kv : List (α × Value)) : Prop := blk w b = some (.map (entsG F 0 kv).toArray kv.length)
structure KeyT (P : Program) (kt : TypeId) (F : α → Value) : Prop where
  find : ∀ n kv w, (Instr.findKey kt (F n) (entsG F 0 kv)).run P w = .ok (lkG n kv) w
  check : ∀ e a w, (Instr.checkKey e 10000 kt (F a)).run P w = .ok () w
  stays : ∀ a, Instr.sameBits 10000 (F a) (F a) = true
theorem valG_put (n m : α) (v : Value) : ∀ kv : List (α × Value), valG n (putG m v kv) = if n = m then some v else valG n kv
  | [] => by
    by_cases h : n = m
    · simp [valG, putG, lkG, h]
    · simp [valG, putG, lkG, h]
  | (k, u) :: r => by
    have ih := valG_put n m v r
    unfold valG at ih ⊢
    simp only [putG, lkG]
    by_cases h1 : m = k
    · subst h1
      rw [if_pos rfl]
      simp only [lkG]
      by_cases h2 : n = m <;> simp [h2]
    · rw [if_neg h1]
      simp only [lkG]
      by_cases h2 : n = k
      · have h3 : ¬ n = m := fun e => h1 (by rw [← e, h2])
        simp [h2]
        exact fun e => absurd e.symm h1
      · simp only [h2, if_false, Option.map_map]
        have e1 : ((lkG n (putG m v r)).map ((fun x : Nat × Value => x.2) ∘ fun x => (x.1 + 1, x.2))) = (lkG n (putG m v r)).map (·.2) := by congr 1
        have e2 : ((lkG n r).map ((fun x : Nat × Value => x.2) ∘ fun x => (x.1 + 1, x.2))) = (lkG n r).map (·.2) := by congr 1
        rw [e1, e2]; exact ih
theorem lkG_none {n : α} : ∀ {kv : List (α × Value)}, lkG n kv = none ↔ n ∉ kv.map (·.1)
  | [] => by simp [lkG]
  | (m, v) :: r => by
    simp only [lkG, List.map_cons, List.mem_cons, not_or]
    by_cases h : n = m
    · simp [h]
    · simp [h, lkG_none (n := n) (kv := r)]
theorem lkG_some {n : α} : ∀ {kv : List (α × Value)} {i : Nat} {v : Value}, lkG n kv = some (i, v) → kv[i]? = some (n, v)
  | (m, u) :: r, i, v, h => by
    simp only [lkG] at h
    by_cases e : n = m
    · rw [if_pos e] at h
      cases h
      simp [e]
    · rw [if_neg e] at h
      obtain ⟨⟨j, u'⟩, h1, h2⟩ := Option.map_eq_some_iff.1 h
      cases h2
      simpa using lkG_some h1
theorem putG_keys (n : α) (v : Value) : ∀ kv : List (α × Value), (putG n v kv).map (·.1) = if n ∈ kv.map (·.1) then kv.map (·.1) else kv.map (·.1) ++ [n]
  | [] => by simp [putG]
  | (m, u) :: r => by
    simp only [putG]
    by_cases h : n = m
    · simp [h]
    · simp only [h, if_false, List.map_cons, List.mem_cons, false_or, putG_keys n v r]
      by_cases h2 : n ∈ r.map (·.1)
      · simp [h2]
      · simp [h2]
theorem putG_nodup {n : α} {v : Value} {kv : List (α × Value)} (h : (kv.map (·.1)).Nodup) : ((putG n v kv).map (·.1)).Nodup := by
  rw [putG_keys]
  split
  · exact h
  · rename_i hn
    exact List.nodup_append.2 ⟨h, by simp, fun a ha b hb e => by simp at hb; subst hb; subst e; exact hn ha⟩
variable {F : α → Value}
theorem entsG_len {β : Type} {F : β → Value} : ∀ (i : Nat) (kv : List (β × Value)), (entsG F i kv).length = kv.length
  | _, [] => rfl
  | i, (n, v) :: r => by simp [entsG, entsG_len (i + 1) r]
theorem entsG_get {β : Type} {F : β → Value} : ∀ (i : Nat) (kv : List (β × Value)) (j : Nat), (entsG F i kv)[j]? = kv[j]?.map fun x => { key := F x.1, val := x.2, born := i + j }
  | _, [], _ => by simp [entsG]
  | i, (n, v) :: r, 0 => by simp [entsG]
  | i, (n, v) :: r, j + 1 => by
    simp only [entsG, List.getElem?_cons_succ, entsG_get (i + 1) r j]
    rw [show i + 1 + j = i + (j + 1) by omega]
theorem entsG_append {β : Type} {F : β → Value} : ∀ (i : Nat) (kv : List (β × Value)) (x : β × Value), entsG F i (kv ++ [x]) = entsG F i kv ++ [{ key := F x.1, val := x.2, born := i + kv.length }]
  | i, [], x => by simp [entsG]
  | i, (n, v) :: r, x => by simp [entsG, entsG_append (i + 1) r x]; omega
theorem putG_new {n : α} {v : Value} : ∀ {kv : List (α × Value)}, lkG n kv = none → putG n v kv = kv ++ [(n, v)]
  | [], _ => rfl
  | (m, u) :: r, h => by
    simp only [lkG] at h
    by_cases e : n = m
    · rw [if_pos e] at h; cases h
    · rw [if_neg e] at h
      simp only [putG, if_neg e]
      rw [putG_new (by simpa using h)]; rfl
theorem putG_old {n : α} {v u : Value} : ∀ {kv : List (α × Value)} {i : Nat}, lkG n kv = some (i, u) → putG n v kv = kv.set i (n, v)
  | (m, x) :: r, i, h => by
    simp only [lkG] at h
    by_cases e : n = m
    · rw [if_pos e] at h
      cases h
      simp [putG, e]
    · rw [if_neg e] at h
      obtain ⟨⟨j, u'⟩, h1, h2⟩ := Option.map_eq_some_iff.1 h
      cases h2
      simp only [putG, if_neg e]
      rw [putG_old h1]; rfl
theorem entsG_set {β : Type} {F : β → Value} (i : Nat) (kv : List (β × Value)) (j : Nat) (n : β) (v : Value) : entsG F i (kv.set j (n, v)) = (entsG F i kv).modify j fun e => { e with key := F n, val := v } := by
  apply List.ext_getElem?
  intro k
  rw [entsG_get, List.getElem?_set, List.getElem?_modify, entsG_get]
  by_cases h : j = k
  · subst h
    simp only [if_true]
    by_cases hl : j < kv.length
    · simp [hl]
    · simp [hl]
  · simp [h]
theorem entsG_setV {β : Type} {F : β → Value} (i : Nat) (kv : List (β × Value)) (j : Nat) (n : β) (u v : Value) (h : kv[j]? = some (n, u)) : entsG F i (kv.set j (n, v)) = (entsG F i kv).modify j fun e => { e with val := v } := by
  apply List.ext_getElem?
  intro k
  rw [entsG_get, List.getElem?_set, List.getElem?_modify, entsG_get]
  by_cases hk : j = k
  · subst hk
    have hl := (List.getElem?_eq_some_iff.1 h).1
    simp only [if_true, hl, h, Option.map_some]
    rfl
  · simp [hk]
theorem set_id {β : Type} {n : β} {v : Value} {kv : List (β × Value)} {i : Nat} (h : kv[i]? = some (n, v)) : kv.set i (n, v) = kv := by
  apply List.ext_getElem?
  intro k
  rw [List.getElem?_set]
  by_cases hk : i = k
  · subst hk
    rw [if_pos rfl, if_pos (List.getElem?_eq_some_iff.1 h).1, h]
  · rw [if_neg hk]
section
variable {P : Program} {kt : TypeId}
theorem findAsking_ents (heq : ∀ a b w, (Op.equal kt (F a) (F b)).run P w = .ok (decide (a = b)) w) (n : α) (w : World) : ∀ (i j : Nat) (kv : List (α × Value)), (Instr.findAsking kt (F n) (entsG F i kv) j).run P w = .ok ((lkG n kv).map fun x => (j + x.1, x.2)) w
  | _, _, [] => by simp [entsG, Instr.findAsking, lkG]
  | i, j, (m, v) :: r => by
    simp only [entsG, Instr.findAsking, Sem.run_bind, heq, Result.andThen_ok, lkG]
    by_cases h : n = m
    · subst h; simp
    · simp only [h, decide_false, if_false, Bool.false_eq_true]
      rw [findAsking_ents heq n w (i + 1) (j + 1) r]
      cases lkG n r with
      | none => simp
      | some x => simp; omega
theorem KeyT.ofWide (hwide : (match P.underlying kt with | some (.array _ _) | some (.struct _) => true | _ => false) = true)
    (heq : ∀ a b w, (Op.equal kt (F a) (F b)).run P w = .ok (decide (a = b)) w) (hch : ∀ e a w, (Instr.checkKey e 10000 kt (F a)).run P w = .ok () w) (hst : ∀ a, Instr.sameBits 10000 (F a) (F a) = true) : KeyT P kt F where
  find n kv w := by
    rw [run_findKey_eq w hwide, findAsking_ents heq n w 0 0 kv]
    cases lkG n kv <;> simp
  check := hch
  stays := hst
theorem findNow_entsG (k : IntKind) (n : Int) : ∀ (i j : Nat) (kv : List (Int × Value)), Instr.findNow (.int k) (.int k n) (entsG (fun n => .int k n) i kv) j = some ((lkG n kv).map fun x => (j + x.1, x.2))
  | _, _, [] => by simp [entsG, Instr.findNow, lkG]
  | i, j, (m, v) :: r => by
    simp only [entsG, Instr.findNow, Instr.sameNow, if_true, lkG]
    by_cases h : n = m
    · subst h; simp
    · have hb : (n == m) = false := by simpa using h
      rw [hb]
      simp only [h, if_false]
      rw [findNow_entsG k n (i + 1) (j + 1) r]
      cases lkG n r with
      | none => simp
      | some x => simp; omega
theorem KeyT.int {k : IntKind} (hk : P.underlying kt = some (.int k)) : KeyT P kt (fun n : Int => Value.int k n) where
  find n kv w := by
    simp only [Instr.findKey, Sem.run_bind, run_underlying hk, Result.andThen_ok, findNow_entsG, Sem.run_pure]
    cases lkG n kv <;> simp
  check e a w := run_checkKey_int hk e a
  stays a := by simp [Instr.sameBits]
theorem findKeyG (hK : KeyT P kt F) (n : α) (w : World) (kv : List (α × Value)) : (Instr.findKey kt (F n) (entsG F 0 kv)).run P w = .ok (lkG n kv) w := hK.find n kv w
theorem keyStaysG (hK : KeyT P kt F) (n : α) (w : World) : (Instr.keyThatStays (F n) (F n)).run P w = .ok (F n) w := by
  simp [Instr.keyThatStays, hK.stays]
variable {w : World}
theorem MapG.mod {β : Type} {F : β → Value} {fp : Nat → Prop} {w' : World} {b : Nat} {kv : List (β × Value)} (h : MapG F w b kv) (hm : Mod fp w w') (hf : ¬ fp b) : MapG F w' b kv := hm.get h hf
theorem MapG.same {β : Type} {F : β → Value} {w' : World} {b : Nat} {kv : List (β × Value)} (h : MapG F w b kv) (hm : Same w w') : MapG F w' b kv := hm.get h fun h => h
theorem run_lookupG {t vt : TypeId} {z : Value} (ht : P.underlying t = some (.map kt vt)) (hK : KeyT P kt F) (hz : zeroO P vt = some z) {b : Nat} {kv : List (α × Value)} (hm : MapG F w b kv) (n : α) (ok : Bool) :
    (Instr.lookup t (.map (some b)) (F n) ok).run P w = .ok (match valG n kv with | some v => if ok then .tuple #[v, .bool true] else v | none => if ok then .tuple #[z, .bool false] else z) w := by
  have hh : w.heap[b]? = some (.map (entsG F 0 kv).toArray kv.length) := hm
  simp only [Instr.lookup, Sem.run_bind, run_underlying ht, Result.andThen_ok, getObj, Sem.run, hh, Result.andThen, hK.check, findKeyG hK, Sem.run_pure, valG]
  cases lkG n kv with
  | none => cases ok <;> simp [Sem.run, run_zero' hz]
  | some x => cases ok <;> simp [Sem.run]
theorem klookG {t vt : TypeId} {z : Value} (ht : P.underlying t = some (.map kt vt)) (hK : KeyT P kt F) (hz : zeroO P vt = some z) {b : Nat} {kv : List (α × Value)} (hm : MapG F w b kv) (n : α) {K : Value → World → Prop}
    (h : K ((valG n kv).getD z) w) : ksem P (Instr.lookup t (.map (some b)) (F n) false) w K := by
  rw [ksem_ok (run_lookupG ht hK hz hm n false)]
  cases hv : valG n kv with
  | none => rw [hv] at h; exact h
  | some x => rw [hv] at h; exact h
theorem klookOkG {t vt : TypeId} {z : Value} (ht : P.underlying t = some (.map kt vt)) (hK : KeyT P kt F) (hz : zeroO P vt = some z) {b : Nat} {kv : List (α × Value)} (hm : MapG F w b kv) (n : α) {K : Value → World → Prop}
    (h : K (.tuple #[(valG n kv).getD z, .bool (valG n kv).isSome]) w) : ksem P (Instr.lookup t (.map (some b)) (F n) true) w K := by
  rw [ksem_ok (run_lookupG ht hK hz hm n true)]
  cases hv : valG n kv with
  | none => rw [hv] at h; exact h
  | some x => rw [hv] at h; exact h
theorem run_mapUpdateG {t vt : TypeId} (ht : P.underlying t = some (.map kt vt)) (hK : KeyT P kt F) {b : Nat} {kv : List (α × Value)} (hm : MapG F w b kv) (n : α) (v : Value) :
    (Instr.mapUpdate t (.map (some b)) (F n) v).run P w = .ok () (World.setBlk w b (.map (entsG F 0 (putG n v kv)).toArray (putG n v kv).length)) := by
  have hh : w.heap[b]? = some (.map (entsG F 0 kv).toArray kv.length) := hm
  simp only [Instr.mapUpdate, Sem.run_bind, run_underlying ht, Result.andThen_ok, getObj, Sem.run, hh, Result.andThen, hK.check, findKeyG hK, Sem.run_pure, setObj]
  cases hl : lkG n kv with
  | none =>
    rw [putG_new hl, entsG_append]
    simp [World.setBlk, Sem.run, hh]
  | some x =>
    obtain ⟨i, u⟩ := x
    have hi := lkG_some hl
    have hget : (entsG F 0 kv).toArray[i]? = some { key := F n, val := u, born := 0 + i } := by
      rw [List.getElem?_toArray, entsG_get, hi]; rfl
    simp only [hget, Option.map_some, Option.getD_some, Sem.run_bind, keyStaysG hK, Result.andThen_ok]
    rw [putG_old hl, entsG_set]
    simp [World.setBlk, List.length_set, Sem.run, hh]
theorem kmapUpG {t vt : TypeId} (ht : P.underlying t = some (.map kt vt)) (hK : KeyT P kt F) {b : Nat} {kv : List (α × Value)} (hm : MapG F w b kv) {n : α} {v : Value} {K : Value → World → Prop}
    (h : ∀ w2, Mod (fun j => j = b) w w2 → w2.heap.size = w.heap.size → MapG F w2 b (putG n v kv) → K undef w2) : ksemU P (Instr.mapUpdate t (.map (some b)) (F n) v) w K := by
  rw [ksemU_ok (run_mapUpdateG ht hK hm n v)]
  refine h _ ((Mod.refl _ _).setBlk _ (.inl rfl)) (setBlk_size _ _ _) ?_
  unfold MapG
  rw [setBlk_heap, if_pos rfl, show blk w b = _ from hm]; rfl
theorem entsG_setK {β : Type} {F : β → Value} (i : Nat) (kv : List (β × Value)) (j : Nat) (n : β) (u : Value) (h : kv[j]? = some (n, u)) : ((entsG F i kv).modify j fun e => { e with key := F n }) = entsG F i kv := by
  apply List.ext_getElem?
  intro k
  rw [List.getElem?_modify, entsG_get]
  by_cases hk : j = k
  · subst hk
    simp only [if_true, h, Option.map_some]
    rfl
  · simp [hk]
/-- The place of an entry, or the place where a new one comes. -/
def idxG (n : α) (kv : List (α × Value)) : Nat := match lkG n kv with
  | some (i, _) => i
  | none => kv.length
theorem putG_idx (n : α) (u : Value) (kv : List (α × Value)) : (putG n u kv)[idxG n kv]? = some (n, u) := by
  unfold idxG
  cases hl : lkG n kv with
  | none => rw [putG_new hl]; simp
  | some x =>
    obtain ⟨i, y⟩ := x
    have hi := (List.getElem?_eq_some_iff.1 (lkG_some hl)).1
    rw [putG_old hl, List.getElem?_set, if_pos rfl, if_pos hi]
theorem putG_set (n : α) (u v : Value) (kv : List (α × Value)) : (putG n u kv).set (idxG n kv) (n, v) = putG n v kv := by
  unfold idxG
  cases hl : lkG n kv with
  | none => rw [putG_new hl, putG_new hl]; simp
  | some x =>
    obtain ⟨i, y⟩ := x
    rw [putG_old hl, putG_old hl, List.set_set]
theorem run_mapEntryG {t vt : TypeId} {z : Value} (ht : P.underlying t = some (.map kt vt)) (hK : KeyT P kt F) (hz : zeroO P vt = some z) {b : Nat} {kv : List (α × Value)} (hm : MapG F w b kv) (n : α) :
    (Instr.mapEntry t (.map (some b)) (F n)).run P w = .ok (.tuple #[(valG n kv).getD z, .int .i64 (idxG n kv)]) (World.setBlk w b (.map (entsG F 0 (putG n ((valG n kv).getD z) kv)).toArray (putG n ((valG n kv).getD z) kv).length)) := by
  have hh : w.heap[b]? = some (.map (entsG F 0 kv).toArray kv.length) := hm
  simp only [Instr.mapEntry, Sem.run_bind, run_underlying ht, Result.andThen_ok, getObj, Sem.run, hh, Result.andThen, hK.check, findKeyG hK, Sem.run_pure, setObj, valG, idxG]
  cases hl : lkG n kv with
  | none =>
    simp only [Option.map_none, Option.getD_none]
    rw [putG_new hl, entsG_append]
    simp [World.setBlk, Sem.run, hh, run_zero' hz, goInt]
  | some x =>
    obtain ⟨i, u⟩ := x
    have hi := lkG_some hl
    have hget : (entsG F 0 kv).toArray[i]? = some { key := F n, val := u, born := 0 + i } := by
      rw [List.getElem?_toArray, entsG_get, hi]; rfl
    simp only [hget, Option.map_some, Option.getD_some, Sem.run_bind, keyStaysG hK, Result.andThen_ok]
    rw [putG_old hl, set_id hi]
    have e1 := entsG_setK (F := F) 0 kv i n u hi
    simp [World.setBlk, Sem.run, hh, goInt, e1]
theorem kmapEntryG {t vt : TypeId} {z : Value} (ht : P.underlying t = some (.map kt vt)) (hK : KeyT P kt F) (hz : zeroO P vt = some z) {b : Nat} {kv : List (α × Value)} (hm : MapG F w b kv) (n : α) {K : Value → World → Prop}
    (h : ∀ w2, Mod (fun j => j = b) w w2 → w2.heap.size = w.heap.size → MapG F w2 b (putG n ((valG n kv).getD z) kv) → K (.tuple #[(valG n kv).getD z, .int .i64 (idxG n kv)]) w2) : ksem P (Instr.mapEntry t (.map (some b)) (F n)) w K := by
  rw [ksem_ok (run_mapEntryG ht hK hz hm n)]
  refine h _ ((Mod.refl _ _).setBlk _ (.inl rfl)) (setBlk_size _ _ _) ?_
  unfold MapG
  rw [setBlk_heap, if_pos rfl, show blk w b = _ from hm]; rfl
theorem findIdx_ents {β : Type} {F : β → Value} (kv : List (β × Value)) (j : Nat) (hj : j < kv.length) : (entsG F 0 kv).toArray.findIdx? (fun e => (e.born : Int) == (j : Int)) = some j := by
  rw [Array.findIdx?_eq_some_iff_getElem]
  have hg : ∀ i (hi : i < kv.length), ((entsG F 0 kv).toArray[i]'(by simpa [entsG_len] using hi)).born = i := fun i hi => by
    have := entsG_get (F := F) 0 kv i
    rw [List.getElem?_eq_getElem hi, Option.map_some, List.getElem?_eq_getElem (by rw [entsG_len]; exact hi), Option.some.injEq] at this
    simp [this]
  refine ⟨by simpa [entsG_len] using hj, ?_, fun i hi => ?_⟩
  · rw [hg j hj]; simp
  · rw [hg i (by omega)]
    simp; omega
theorem run_entryStoreG {β : Type} {F : β → Value} {t : TypeId} {b : Nat} {kv : List (β × Value)} (hm : MapG F w b kv) {j : Nat} {n : β} {u : Value} (hj : kv[j]? = some (n, u)) (v : Value) :
    (Instr.entryStore t (.map (some b)) (.int .i64 j) v).run P w = .ok () (World.setBlk w b (.map (entsG F 0 (kv.set j (n, v))).toArray (kv.set j (n, v)).length)) := by
  have hh : w.heap[b]? = some (.map (entsG F 0 kv).toArray kv.length) := hm
  have hjl := (List.getElem?_eq_some_iff.1 hj).1
  have e1 := entsG_setV (F := F) 0 kv j n u v hj
  simp only [Instr.entryStore, Sem.run_bind, Result.andThen_ok, getObj, Sem.run, hh, Result.andThen, Sem.run_pure, setObj, asInt, findIdx_ents kv j hjl]
  have hf : (entsG F 0 kv).findIdx? (fun e => (e.born : Int) == (j : Int)) = some j := by
    have := findIdx_ents (F := F) kv j hjl
    simpa using this
  simp [World.setBlk, Sem.run, hh, e1, List.length_set, asIntOf, hf]
theorem kentryStoreG {β : Type} {F : β → Value} {t : TypeId} {b : Nat} {kv : List (β × Value)} (hm : MapG F w b kv) {j : Nat} {n : β} {u v : Value} (hj : kv[j]? = some (n, u)) {K : Value → World → Prop}
    (h : ∀ w2, Mod (fun j => j = b) w w2 → w2.heap.size = w.heap.size → MapG F w2 b (kv.set j (n, v)) → K undef w2) : ksemU P (Instr.entryStore t (.map (some b)) (.int .i64 j) v) w K := by
  rw [ksemU_ok (run_entryStoreG hm hj v)]
  refine h _ ((Mod.refl _ _).setBlk _ (.inl rfl)) (setBlk_size _ _ _) ?_
  unfold MapG
  rw [setBlk_heap, if_pos rfl, show blk w b = _ from hm]; rfl
theorem krangeG {β : Type} {F : β → Value} {t kt' vt : TypeId} (ht : P.underlying t = some (.map kt' vt)) {b : Nat} {kv : List (β × Value)} (hm : MapG F w b kv) {K : Value → World → Prop}
    (h : ∀ w2, Same w w2 → w2.heap.size = w.heap.size + 1 → blk w2 w.heap.size = some (.mapIter (some b) kv.length #[] kv.length) → K (.pointer (some ⟨w.heap.size, 0, none⟩)) w2) : ksem P (Instr.range t (.map (some b))) w K := by
  have hh : w.heap[b]? = some (.map (entsG F 0 kv).toArray kv.length) := hm
  have hr : (Instr.range t (.map (some b))).run P w = .ok (.pointer (some ⟨w.heap.size, 0, none⟩)) (w.alloc (.mapIter (some b) kv.length #[] kv.length)) := by
    simp [Instr.range, run_underlying ht, getObj, Sem.run, hh]
  rw [ksem_ok hr]
  exact h _ ((Mod.refl _ _).alloc _) (by simp) (alloc_heap_new _ _)
theorem mem_entsG {β : Type} {F : β → Value} {kv : List (β × Value)} {x : MapEntry} (hx : x ∈ entsG F 0 kv) : ∃ j, ∃ h : j < kv.length, x = { key := F kv[j].1, val := kv[j].2, born := j } := by
  obtain ⟨j, hj, rfl⟩ := List.mem_iff_getElem.1 hx
  rw [entsG_len] at hj
  have := entsG_get (F := F) 0 kv j
  rw [List.getElem?_eq_getElem (by rw [entsG_len]; exact hj), List.getElem?_eq_getElem hj, Option.map_some, Option.some.injEq] at this
  exact ⟨j, hj, by rw [this, Nat.zero_add]⟩
theorem entsG_mem {β : Type} {F : β → Value} {kv : List (β × Value)} {j : Nat} (h : j < kv.length) : { key := F kv[j].1, val := kv[j].2, born := j } ∈ entsG F 0 kv := by
  have := entsG_get (F := F) 0 kv j
  rw [List.getElem?_eq_getElem h, Option.map_some, Nat.zero_add] at this
  exact List.mem_of_getElem? this
theorem knextG {β : Type} {F : β → Value} {ty : TypeId} {r b : Nat} {kv : List (β × Value)} {seen : List Nat} (hr : blk w r = some (.mapIter (some b) kv.length seen.toArray kv.length)) (hm : MapG F w b kv) {K : Value → World → Prop}
    (h0 : (∀ i, i < kv.length → i ∈ seen) → K (.tuple #[.bool false]) w)
    (h1 : ∀ i (hi : i < kv.length), i ∉ seen → ∀ w2, Mod (fun j => j = r) w w2 → w2.heap.size = w.heap.size → blk w2 r = some (.mapIter (some b) kv.length (seen ++ [i]).toArray kv.length) → K (.tuple #[.bool true, F (kv[i]'hi).1, (kv[i]'hi).2]) w2) :
    ksem P (Instr.next (.pointer (some ⟨r, 0, none⟩)) false ty) w K := by
  have hold : ∀ x ∈ (entsG F 0 kv).toArray.toList, x.born < kv.length := by
    intro x hx
    obtain ⟨j, hj, rfl⟩ := mem_entsG hx
    exact hj
  rcases run_next_at (P := P) w ty r b kv.length kv.length seen.toArray (entsG F 0 kv).toArray kv.length hr hm hold (Nat.le_refl _) with ⟨hz, hrun⟩ | ⟨e, he, w1, hw1, hrun⟩
  · rw [ksem_ok hrun]
    refine h0 fun i hi => ?_
    have : leftOf (entsG F 0 kv).toArray seen.toArray = #[] := Array.eq_empty_of_size_eq_zero hz
    unfold leftOf at this
    rw [Array.filter_eq_empty_iff] at this
    have := this _ (by simpa using entsG_mem (F := F) hi)
    simpa using this
  · rw [ksem_ok hrun]
    have hel : e ∈ entsG F 0 kv ∧ e.born ∉ seen := by
      unfold leftOf at he
      simpa using he
    obtain ⟨j, hj, rfl⟩ := mem_entsG hel.1
    have hm1 : Same w w1 := by
      rcases hw1 with rfl | rfl
      · exact Mod.refl _ _
      · exact (Mod.refl _ _).drew
    have hs1 : w1.heap = w.heap := by rcases hw1 with rfl | rfl <;> rfl
    have e1 : ChangeMaps.setBlock w1 r (.mapIter (some b) kv.length (seen.toArray.push j) kv.length) = World.setBlk w1 r (.mapIter (some b) kv.length (seen ++ [j]).toArray kv.length) := by
      unfold ChangeMaps.setBlock World.setBlk; simp
    rw [e1]
    refine h1 j hj hel.2 _ ((Mod.of_same hm1).setBlk _ (.inl rfl)) (by rw [setBlk_size, hs1]) ?_
    rw [setBlk_heap, if_pos rfl]
    have : blk w1 r = blk w r := by unfold blk; rw [hs1]
    rw [this, hr]; rfl
theorem kentryG {β : Type} {F : β → Value} {r b : Nat} {kv : List (β × Value)} {seen : List Nat} {i : Nat} (hi : i < kv.length) (hr : blk w r = some (.mapIter (some b) kv.length (seen ++ [i]).toArray kv.length)) (hm : MapG F w b kv) {K : Value → World → Prop}
    (h : K (.tuple #[F (kv[i]'hi).1, (kv[i]'hi).2]) w) : ksem P (Instr.entry (.pointer (some ⟨r, 0, none⟩))) w K := by
  have hr' : w.heap[r]? = some (.mapIter (some b) kv.length (seen.toArray.push i) kv.length) := by
    have : (seen ++ [i]).toArray = seen.toArray.push i := by simp
    rw [← this]; exact hr
  have hnd : ((entsG F 0 kv).toArray.toList.map (·.born)).Nodup := by
    have : (entsG F 0 kv).map (·.born) = List.range kv.length := by
      apply List.ext_getElem?
      intro j
      rw [List.getElem?_map, entsG_get]
      by_cases hj : j < kv.length
      · rw [List.getElem?_eq_getElem hj]; simp [hj]
      · rw [List.getElem?_eq_none (by omega)]; simp; omega
    rw [show (entsG F 0 kv).toArray.toList = entsG F 0 kv from rfl, this]
    exact List.nodup_range
  have := run_entry_at (P := P) w r b kv.length seen.toArray (entsG F 0 kv).toArray kv.length { key := F kv[i].1, val := kv[i].2, born := i } hr' hm (by simpa using entsG_mem (F := F) hi) hnd
  rw [ksem_ok this]
  exact h
end
end
end Go.Ev
end
section
set_option linter.unusedSimpArgs false
set_option linter.unusedVariables false
namespace Go.Proofs.YtlkpadfkmdgjcaaGreatDoor
open Go Go.Ev
set_option linter.unusedVariables false
set_option linter.unusedSimpArgs false
set_option maxRecDepth 100000

/-! ### Entities as keys -/
structure EK where
  i : Int
  g : Int
  hi : I64 i
  hg : I64 g
deriving instance DecidableEq for EK
def EK.v (x : EK) : Value := entV x.i x.g
theorem EK.ext {x y : EK} (h1 : x.i = y.i) (h2 : x.g = y.g) : x = y := by
  cases x; cases y; cases h1; cases h2; rfl
theorem wideEnt : (match Tryz.prog.underlying 37 with | some (.array _ _) | some (.struct _) => true | _ => false) = true := by rw [Tryz.underlying37]
theorem keyEK : KeyT Tryz.prog 37 EK.v := by
  refine KeyT.ofWide wideEnt (fun a b w => ?_) (fun e a w => ?_) (fun a => ?_)
  · obtain ⟨r, hr, hiff⟩ := run_equalIn_deep (P := Tryz.prog) 9990 10 37 keyEnt w 2 2 a.v b.v _ _ (formEnt a.i a.g) (formEnt b.i b.g) (kl_ent a.hi a.hg 0) (kl_ent b.hi b.hg 0)
    have hr2 : r = decide (a = b) := by
      rw [Bool.eq_iff_iff, hiff, decide_eq_true_eq]
      constructor
      · intro h
        simp at h
        exact EK.ext h.1 h.2
      · rintro rfl; rfl
    rw [hr2] at hr
    exact hr
  · exact run_checkKey_deep (P := Tryz.prog) e 9990 10 37 keyEnt w 2 a.v _ (formEnt a.i a.g) (kl_ent a.hi a.hg 0)
  · simp [EK.v, entV, Instr.sameBits]
theorem keyInt : KeyT Tryz.prog 3 (fun n : Int => Value.int .i64 n) := KeyT.int Tryz.underlying3
end Go.Proofs.YtlkpadfkmdgjcaaGreatDoor
end
section
set_option linter.unusedSimpArgs false
set_option linter.unusedVariables false
namespace Go.Proofs.YtlkpadfkmdgjcaaGreatDoor
open Go Go.Ev
set_option linter.unusedVariables false
set_option maxRecDepth 100000

/-! pasodoble/badge.New -/
def f63 (Q : Value → World → Prop) (w : World) : Prop :=
  kmap w fun v1 w2 =>
  kmap w2 fun v3 w4 =>
  kbld [(.map none), (.map none), (.slice none 0 0), (.int .i64 0)] [(0, 1, v1), (1, 1, v3), (3, 1, (.int .i64 1))] fun v5 =>
  knew (Value.cells v5) 206 w4 fun v6 w7 =>
  Q v6 w7

theorem f63_eq (Q : Value → World → Prop) (w : World) : f63 Q w = fnVC Tryz.prog Tryz.f63 [] (Tryz.f63.body.get rfl) [] w Q := by kernel_rfl
theorem f63_ok {Q : Value → World → Prop} {w : World} (h : f63 Q w) : Meets Tryz.prog 63 #[] w Q :=
  sound (c := (Tryz.f63.body.get rfl)) [] Tryz.func63 rfl rfl (args := []) rfl (Eq.mp (f63_eq Q w) h)

/-! pasodoble/badge.wrong -/
def f125 (x0 : Value) (Q : Value → World → Prop) (w : World) : Prop :=
  kcall Tryz.prog 132 #[(.string ⟨#[98, 97, 100, 103, 101]⟩), x0] w fun v1 w2 =>
  Q v1 w2

/-! (*pasodoble/badge.Badges).own -/
def f127 (x0 : Value) (x1 : Value) (x2 : Value) (Q : Value → World → Prop) (w : World) : Prop :=
  knew (Value.cells x2) 37 w fun v1 w2 =>
  kN x0 <|
  kfld 2 x0 fun v3 =>
  kld v3 w2 fun v4 =>
  kcall Tryz.prog 165 #[v4, x1] w2 fun v5 w6 =>
  kext v5 0 fun v7 =>
  kext v5 1 fun v8 =>
  kN x0 <|
  kfld 2 x0 fun v9 =>
  kld v9 w6 fun v10 =>
  kbldS [(.int .i64 0)] 1 [(0, 1, x1)] 3 w6 fun v11 w12 =>
  kcall Tryz.prog 166 #[v10, v7, v11] w12 fun v13 w14 =>
  kN x0 <|
  kfld 2 x0 fun v15 =>
  kst 1 v15 v13 w14 fun w16 =>
  kN x0 <|
  kfld 0 x0 fun v17 =>
  kld v17 w16.drew fun v18 =>
  kG (w16.drew = w16.drew) <|
  kN x0 <|
  kfld 1 x0 fun v19 =>
  kld v19 w16.drew fun v20 =>
  kG (w16.drew = w16.drew) <|
  kldN 2 v1 w16.drew fun v21 =>
  kG (w16.drew = w16.drew) <|
  kldN 2 v1 w16.drew fun v22 =>
  kG (w16.drew = w16.drew) <|
  ksem Tryz.prog (Instr.mapEntry 203 v18 x1) w16.drew fun v23 w24 =>
  kG (kldN 2 v1 w24 fun v33 =>
  v33 = v22 ∧ w24 = w24) <|
  kG (kldN 2 v1 w24 fun v32 =>
  v32 = v21 ∧ w24 = w24) <|
  kext v23 1 fun v25 =>
  ksemU Tryz.prog (Instr.entryStore 203 v18 v25 v22) w24 fun _ w26 =>
  kG (kldN 2 v1 w26 fun v31 =>
  v31 = v21 ∧ w26 = w26) <|
  ksem Tryz.prog (Instr.mapEntry 204 v20 v21) w26 fun v27 w28 =>
  kext v27 1 fun v29 =>
  ksemU Tryz.prog (Instr.entryStore 204 v20 v29 x1) w28 fun _ w30 =>
  Q (.tuple #[]) w30

theorem f127_eq (x0 : Value) (x1 : Value) (x2 : Value) (Q : Value → World → Prop) (w : World) : f127 x0 x1 x2 Q w = fnVC Tryz.prog Tryz.f127 [] (Tryz.f127.body.get rfl) [x0, x1, x2] w Q := by kernel_rfl
theorem f127_ok {x0 : Value} {x1 : Value} {x2 : Value} {Q : Value → World → Prop} {w : World} (h : f127 x0 x1 x2 Q w) : Meets Tryz.prog 127 #[x0, x1, x2] w Q :=
  sound (c := (Tryz.f127.body.get rfl)) [] Tryz.func127 rfl rfl (args := [x0, x1, x2]) rfl (Eq.mp (f127_eq x0 x1 x2 Q w) h)

/-! (*pasodoble/badge.Badges).Give -/
def f120_0 (x0 : Value) (x3 : Value) (Q : Value → World → Prop) (w : World) : Prop :=
  kN x0 <|
  kfld 3 x0 fun v22 =>
  kld v22 w fun v23 =>
  kN x0 <|
  kfld 3 x0 fun v24 =>
  kld v24 w fun v25 =>
  kint .i64 .add v25 (.int .i64 1) fun v26 =>
  kN x0 <|
  kfld 3 x0 fun v27 =>
  kst 1 v27 v26 w fun w28 =>
  kldN 2 x3 w28 fun v29 =>
  kcall Tryz.prog 127 #[x0, v23, v29] w28 fun v30 w31 =>
  Q (.tuple #[v23, .nilIface]) w31

def f120 (x0 : Value) (x1 : Value) (Q : Value → World → Prop) (w : World) : Prop :=
  knew (Value.cells x1) 37 w fun v1 w2 =>
  kldN 2 v1 w2 fun v3 =>
  kcall Tryz.prog 122 #[x0, v3] w2 fun v4 w5 =>
  kext v4 0 fun v6 =>
  kext v4 1 fun v7 =>
  keq Tryz.prog .eql 102 false true x0 (.pointer none) w5 fun v8 w9 =>
  kB v8 fun b34 => kIf b34
  (kld (.pointer (some ⟨4, 0, none⟩)) w9 fun v10 =>
  kcall Tryz.prog 125 #[v10] w9 fun v11 w12 =>
  Q (.tuple #[(.int .i64 0), v11]) w12)
  (kB v7 fun b33 => kIf b33
  (kld (.pointer (some ⟨0, 0, none⟩)) w9 fun v13 =>
  kcall Tryz.prog 125 #[v13] w9 fun v14 w15 =>
  Q (.tuple #[(.int .i64 0), v14]) w15)
  (kN x0 <|
  kfld 3 x0 fun v16 =>
  kld v16 w9 fun v17 =>
  kint .i64 .gtr v17 (.int .i64 1073741824) fun v18 =>
  kB v18 fun b32 => kIf b32
  (kld (.pointer (some ⟨2, 0, none⟩)) w9 fun v19 =>
  kcall Tryz.prog 125 #[v19] w9 fun v20 w21 =>
  Q (.tuple #[(.int .i64 0), v20]) w21)
  (f120_0 x0 v1 Q w9)))

theorem f120_eq (x0 : Value) (x1 : Value) (Q : Value → World → Prop) (w : World) : f120 x0 x1 Q w = fnVC Tryz.prog Tryz.f120 [] (Tryz.f120.body.get rfl) [x0, x1] w Q := by kernel_rfl
theorem f120_ok {x0 : Value} {x1 : Value} {Q : Value → World → Prop} {w : World} (h : f120 x0 x1 Q w) : Meets Tryz.prog 120 #[x0, x1] w Q :=
  sound (c := (Tryz.f120.body.get rfl)) [] Tryz.func120 rfl rfl (args := [x0, x1]) rfl (Eq.mp (f120_eq x0 x1 Q w) h)

/-! (*pasodoble/badge.Badges).Pin -/
def f65_2 (x0 : Value) (x1 : Value) (x5 : Value) (Q : Value → World → Prop) (w : World) : Prop :=
  kldN 2 x5 w fun v32 =>
  kcall Tryz.prog 127 #[x0, x1, v32] w fun v33 w34 =>
  Q .nilIface w34

def f65_1 (x0 : Value) (x1 : Value) (x5 : Value) (x41 : Value) (Q : Value → World → Prop) (w : World) : Prop :=
  kB x41 fun b35 => kIf b35
  (kld (.pointer (some ⟨0, 0, none⟩)) w fun v29 =>
  kcall Tryz.prog 125 #[v29] w fun v30 w31 =>
  Q v30 w31)
  (f65_2 x0 x1 x5 Q w)

def f65_0 (x0 : Value) (x1 : Value) (x5 : Value) (x8 : Value) (x10 : Value) (x28 : Value) (Q : Value → World → Prop) (w : World) : Prop :=
  kB x28 fun b36 => kIf b36
  (kld (.pointer (some ⟨5, 0, none⟩)) w fun v25 =>
  kcall Tryz.prog 125 #[v25] w fun v26 w27 =>
  Q v26 w27)
  (kB x8 fun b28 => kIf (!b28)
  (f65_1 x0 x1 x5 x10 Q w)
  (f65_1 x0 x1 x5 (.bool true) Q w))

def f65 (x0 : Value) (x1 : Value) (x2 : Value) (Q : Value → World → Prop) (w : World) : Prop :=
  knew (Value.cells x2) 37 w fun v1 w2 =>
  kcall Tryz.prog 126 #[x0, x1] w2 fun v3 w4 =>
  kext v3 0 fun v5 =>
  kext v3 1 fun v6 =>
  knew #[(.int .i64 0), (.int .i64 0)] 37 w4 fun v7 w8 =>
  kst 2 v7 v5 w8 fun w9 =>
  kldN 2 v1 w9 fun v10 =>
  kcall Tryz.prog 122 #[x0, v10] w9 fun v11 w12 =>
  kext v11 0 fun v13 =>
  kext v11 1 fun v14 =>
  keq Tryz.prog .eql 102 false true x0 (.pointer none) w12 fun v15 w16 =>
  kB v15 fun b37 => kIf b37
  (kld (.pointer (some ⟨4, 0, none⟩)) w16 fun v17 =>
  kcall Tryz.prog 125 #[v17] w16 fun v18 w19 =>
  Q v18 w19)
  (kint .i64 .lss x1 (.int .i64 1) fun v20 =>
  kB v20 fun b21 => kIf (!b21)
  (kN x0 <|
  kfld 3 x0 fun v22 =>
  kld v22 w16 fun v23 =>
  kint .i64 .geq x1 v23 fun v24 =>
  f65_0 x0 x1 v1 v6 v14 v24 Q w16)
  (f65_0 x0 x1 v1 v6 v14 (.bool true) Q w16))

theorem f65_eq (x0 : Value) (x1 : Value) (x2 : Value) (Q : Value → World → Prop) (w : World) : f65 x0 x1 x2 Q w = fnVC Tryz.prog Tryz.f65 [] (Tryz.f65.body.get rfl) [x0, x1, x2] w Q := by kernel_rfl
theorem f65_ok {x0 : Value} {x1 : Value} {x2 : Value} {Q : Value → World → Prop} {w : World} (h : f65 x0 x1 x2 Q w) : Meets Tryz.prog 65 #[x0, x1, x2] w Q :=
  sound (c := (Tryz.f65.body.get rfl)) [] Tryz.func65 rfl rfl (args := [x0, x1, x2]) rfl (Eq.mp (f65_eq x0 x1 x2 Q w) h)

/-! (*pasodoble/badge.Badges).Turn -/
def f64_2 (x0 : Value) (x1 : Value) (Q : Value → World → Prop) (w : World) : Prop :=
  kN x0 <|
  kfld 3 x0 fun v31 =>
  kld v31 w fun v32 =>
  kN x0 <|
  kfld 3 x0 fun v33 =>
  kst 1 v33 x1 w fun w34 =>
  Q (.tuple #[v32, .nilIface]) w34

def f64_1 (x0 : Value) (x1 : Value) (x21 : Value) (Q : Value → World → Prop) (w : World) : Prop :=
  kB x21 fun b35 => kIf b35
  (kld (.pointer (some ⟨5, 0, none⟩)) w fun v28 =>
  kcall Tryz.prog 125 #[v28] w fun v29 w30 =>
  Q (.tuple #[(.int .i64 0), v29]) w30)
  (f64_2 x0 x1 Q w)

def f64_0 (x0 : Value) (x1 : Value) (x12 : Value) (Q : Value → World → Prop) (w : World) : Prop :=
  kB x12 fun b36 => kIf b36
  (kld (.pointer (some ⟨5, 0, none⟩)) w fun v9 =>
  kcall Tryz.prog 125 #[v9] w fun v10 w11 =>
  Q (.tuple #[(.int .i64 0), v10]) w11)
  (kN x0 <|
  kfld 2 x0 fun v12 =>
  kld v12 w.drew fun v13 =>
  kG (w.drew = w.drew) <|
  klen v13 fun v14 =>
  kint .i64 .gtr v14 (.int .i64 0) fun v16 =>
  kB v16 fun b17 => kIf b17
  (kN x0 <|
  kfld 2 x0 fun v18 =>
  kld v18 w.drew fun v19 =>
  kG (w.drew = w.drew) <|
  kN x0 <|
  kfld 2 x0 fun v20 =>
  kld v20 w.drew fun v21 =>
  kG (w.drew = w.drew) <|
  klen v21 fun v22 =>
  kint .i64 .sub v22 (.int .i64 1) fun v24 =>
  kix (some (.slice 3)) (some 1) v19 v24 fun v25 =>
  kld v25 w.drew fun v26 =>
  kG (w.drew = w.drew) <|
  kint .i64 .geq v26 x1 fun v27 =>
  f64_1 x0 x1 v27 Q w.drew)
  (f64_1 x0 x1 (.bool false) Q w.drew))

def f64 (x0 : Value) (x1 : Value) (Q : Value → World → Prop) (w : World) : Prop :=
  keq Tryz.prog .eql 102 false true x0 (.pointer none) w fun v1 w2 =>
  kB v1 fun b37 => kIf b37
  (kld (.pointer (some ⟨4, 0, none⟩)) w2 fun v3 =>
  kcall Tryz.prog 125 #[v3] w2 fun v4 w5 =>
  Q (.tuple #[(.int .i64 0), v4]) w5)
  (kint .i64 .lss x1 (.int .i64 1) fun v6 =>
  kB v6 fun b7 => kIf (!b7)
  (kint .i64 .gtr x1 (.int .i64 1073741825) fun v8 =>
  f64_0 x0 x1 v8 Q w2)
  (f64_0 x0 x1 (.bool true) Q w2))

theorem f64_eq (x0 : Value) (x1 : Value) (Q : Value → World → Prop) (w : World) : f64 x0 x1 Q w = fnVC Tryz.prog Tryz.f64 [] (Tryz.f64.body.get rfl) [x0, x1] w Q := by kernel_rfl
theorem f64_ok {x0 : Value} {x1 : Value} {Q : Value → World → Prop} {w : World} (h : f64 x0 x1 Q w) : Meets Tryz.prog 64 #[x0, x1] w Q :=
  sound (c := (Tryz.f64.body.get rfl)) [] Tryz.func64 rfl rfl (args := [x0, x1]) rfl (Eq.mp (f64_eq x0 x1 Q w) h)

/-! (*pasodoble/badge.Badges).Entity -/
def f126_0 (x0 : Value) (x1 : Value) (x4 : Value) (Q : Value → World → Prop) (w : World) : Prop :=
  kN x0 <|
  kfld 0 x0 fun v8 =>
  kld v8 w fun v9 =>
  ksem Tryz.prog (Instr.lookup 203 v9 x1 true) w fun v10 w11 =>
  kext v10 0 fun v12 =>
  kext v10 1 fun v13 =>
  knew #[(.int .i64 0), (.int .i64 0)] 37 w11 fun v14 w15 =>
  kst 2 v14 v12 w15 fun w16 =>
  kldN 2 v14 w16 fun v17 =>
  kst 2 x4 v17 w16 fun w18 =>
  kldN 2 x4 w18 fun v19 =>
  Q (.tuple #[v19, v13]) w18

def f126 (x0 : Value) (x1 : Value) (Q : Value → World → Prop) (w : World) : Prop :=
  knew #[(.int .i64 0), (.int .i64 0)] 37 w fun v1 w2 =>
  keq Tryz.prog .eql 102 false true x0 (.pointer none) w2 fun v3 w4 =>
  kB v3 fun b20 => kIf b20
  (kbld [(.int .i64 0), (.int .i64 0)] [] fun v5 =>
  kst 2 v1 v5 w4 fun w6 =>
  kldN 2 v1 w6 fun v7 =>
  Q (.tuple #[v7, (.bool false)]) w6)
  (f126_0 x0 x1 v1 Q w4)

theorem f126_eq (x0 : Value) (x1 : Value) (Q : Value → World → Prop) (w : World) : f126 x0 x1 Q w = fnVC Tryz.prog Tryz.f126 [] (Tryz.f126.body.get rfl) [x0, x1] w Q := by kernel_rfl
theorem f126_ok {x0 : Value} {x1 : Value} {Q : Value → World → Prop} {w : World} (h : f126 x0 x1 Q w) : Meets Tryz.prog 126 #[x0, x1] w Q :=
  sound (c := (Tryz.f126.body.get rfl)) [] Tryz.func126 rfl rfl (args := [x0, x1]) rfl (Eq.mp (f126_eq x0 x1 Q w) h)

/-! (*pasodoble/badge.Badges).ID -/
def f122_0 (x0 : Value) (x3 : Value) (Q : Value → World → Prop) (w : World) : Prop :=
  kN x0 <|
  kfld 1 x0 fun v5 =>
  kld v5 w.drew fun v6 =>
  kG (w.drew = w.drew) <|
  kldN 2 x3 w.drew fun v7 =>
  kG (w.drew = w.drew) <|
  ksem Tryz.prog (Instr.lookup 204 v6 v7 true) w.drew fun v8 w9 =>
  kG (w9 = w.drew) <|
  kext v8 0 fun v10 =>
  kext v8 1 fun v11 =>
  Q (.tuple #[v10, v11]) w9

def f122 (x0 : Value) (x1 : Value) (Q : Value → World → Prop) (w : World) : Prop :=
  knew (Value.cells x1) 37 w fun v1 w2 =>
  keq Tryz.prog .eql 102 false true x0 (.pointer none) w2 fun v3 w4 =>
  kB v3 fun b12 => kIf b12
  (Q (.tuple #[(.int .i64 0), (.bool false)]) w4)
  (f122_0 x0 v1 Q w4)

theorem f122_eq (x0 : Value) (x1 : Value) (Q : Value → World → Prop) (w : World) : f122 x0 x1 Q w = fnVC Tryz.prog Tryz.f122 [] (Tryz.f122.body.get rfl) [x0, x1] w Q := by kernel_rfl
theorem f122_ok {x0 : Value} {x1 : Value} {Q : Value → World → Prop} {w : World} (h : f122 x0 x1 Q w) : Meets Tryz.prog 122 #[x0, x1] w Q :=
  sound (c := (Tryz.f122.body.get rfl)) [] Tryz.func122 rfl rfl (args := [x0, x1]) rfl (Eq.mp (f122_eq x0 x1 Q w) h)

/-! slices.BinarySearch[[]int,int] -/
def f165_1 (x0 : Value) (x1 : Value) (x6 : Value) (x7 : Value) (x8 : Value) (J3 : Value → Value → World → Prop) (Q : Value → World → Prop) (w : World) : Prop :=
  kint .i64 .add x7 x8 fun v4 =>
  kcnv .u64 v4 fun v5 =>
  kint .u64 .shr v5 (.int .u64 1) fun v6 =>
  kcnv .i64 v6 fun v7 =>
  kix (some (.slice 3)) (some 1) x0 v7 fun v8 =>
  kld v8 w fun v9 =>
  kcall Tryz.prog 190 #[v9, x1] w fun v10 w11 =>
  kB v10 fun b13 => kIf b13
  (kint .i64 .add v7 (.int .i64 1) fun v12 =>
  J3 v12 x8 w11)
  (J3 x7 v7 w11)

def f165_2 (x0 : Value) (x1 : Value) (x6 : Value) (x7 : Value) (Q : Value → World → Prop) (w : World) : Prop :=
  kint .i64 .lss x7 x6 fun v14 =>
  kB v14 fun b15 => kIf b15
  (kix (some (.slice 3)) (some 1) x0 x7 fun v16 =>
  kld v16 w fun v17 =>
  kint .i64 .eql v17 x1 fun v18 =>
  kB v18 fun b19 => kIf (!b19)
  (kix (some (.slice 3)) (some 1) x0 x7 fun v20 =>
  kld v20 w fun v21 =>
  kcall Tryz.prog 195 #[v21] w fun v22 w23 =>
  kB v22 fun b24 => kIf b24
  (kcall Tryz.prog 195 #[x1] w23 fun v25 w26 =>
  Q (.tuple #[x7, v25]) w26)
  (Q (.tuple #[x7, (.bool false)]) w23))
  (Q (.tuple #[x7, (.bool true)]) w))
  (Q (.tuple #[x7, (.bool false)]) w)

def f165_0 (x7 : Value) (x8 : Value) (x0 : Value) (x1 : Value) (x6 : Value) (J3 : Value → Value → World → Prop) (Q : Value → World → Prop) (w : World) : Prop :=
  kint .i64 .lss x7 x8 fun v3 =>
  kB v3 fun b27 => kIf b27
  (f165_1 x0 x1 x6 x7 x8 J3 Q w)
  (f165_2 x0 x1 x6 x7 Q w)

def f165 (x0 : Value) (x1 : Value) (Q : Value → World → Prop) (w : World) : Prop :=
  klen x0 fun v1 =>
  kL fun (I : Value → Value → World → Prop) (μ : Value → Value → World → Nat) => I (.int .i64 0) v1 w ∧ ∀ (x7 x8 : Value) (w1 : World), I x7 x8 w1 →
  f165_0 x7 x8 x0 x1 v1 (fun y7 y8 w2 => I y7 y8 w2 ∧ μ y7 y8 w2 < μ x7 x8 w1) Q w1

theorem f165_eq (x0 : Value) (x1 : Value) (Q : Value → World → Prop) (w : World) : f165 x0 x1 Q w = fnVC Tryz.prog Tryz.f165 [(3, [7, 8])] (Tryz.f165.body.get rfl) [x0, x1] w Q := by kernel_rfl
theorem f165_ok {x0 : Value} {x1 : Value} {Q : Value → World → Prop} {w : World} (h : f165 x0 x1 Q w) : Meets Tryz.prog 165 #[x0, x1] w Q :=
  sound (c := (Tryz.f165.body.get rfl)) [(3, [7, 8])] Tryz.func165 rfl rfl (args := [x0, x1]) rfl (Eq.mp (f165_eq x0 x1 Q w) h)

/-! slices.Insert[[]int,int] -/
def f166_3 (x0 : Value) (x1 : Value) (x2 : Value) (x7 : Value) (x8 : Value) (Q : Value → World → Prop) (w : World) : Prop :=
  ksl (some (.slice 3)) (some 1) x0 (some x8) none fun v42 =>
  ksem Tryz.prog (Builtin.copy_ #[105, 105] 0 #[v42, x2]) w fun v43 w44 =>
  ksl (some (.slice 3)) (some 1) x0 (some x1) none fun v45 =>
  kcall Tryz.prog 197 #[v45, x7] w44 fun v46 w47 =>
  Q x0 w47

def f166_2 (x0 : Value) (x1 : Value) (x2 : Value) (x7 : Value) (x8 : Value) (Q : Value → World → Prop) (w : World) : Prop :=
  kint .i64 .add x8 x7 fun v27 =>
  ksl (some (.slice 3)) (some 1) x0 none (some v27) fun v28 =>
  kint .i64 .add x1 x7 fun v29 =>
  ksl (some (.slice 3)) (some 1) v28 (some v29) none fun v30 =>
  kextf Tryz.prog 196 [x2, v30] w fun v31 w32 =>
  kun .not (some .bool) v31 fun v33 =>
  kB v33 fun b48 => kIf b48
  (kint .i64 .add x1 x7 fun v34 =>
  ksl (some (.slice 3)) (some 1) v28 (some v34) none fun v35 =>
  ksl (some (.slice 3)) (some 1) v28 (some x1) none fun v36 =>
  ksem Tryz.prog (Builtin.copy_ #[105, 105] 0 #[v35, v36]) w32.drew fun v37 w38 =>
  ksl (some (.slice 3)) (some 1) v28 (some x1) none fun v39 =>
  ksem Tryz.prog (Builtin.copy_ #[105, 105] 0 #[v39, x2]) w38 fun v40 w41 =>
  Q v28 w41)
  (f166_3 v28 x1 x2 x7 x8 Q w32)

def f166_1 (x0 : Value) (x1 : Value) (x2 : Value) (x7 : Value) (x8 : Value) (Q : Value → World → Prop) (w : World) : Prop :=
  kint .i64 .add x8 x7 fun v10 =>
  kcap x0 fun v11 =>
  kint .i64 .gtr v10 v11 fun v13 =>
  kB v13 fun b49 => kIf b49
  (ksl (some (.slice 3)) (some 1) x0 none (some x1) fun v14 =>
  kint .i64 .add x8 x7 fun v15 =>
  kint .i64 .sub v15 x1 fun v16 =>
  ksem Tryz.prog (Builtin.append_ #[105, 3] 0 #[v14, v16]) w fun v17 w18 =>
  ksl (some (.slice 3)) (some 1) v17 (some x1) none fun v19 =>
  ksem Tryz.prog (Builtin.copy_ #[105, 105] 0 #[v19, x2]) w18 fun v20 w21 =>
  kint .i64 .add x1 x7 fun v22 =>
  ksl (some (.slice 3)) (some 1) v17 (some v22) none fun v23 =>
  ksl (some (.slice 3)) (some 1) x0 (some x1) none fun v24 =>
  ksem Tryz.prog (Builtin.copy_ #[105, 105] 0 #[v23, v24]) w21.drew fun v25 w26 =>
  Q v17 w26)
  (f166_2 x0 x1 x2 x7 x8 Q w)

def f166_0 (x0 : Value) (x1 : Value) (x2 : Value) (x7 : Value) (Q : Value → World → Prop) (w : World) : Prop :=
  klen x0 fun v5 =>
  kint .i64 .eql x1 v5 fun v7 =>
  kB v7 fun b50 => kIf b50
  (ksem Tryz.prog (Builtin.append_ #[105, 105] 0 #[x0, x2]) w fun v8 w9 =>
  Q v8 w9)
  (f166_1 x0 x1 x2 x7 v5 Q w)

def f166 (x0 : Value) (x1 : Value) (x2 : Value) (Q : Value → World → Prop) (w : World) : Prop :=
  ksl (some (.slice 3)) (some 1) x0 (some x1) none fun v1 =>
  klen x2 fun v2 =>
  kint .i64 .eql v2 (.int .i64 0) fun v4 =>
  kB v4 fun b51 => kIf b51
  (Q x0 w)
  (f166_0 x0 x1 x2 v2 Q w)

theorem f166_eq (x0 : Value) (x1 : Value) (x2 : Value) (Q : Value → World → Prop) (w : World) : f166 x0 x1 x2 Q w = fnVC Tryz.prog Tryz.f166 [] (Tryz.f166.body.get rfl) [x0, x1, x2] w Q := by kernel_rfl
theorem f166_ok {x0 : Value} {x1 : Value} {x2 : Value} {Q : Value → World → Prop} {w : World} (h : f166 x0 x1 x2 Q w) : Meets Tryz.prog 166 #[x0, x1, x2] w Q :=
  sound (c := (Tryz.f166.body.get rfl)) [] Tryz.func166 rfl rfl (args := [x0, x1, x2]) rfl (Eq.mp (f166_eq x0 x1 x2 Q w) h)

/-! slices.isNaN[int] -/
def f195 (x0 : Value) (Q : Value → World → Prop) (w : World) : Prop :=
  kint .i64 .neq x0 x0 fun v1 =>
  Q v1 w

theorem f195_eq (x0 : Value) (Q : Value → World → Prop) (w : World) : f195 x0 Q w = fnVC Tryz.prog Tryz.f195 [] (Tryz.f195.body.get rfl) [x0] w Q := by kernel_rfl
theorem f195_ok {x0 : Value} {Q : Value → World → Prop} {w : World} (h : f195 x0 Q w) : Meets Tryz.prog 195 #[x0] w Q :=
  sound (c := (Tryz.f195.body.get rfl)) [] Tryz.func195 rfl rfl (args := [x0]) rfl (Eq.mp (f195_eq x0 Q w) h)

/-! slices.Sort[[]int,int] -/
def f123 (x0 : Value) (Q : Value → World → Prop) (w : World) : Prop :=
  klen x0 fun v1 =>
  kcnv .u64 v1 fun v3 =>
  kcall Tryz.prog 164 #[v3] w fun v4 w5 =>
  kcall Tryz.prog 163 #[x0, (.int .i64 0), v1, v4] w5 fun v6 w7 =>
  Q (.tuple #[]) w7

theorem f123_eq (x0 : Value) (Q : Value → World → Prop) (w : World) : f123 x0 Q w = fnVC Tryz.prog Tryz.f123 [] (Tryz.f123.body.get rfl) [x0] w Q := by kernel_rfl
theorem f123_ok {x0 : Value} {Q : Value → World → Prop} {w : World} (h : f123 x0 Q w) : Meets Tryz.prog 123 #[x0] w Q :=
  sound (c := (Tryz.f123.body.get rfl)) [] Tryz.func123 rfl rfl (args := [x0]) rfl (Eq.mp (f123_eq x0 Q w) h)

/-! cmp.Less[int] -/
def f190 (x0 : Value) (x1 : Value) (Q : Value → World → Prop) (w : World) : Prop :=
  kcall Tryz.prog 177 #[x0] w fun v1 w2 =>
  kB v1 fun b3 => kIf b3
  (kcall Tryz.prog 177 #[x1] w2 fun v4 w5 =>
  kun .not (some .bool) v4 fun v6 =>
  kB v6 fun b7 => kIf (!b7)
  (kint .i64 .lss x0 x1 fun v8 =>
  Q v8 w5)
  (Q (.bool true) w5))
  (kint .i64 .lss x0 x1 fun v9 =>
  Q v9 w2)

theorem f190_eq (x0 : Value) (x1 : Value) (Q : Value → World → Prop) (w : World) : f190 x0 x1 Q w = fnVC Tryz.prog Tryz.f190 [] (Tryz.f190.body.get rfl) [x0, x1] w Q := by kernel_rfl
theorem f190_ok {x0 : Value} {x1 : Value} {Q : Value → World → Prop} {w : World} (h : f190 x0 x1 Q w) : Meets Tryz.prog 190 #[x0, x1] w Q :=
  sound (c := (Tryz.f190.body.get rfl)) [] Tryz.func190 rfl rfl (args := [x0, x1]) rfl (Eq.mp (f190_eq x0 x1 Q w) h)

end Go.Proofs.YtlkpadfkmdgjcaaGreatDoor
end
section
set_option linter.unusedSimpArgs false
set_option linter.unusedVariables false
namespace Go.Proofs.YtlkpadfkmdgjcaaGreatDoor
open Go Go.Ev
set_option linter.unusedVariables false
set_option maxRecDepth 100000

/-! slices.pdqsortOrdered[int] -/
def f163_8 (x0 : Value) (x1 : Value) (x2 : Value) (x3 : Value) (x10 : Value) (x11 : Value) (J2 : Value → Value → Value → Value → Value → World → Prop) (Q : Value → World → Prop) (w : World) : Prop :=
  kcall Tryz.prog 192 #[x0, x1, x2, x11] w fun v39 w40 =>
  kext v39 0 fun v41 =>
  kext v39 1 fun v42 =>
  kint .i64 .sub v41 x1 fun v43 =>
  kint .i64 .sub x2 v41 fun v44 =>
  kint .i64 .quo x10 (.int .i64 8) fun v45 =>
  kint .i64 .lss v43 v44 fun v46 =>
  kB v46 fun b55 => kIf b55
  (kint .i64 .geq v43 v45 fun v47 =>
  kcall Tryz.prog 163 #[x0, x1, v41, x3] w40 fun v48 w49 =>
  kint .i64 .add v41 (.int .i64 1) fun v50 =>
  J2 v50 x2 x3 v47 v42 w49)
  (kint .i64 .geq v44 v45 fun v51 =>
  kint .i64 .add v41 (.int .i64 1) fun v52 =>
  kcall Tryz.prog 163 #[x0, v52, x2, x3] w40 fun v53 w54 =>
  J2 x1 v41 x3 v51 v42 w54)

def f163_7 (x0 : Value) (x1 : Value) (x2 : Value) (x3 : Value) (x8 : Value) (x9 : Value) (x10 : Value) (x11 : Value) (x87 : Value) (J2 : Value → Value → Value → Value → Value → World → Prop) (Q : Value → World → Prop) (w : World) : Prop :=
  kB x87 fun b56 => kIf b56
  (kcall Tryz.prog 191 #[x0, x1, x2, x11] w fun v37 w38 =>
  J2 v37 x2 x3 x8 x9 w38)
  (f163_8 x0 x1 x2 x3 x10 x11 J2 Q w)

def f163_6 (x0 : Value) (x1 : Value) (x2 : Value) (x3 : Value) (x8 : Value) (x9 : Value) (x10 : Value) (x11 : Value) (J2 : Value → Value → Value → Value → Value → World → Prop) (Q : Value → World → Prop) (w : World) : Prop :=
  kint .i64 .gtr x1 (.int .i64 0) fun v27 =>
  kB v27 fun b28 => kIf b28
  (kint .i64 .sub x1 (.int .i64 1) fun v29 =>
  kix (some (.slice 3)) (some 1) x0 v29 fun v30 =>
  kld v30 w.drew fun v31 =>
  kG (w.drew = w.drew) <|
  kix (some (.slice 3)) (some 1) x0 x11 fun v32 =>
  kld v32 w.drew fun v33 =>
  kG (w.drew = w.drew) <|
  kcall Tryz.prog 190 #[v31, v33] w.drew fun v34 w35 =>
  kun .not (some .bool) v34 fun v36 =>
  f163_7 x0 x1 x2 x3 x8 x9 x10 x11 v36 J2 Q w35)
  (f163_7 x0 x1 x2 x3 x8 x9 x10 x11 (.bool false) J2 Q w.drew)

def f163_5 (x0 : Value) (x1 : Value) (x2 : Value) (x3 : Value) (x8 : Value) (x9 : Value) (x10 : Value) (x11 : Value) (x68 : Value) (J2 : Value → Value → Value → Value → Value → World → Prop) (Q : Value → World → Prop) (w : World) : Prop :=
  kB x68 fun b58 => kIf b58
  (kcall Tryz.prog 189 #[x0, x1, x2] w fun v25 w26 =>
  kB v25 fun b57 => kIf b57
  (Q (.tuple #[]) w26)
  (f163_6 x0 x1 x2 x3 x8 x9 x10 x11 J2 Q w26))
  (f163_6 x0 x1 x2 x3 x8 x9 x10 x11 J2 Q w)

def f163_4 (x0 : Value) (x1 : Value) (x2 : Value) (x3 : Value) (x8 : Value) (x9 : Value) (x10 : Value) (x11 : Value) (x12 : Value) (J2 : Value → Value → Value → Value → Value → World → Prop) (Q : Value → World → Prop) (w : World) : Prop :=
  kB x8 fun b22 => kIf b22
  (kB x9 fun b23 => kIf b23
  (kint .i64 .eql x12 (.int .i64 1) fun v24 =>
  f163_5 x0 x1 x2 x3 x8 x9 x10 x11 v24 J2 Q w)
  (f163_5 x0 x1 x2 x3 x8 x9 x10 x11 (.bool false) J2 Q w))
  (f163_5 x0 x1 x2 x3 x8 x9 x10 x11 (.bool false) J2 Q w)

def f163_3 (x0 : Value) (x1 : Value) (x2 : Value) (x3 : Value) (x8 : Value) (x9 : Value) (x10 : Value) (J2 : Value → Value → Value → Value → Value → World → Prop) (Q : Value → World → Prop) (w : World) : Prop :=
  kcall Tryz.prog 187 #[x0, x1, x2] w fun v12 w13 =>
  kext v12 0 fun v14 =>
  kext v12 1 fun v15 =>
  kint .i64 .eql v15 (.int .i64 2) fun v16 =>
  kB v16 fun b59 => kIf b59
  (kcall Tryz.prog 188 #[x0, x1, x2] w13 fun v17 w18 =>
  kint .i64 .sub x2 (.int .i64 1) fun v19 =>
  kint .i64 .sub v14 x1 fun v20 =>
  kint .i64 .sub v19 v20 fun v21 =>
  f163_4 x0 x1 x2 x3 x8 x9 x10 v21 (.int .i64 1) J2 Q w18)
  (f163_4 x0 x1 x2 x3 x8 x9 x10 v14 v15 J2 Q w13)

def f163_2 (x0 : Value) (x1 : Value) (x2 : Value) (x3 : Value) (x8 : Value) (x9 : Value) (x10 : Value) (J2 : Value → Value → Value → Value → Value → World → Prop) (Q : Value → World → Prop) (w : World) : Prop :=
  kun .not (some .bool) x8 fun v8 =>
  kB v8 fun b60 => kIf b60
  (kcall Tryz.prog 186 #[x0, x1, x2] w fun v9 w10 =>
  kint .i64 .sub x3 (.int .i64 1) fun v11 =>
  f163_3 x0 x1 x2 v11 x8 x9 x10 J2 Q w10)
  (f163_3 x0 x1 x2 x3 x8 x9 x10 J2 Q w)

def f163_1 (x0 : Value) (x1 : Value) (x2 : Value) (x3 : Value) (x8 : Value) (x9 : Value) (x10 : Value) (J2 : Value → Value → Value → Value → Value → World → Prop) (Q : Value → World → Prop) (w : World) : Prop :=
  kint .i64 .eql x3 (.int .i64 0) fun v5 =>
  kB v5 fun b61 => kIf b61
  (kcall Tryz.prog 185 #[x0, x1, x2] w fun v6 w7 =>
  Q (.tuple #[]) w7)
  (f163_2 x0 x1 x2 x3 x8 x9 x10 J2 Q w)

def f163_0 (x1 : Value) (x2 : Value) (x3 : Value) (x8 : Value) (x9 : Value) (x0 : Value) (J2 : Value → Value → Value → Value → Value → World → Prop) (Q : Value → World → Prop) (w : World) : Prop :=
  kint .i64 .sub x2 x1 fun v1 =>
  kint .i64 .leq v1 (.int .i64 12) fun v2 =>
  kB v2 fun b62 => kIf b62
  (kcall Tryz.prog 184 #[x0, x1, x2] w fun v3 w4 =>
  Q (.tuple #[]) w4)
  (f163_1 x0 x1 x2 x3 x8 x9 v1 J2 Q w)

def f163 (x0 : Value) (x1 : Value) (x2 : Value) (x3 : Value) (Q : Value → World → Prop) (w : World) : Prop :=
  kL fun (I : Value → Value → Value → Value → Value → World → Prop) (μ : Value → Value → Value → Value → Value → World → Nat) => I x1 x2 x3 (.bool true) (.bool true) w ∧ ∀ (x1 x2 x3 x8 x9 : Value) (w1 : World), I x1 x2 x3 x8 x9 w1 →
  f163_0 x1 x2 x3 x8 x9 x0 (fun y1 y2 y3 y8 y9 w2 => I y1 y2 y3 y8 y9 w2 ∧ μ y1 y2 y3 y8 y9 w2 < μ x1 x2 x3 x8 x9 w1) Q w1

theorem f163_eq (x0 : Value) (x1 : Value) (x2 : Value) (x3 : Value) (Q : Value → World → Prop) (w : World) : f163 x0 x1 x2 x3 Q w = fnVC Tryz.prog Tryz.f163 [(2, [1, 2, 3, 8, 9])] (Tryz.f163.body.get rfl) [x0, x1, x2, x3] w Q := by kernel_rfl
theorem f163_ok {x0 : Value} {x1 : Value} {x2 : Value} {x3 : Value} {Q : Value → World → Prop} {w : World} (h : f163 x0 x1 x2 x3 Q w) : Meets Tryz.prog 163 #[x0, x1, x2, x3] w Q :=
  sound (c := (Tryz.f163.body.get rfl)) [(2, [1, 2, 3, 8, 9])] Tryz.func163 rfl rfl (args := [x0, x1, x2, x3]) rfl (Eq.mp (f163_eq x0 x1 x2 x3 Q w) h)

/-! slices.insertionSortOrdered[int] -/
def f184_5 (x0 : Value) (x1 : Value) (x2 : Value) (x6 : Value) (x7 : Value) (J4 : Value → World → Prop) (J1 : Value → World → Prop) (Q : Value → World → Prop) (w : World) : Prop :=
  kint .i64 .sub x7 (.int .i64 1) fun v22 =>
  J4 v22 w

def f184_4 (x0 : Value) (x1 : Value) (x2 : Value) (x6 : Value) (x7 : Value) (J4 : Value → World → Prop) (J1 : Value → World → Prop) (Q : Value → World → Prop) (w : World) : Prop :=
  kint .i64 .sub x7 (.int .i64 1) fun v12 =>
  kint .i64 .sub x7 (.int .i64 1) fun v13 =>
  kix (some (.slice 3)) (some 1) x0 v13 fun v14 =>
  kld v14 w.drew fun v15 =>
  kG (w.drew = w.drew) <|
  kix (some (.slice 3)) (some 1) x0 x7 fun v16 =>
  kld v16 w.drew fun v17 =>
  kG (w.drew = w.drew) <|
  kix (some (.slice 3)) (some 1) x0 x7 fun v18 =>
  kst 1 v18 v15 w.drew fun w19 =>
  kix (some (.slice 3)) (some 1) x0 v12 fun v20 =>
  kst 1 v20 v17 w19 fun w21 =>
  f184_5 x0 x1 x2 x6 x7 J4 J1 Q w21

def f184_6 (x0 : Value) (x1 : Value) (x2 : Value) (x6 : Value) (J1 : Value → World → Prop) (Q : Value → World → Prop) (w : World) : Prop :=
  kint .i64 .add x6 (.int .i64 1) fun v23 =>
  J1 v23 w

def f184_3 (x0 : Value) (x1 : Value) (x2 : Value) (x6 : Value) (x7 : Value) (x30 : Value) (J4 : Value → World → Prop) (J1 : Value → World → Prop) (Q : Value → World → Prop) (w : World) : Prop :=
  kB x30 fun b24 => kIf b24
  (f184_4 x0 x1 x2 x6 x7 J4 J1 Q w)
  (f184_6 x0 x1 x2 x6 J1 Q w)

def f184_2 (x7 : Value) (x0 : Value) (x1 : Value) (x2 : Value) (x6 : Value) (J4 : Value → World → Prop) (J1 : Value → World → Prop) (Q : Value → World → Prop) (w : World) : Prop :=
  kint .i64 .gtr x7 x1 fun v3 =>
  kB v3 fun b4 => kIf b4
  (kix (some (.slice 3)) (some 1) x0 x7 fun v5 =>
  kld v5 w.drew fun v6 =>
  kG (w.drew = w.drew) <|
  kint .i64 .sub x7 (.int .i64 1) fun v7 =>
  kix (some (.slice 3)) (some 1) x0 v7 fun v8 =>
  kld v8 w.drew fun v9 =>
  kG (w.drew = w.drew) <|
  kcall Tryz.prog 190 #[v6, v9] w.drew fun v10 w11 =>
  f184_3 x0 x1 x2 x6 x7 v10 J4 J1 Q w11)
  (f184_3 x0 x1 x2 x6 x7 (.bool false) J4 J1 Q w.drew)

def f184_1 (x0 : Value) (x1 : Value) (x2 : Value) (x6 : Value) (J1 : Value → World → Prop) (Q : Value → World → Prop) (w : World) : Prop :=
  kL fun (I : Value → World → Prop) (μ : Value → World → Nat) => I x6 w ∧ ∀ (x7 : Value) (w1 : World), I x7 w1 →
  f184_2 x7 x0 x1 x2 x6 (fun y7 w2 => I y7 w2 ∧ μ y7 w2 < μ x7 w1) J1 Q w1

def f184_0 (x6 : Value) (x0 : Value) (x1 : Value) (x2 : Value) (J1 : Value → World → Prop) (Q : Value → World → Prop) (w : World) : Prop :=
  kint .i64 .lss x6 x2 fun v2 =>
  kB v2 fun b25 => kIf b25
  (f184_1 x0 x1 x2 x6 J1 Q w)
  (Q (.tuple #[]) w)

def f184 (x0 : Value) (x1 : Value) (x2 : Value) (Q : Value → World → Prop) (w : World) : Prop :=
  kint .i64 .add x1 (.int .i64 1) fun v1 =>
  kL fun (I : Value → World → Prop) (μ : Value → World → Nat) => I v1 w ∧ ∀ (x6 : Value) (w1 : World), I x6 w1 →
  f184_0 x6 x0 x1 x2 (fun y6 w2 => I y6 w2 ∧ μ y6 w2 < μ x6 w1) Q w1

theorem f184_eq (x0 : Value) (x1 : Value) (x2 : Value) (Q : Value → World → Prop) (w : World) : f184 x0 x1 x2 Q w = fnVC Tryz.prog Tryz.f184 [(1, [6]), (4, [7])] (Tryz.f184.body.get rfl) [x0, x1, x2] w Q := by kernel_rfl
theorem f184_ok {x0 : Value} {x1 : Value} {x2 : Value} {Q : Value → World → Prop} {w : World} (h : f184 x0 x1 x2 Q w) : Meets Tryz.prog 184 #[x0, x1, x2] w Q :=
  sound (c := (Tryz.f184.body.get rfl)) [(1, [6]), (4, [7])] Tryz.func184 rfl rfl (args := [x0, x1, x2]) rfl (Eq.mp (f184_eq x0 x1 x2 Q w) h)

end Go.Proofs.YtlkpadfkmdgjcaaGreatDoor
end
section
set_option linter.unusedSimpArgs false
set_option linter.unusedVariables false
namespace Go.Proofs.YtlkpadfkmdgjcaaGreatDoor
open Go.Shelf
def sortInt_ren : Go.Shelf.Ren := ⟨fun | 189 => 123 | 125 => 164 | 257 => 163 | 128 => 193 | 129 => 194 | 294 => 184 | 295 => 185 | 296 => 186 | 297 => 187 | 298 => 188 | 299 => 189 | 216 => 190 | 300 => 191 | 301 => 192 | 328 => 223 | 329 => 224 | 330 => 225 | 331 => 226 | 332 => 227 | 215 => 177 | 343 => 238 | n => n, fun | 28 => 105 | 3 => 3 | 46 => 46 | 0 => 0 | 51 => 23 | 53 => 304 | 4 => 4 | 183 => 297 | 182 => 296 | 131 => 113 | 5 => 5 | 9 => 9 | 218 => 322 | 222 => 326 | 228 => 336 | 229 => 337 | n => n, fun | n => n⟩
theorem sortInt : Go.Proofs.Lays.n189 Tryz.prog sortInt_ren := {
  mixed := by kernel_rfl
  f125 := Tryz.func164.trans (congrArg some (by kernel_rfl))
  f128 := Tryz.func193.trans (congrArg some (by kernel_rfl))
  f129 := Tryz.func194.trans (congrArg some (by kernel_rfl))
  f189 := Tryz.func123.trans (congrArg some (by kernel_rfl))
  f215 := Tryz.func177.trans (congrArg some (by kernel_rfl))
  f216 := Tryz.func190.trans (congrArg some (by kernel_rfl))
  f257 := Tryz.func163.trans (congrArg some (by kernel_rfl))
  f294 := Tryz.func184.trans (congrArg some (by kernel_rfl))
  f295 := Tryz.func185.trans (congrArg some (by kernel_rfl))
  f296 := Tryz.func186.trans (congrArg some (by kernel_rfl))
  f297 := Tryz.func187.trans (congrArg some (by kernel_rfl))
  f298 := Tryz.func188.trans (congrArg some (by kernel_rfl))
  f299 := Tryz.func189.trans (congrArg some (by kernel_rfl))
  f300 := Tryz.func191.trans (congrArg some (by kernel_rfl))
  f301 := Tryz.func192.trans (congrArg some (by kernel_rfl))
  f328 := Tryz.func223.trans (congrArg some (by kernel_rfl))
  f329 := Tryz.func224.trans (congrArg some (by kernel_rfl))
  f330 := Tryz.func225.trans (congrArg some (by kernel_rfl))
  f331 := Tryz.func226.trans (congrArg some (by kernel_rfl))
  f332 := Tryz.func227.trans (congrArg some (by kernel_rfl))
  f343 := Tryz.func238.trans (congrArg some (by kernel_rfl))
  t0 := Tryz.underlying0
  a0 := Tryz.isAgg0
  z0 := Tryz.sizeOf0
  v0 := Tryz.zeroValue0
  t3 := Tryz.underlying3
  a3 := Tryz.isAgg3
  z3 := Tryz.sizeOf3
  v3 := Tryz.zeroValue3
  t4 := Tryz.underlying4
  a4 := Tryz.isAgg4
  z4 := Tryz.sizeOf4
  v4 := Tryz.zeroValue4
  t5 := Tryz.underlying5
  a5 := Tryz.isAgg5
  z5 := Tryz.sizeOf5
  v5 := Tryz.zeroValue5
  t9 := Tryz.underlying9
  a9 := Tryz.isAgg9
  z9 := Tryz.sizeOf9
  v9 := Tryz.zeroValue9
  t28 := Tryz.underlying105
  a28 := Tryz.isAgg105
  z28 := Tryz.sizeOf105
  v28 := Tryz.zeroValue105
  t46 := Tryz.underlying46
  a46 := Tryz.isAgg46
  z46 := Tryz.sizeOf46
  v46 := Tryz.zeroValue46
  t51 := Tryz.underlying23
  a51 := Tryz.isAgg23
  z51 := Tryz.sizeOf23
  v51 := Tryz.zeroValue23
  t53 := Tryz.underlying304
  a53 := Tryz.isAgg304
  z53 := Tryz.sizeOf304
  v53 := Tryz.zeroValue304
  t131 := Tryz.underlying113
  a131 := Tryz.isAgg113
  z131 := Tryz.sizeOf113
  v131 := Tryz.zeroValue113
  t182 := Tryz.underlying296
  a182 := Tryz.isAgg296
  z182 := Tryz.sizeOf296
  v182 := Tryz.zeroValue296
  t183 := Tryz.underlying297
  a183 := Tryz.isAgg297
  z183 := Tryz.sizeOf297
  v183 := Tryz.zeroValue297
  t218 := Tryz.underlying322
  a218 := Tryz.isAgg322
  z218 := Tryz.sizeOf322
  v218 := Tryz.zeroValue322
  t222 := Tryz.underlying326
  a222 := Tryz.isAgg326
  z222 := Tryz.sizeOf326
  v222 := Tryz.zeroValue326
  t228 := Tryz.underlying336
  a228 := Tryz.isAgg336
  z228 := Tryz.sizeOf336
  v228 := Tryz.zeroValue336
  t229 := Tryz.underlying337
  a229 := Tryz.isAgg337
  z229 := Tryz.sizeOf337
  v229 := Tryz.zeroValue337 }
end Go.Proofs.YtlkpadfkmdgjcaaGreatDoor
end
section
set_option linter.unusedSimpArgs false
set_option linter.unusedVariables false
namespace Go.Proofs.YtlkpadfkmdgjcaaGreatDoor
open Go Go.Ev Go.Sort Go.RowKit
set_option linter.unusedVariables false
set_option linter.unusedSimpArgs false
set_option maxRecDepth 100000
attribute [local irreducible] kO kB kStr kInt kN kG kIf kfld kld kldN kst knew kmap kbld kbldS kext kcnv klenStr klen kcap kprt kprtN kbool kint kstr keq kun ksl kix kiv kta kmk kmm ksem ksemU kextf kcallV kcallM kcall kL

/-! ### Numbers, sorted by the library -/
theorem putCells_map {α : Type} [Inhabited α] (enc : α → Value) (off : Nat) (d : Array α) (arr : Array Value) : putCells enc off d arr = putCells id off (d.map enc) arr := by
  unfold putCells
  congr 1
  funext k x
  rw [Array.size_map]
  by_cases h : off ≤ k ∧ k < off + d.size
  · rw [if_pos h, if_pos h, getElem!_pos d (k - off) (by omega), getElem!_pos (d.map enc) (k - off) (by rw [Array.size_map]; omega), Array.getElem_map]; rfl
  · rw [if_neg h, if_neg h]
theorem sortI_mod {w : World} {b n : Nat} {arr : Array Value} {t : TypeId} (hb : blk w b = some (.cells arr t)) (d : Array Int) (os : Array Obj) (hs : d.size ≤ arr.size) :
    Mod (fun i => i = b) w (grow (putRow (Value.int .i64) (Sort.ahead w n) b 0 d) os) ∧ blk (grow (putRow (Value.int .i64) (Sort.ahead w n) b 0 d) os) b = some (.cells (setAll (d.toList.map nV) arr 0) t) := by
  have hlt := lt_of_blk hb
  have hsz : (mapBlock (Sort.ahead w n) b (putCells (Value.int .i64) 0 d)).heap.size = w.heap.size := by unfold mapBlock Sort.ahead; simp
  have hg : ∀ i, i < w.heap.size → blk (grow (putRow (Value.int .i64) (Sort.ahead w n) b 0 d) os) i = blk (mapBlock (Sort.ahead w n) b (putCells (Value.int .i64) 0 d)) i := by
    intro i hi
    unfold putRow grow blk
    rw [Array.getElem?_append_left (by rw [hsz]; exact hi)]
  have ha : ∀ i, blk (Sort.ahead w n) i = blk w i := fun _ => rfl
  refine ⟨⟨rfl, rfl, rfl, ?_, fun i hi hne => ?_⟩, ?_⟩
  · unfold putRow grow
    rw [Array.size_append, hsz]; omega
  · rw [hg i hi, mapBlock_blk, if_neg hne, ha]
  · rw [hg b hlt, mapBlock_blk, if_pos rfl, ha, hb]
    show some (Obj.cells (putCells (Value.int .i64) 0 d arr) t (0, 0)) = _
    rw [putCells_map, putCells_list _ _ _ (by simpa using hs), Array.toList_map]
    rfl
theorem insI_nil (w : World) : Meets Tryz.prog 184 #[.slice none 0 0, .int .i64 0, .int .i64 0] w fun v w' => v = .tuple #[] ∧ w' = w := by
  refine f184_ok ?_
  unfold f184
  repeat (first | refine kN_at ?_ | refine kB_at ?_ | refine kfld_of ?_ | refine kext_at rfl ?_ | refine kG_of (by first | exact rfl | omega) ?_ | refine klen_at ?_ | refine eql_at ?_ | refine neq_at ?_ | refine lss_at ?_ | refine leq_at ?_ | refine gtr_at ?_ | refine geq_at ?_ | refine add_at (by omega) (by omega) ?_ | refine sub_at (by omega) (by omega) ?_ | refine not_at ?_ | refine kO_at ?_ | refine kprt_at rfl ?_ | refine kprtN_at rfl ?_ | refine kcap_at ?_ | refine klenStr_at ?_ | refine kN_iat ?_ | refine kN_fat ?_ | refine kIf_T (by first | exact rfl | exact decT (by omega) | exact notT (decF (by omega))) ?_ | refine kIf_F (by first | exact rfl | exact decF (by omega) | exact notF (decT (by omega))) ?_)
  refine kL1_of 0 (fun i x wr => x = .int .i64 1 ∧ wr = w) ⟨lI1_0 ⟨rfl, rfl⟩, fun x wr hx => ?_⟩
  obtain ⟨i, hi, ⟨rfl, rfl⟩, hJ⟩ := lI1_step hx
  unfold f184_0
  repeat (first | refine kN_at ?_ | refine kB_at ?_ | refine kfld_of ?_ | refine kext_at rfl ?_ | refine kG_of (by first | exact rfl | omega) ?_ | refine klen_at ?_ | refine eql_at ?_ | refine neq_at ?_ | refine lss_at ?_ | refine leq_at ?_ | refine gtr_at ?_ | refine geq_at ?_ | refine add_at (by omega) (by omega) ?_ | refine sub_at (by omega) (by omega) ?_ | refine not_at ?_ | refine kO_at ?_ | refine kprt_at rfl ?_ | refine kprtN_at rfl ?_ | refine kcap_at ?_ | refine klenStr_at ?_ | refine kN_iat ?_ | refine kN_fat ?_ | refine kIf_T (by first | exact rfl | exact decT (by omega) | exact notT (decF (by omega))) ?_ | refine kIf_F (by first | exact rfl | exact decF (by omega) | exact notF (decT (by omega))) ?_)
  exact ⟨rfl, rfl⟩
def pdqInvI (w : World) (x1 x2 x3 x10 x11 : Value) (wr : World) : Prop := x1 = .int .i64 0 ∧ x2 = .int .i64 0 ∧ wr = w
theorem pdqI_nil (w : World) (l : Value) : Meets Tryz.prog 163 #[.slice none 0 0, .int .i64 0, .int .i64 0, l] w fun v w' => v = .tuple #[] ∧ w' = w := by
  refine f163_ok ?_
  unfold f163
  refine kL_of (pdqInvI w) (fun _ _ _ _ _ _ => 0) ⟨⟨rfl, rfl, rfl⟩, ?_⟩
  rintro x1 x2 x3 x10 x11 wr ⟨rfl, rfl, rfl⟩
  unfold f163_0
  repeat (first | refine kN_at ?_ | refine kB_at ?_ | refine kfld_of ?_ | refine kext_at rfl ?_ | refine kG_of (by first | exact rfl | omega) ?_ | refine klen_at ?_ | refine eql_at ?_ | refine neq_at ?_ | refine lss_at ?_ | refine leq_at ?_ | refine gtr_at ?_ | refine geq_at ?_ | refine add_at (by omega) (by omega) ?_ | refine sub_at (by omega) (by omega) ?_ | refine not_at ?_ | refine kO_at ?_ | refine kprt_at rfl ?_ | refine kprtN_at rfl ?_ | refine kcap_at ?_ | refine klenStr_at ?_ | refine kN_iat ?_ | refine kN_fat ?_ | refine kIf_T (by first | exact rfl | exact decT (by omega) | exact notT (decF (by omega))) ?_ | refine kIf_F (by first | exact rfl | exact decF (by omega) | exact notF (decT (by omega))) ?_)
  refine kcall_of (insI_nil wr) ?_
  rintro v w' ⟨rfl, rfl⟩
  exact ⟨rfl, rfl⟩
theorem sortI_nil (w : World) : Meets Tryz.prog 123 #[.slice none 0 0] w fun v w' => v = .tuple #[] ∧ w' = w := by
  refine f123_ok ?_
  unfold f123
  refine klen_at ?_
  rw [kcnv_int, show IntKind.u64.wrap ((0 : Nat) : Int) = 0 by decide]
  refine kcall_of (len_0 w) ?_
  rintro v w5 ⟨rfl, rfl⟩
  refine kcall_of (pdqI_nil w5 _) ?_
  rintro v w7 ⟨rfl, rfl⟩
  exact ⟨rfl, rfl⟩
theorem sortI_spec {w : World} {v : Value} {L : List Int} (hO : Own w v 1 (L.map nV)) (hl : L.length < 4611686018427387904) :
    Meets Tryz.prog 123 #[v] w fun _ w' => ∃ L' : List Int, L'.Perm L ∧ L'.Pairwise (fun x y => x ≤ y) ∧ Own w' v 1 (L'.map nV) ∧ Mod (vblk v) w w' := by
  have hO' := hO
  obtain ⟨a, n, c, rfl, h1, h2, h3, h4⟩ := hO'
  have h1 : n = L.length := by simpa using h1.symm
  subst h1
  rcases h4 with ⟨rfl, hc0⟩ | ⟨b, arr, t, rfl, hb, hs, h5⟩
  · obtain rfl : c = 0 := hc0
    have hL : L = [] := List.eq_nil_of_length_eq_zero (by omega)
    subst hL
    refine (sortI_nil w).mono ?_
    rintro v w' ⟨rfl, rfl⟩
    exact ⟨[], List.Perm.refl _, List.Pairwise.nil, Own.nil _ _, Mod.refl _ _⟩
  · rw [Nat.mul_one] at hs h5
    have hH : Holds (Value.int .i64) w b 0 L.toArray := by
      intro j hj
      have hj : j < L.length := by simpa using hj
      refine ⟨?_, by simp [World.frozen?, show w.heap[b]? = _ from hb]⟩
      have e1 := congrArg (fun l : List Value => l[j]?) h5
      simp only [List.getElem?_take_of_lt hj] at e1
      rw [cell_mk, hb, cellO_some, Nat.zero_add, getElem!_pos _ j (by simpa using hj)]
      rw [Array.getElem?_toList, List.getElem?_map, List.getElem?_eq_getElem hj] at e1
      exact e1
    refine ⟨by kernel_rfl, (Any.slices_Sort_int sortInt b 0 c L w hH (lt_of_blk hb) hl).mono ?_⟩
    rintro e w' ⟨rfl, m, os, rfl⟩
    have hp : (L.mergeSort fun x y => decide (x ≤ y)).Perm L := List.mergeSort_perm L _
    have hsz : (L.mergeSort fun x y => decide (x ≤ y)).length = L.length := hp.length_eq
    obtain ⟨q1, q2⟩ := sortI_mod (n := m) hb (L.mergeSort fun x y => decide (x ≤ y)).toArray os (by simp; omega)
    refine ⟨_, rfl, _, hp, ?_, ?_, q1.mono fun k _ e => by subst e; exact ⟨_, _, _, rfl⟩⟩
    · have := List.pairwise_mergeSort (le := fun x y : Int => decide (x ≤ y)) (by simp; omega) (by simp; omega) L
      exact this.imp (fun h => by simpa using h)
    · have := hO.put (us := (L.mergeSort fun x y => decide (x ≤ y)).map nV) (j := 0) hb q2 (by simp)
      rw [List.take_zero, List.nil_append, Nat.zero_add, List.drop_of_length_le (by simp), List.append_nil] at this
      exact this
end Go.Proofs.YtlkpadfkmdgjcaaGreatDoor
end
section
set_option linter.unusedSimpArgs false
set_option linter.unusedVariables false
namespace Go.Proofs.YtlkpadfkmdgjcaaGreatDoor
open Go Go.Ev
set_option linter.unusedVariables false
set_option linter.unusedSimpArgs false
set_option maxRecDepth 100000
attribute [local irreducible] kO kB kStr kInt kN kG kIf kfld kld kldN kst knew kmap kbld kbldS kext kcnv klenStr klen kcap kprt kprtN kbool kint kstr keq kun ksl kix kiv kta kmk kmm ksem ksemU kextf kcallV kcallM kcall kL

/-! ### Badges -/
def intF (n : Int) : Value := .int .i64 n
def numV (i : Nat) : Value := natV (i + 1)
def ownKV (E : List EK) : List (Int × Value) := E.zipIdx.map fun x => (((x.2 + 1 : Nat) : Int), x.1.v)
def idsKV (E : List EK) : List (EK × Value) := E.zipIdx.map fun x => (x.1, numV x.2)
theorem ownKV_snoc (E : List EK) (e : EK) : ownKV (E ++ [e]) = ownKV E ++ [(((E.length + 1 : Nat) : Int), e.v)] := by simp [ownKV, List.zipIdx_append]
theorem idsKV_snoc (E : List EK) (e : EK) : idsKV (E ++ [e]) = idsKV E ++ [(e, numV E.length)] := by simp [idsKV, List.zipIdx_append]
theorem idsKV_keys (E : List EK) : (idsKV E).map (·.1) = E := by
  unfold idsKV
  rw [List.map_map]
  show E.zipIdx.map (fun x => x.1) = E
  apply List.ext_getElem?
  intro i
  rw [List.getElem?_map, List.getElem?_zipIdx]
  cases E[i]? <;> simp
theorem ownKV_keys (E : List EK) : (ownKV E).map (·.1) = (List.range E.length).map fun i : Nat => ((i + 1 : Nat) : Int) := by
  unfold ownKV
  rw [List.map_map]
  apply List.ext_getElem?
  intro i
  rw [List.getElem?_map, List.getElem?_zipIdx, List.getElem?_map]
  by_cases h : i < E.length
  · rw [List.getElem?_eq_getElem h, List.getElem?_range h]; simp
  · rw [List.getElem?_eq_none (by omega), List.getElem?_eq_none (by simp; omega)]; rfl
theorem valG_snoc {α : Type} [DecidableEq α] (n m : α) (v : Value) (kv : List (α × Value)) (h : m ∉ kv.map (·.1)) : valG n (kv ++ [(m, v)]) = if n = m then some v else valG n kv := by
  rw [← putG_new (lkG_none.2 h), valG_put]
theorem valG_none {α : Type} [DecidableEq α] {n : α} {kv : List (α × Value)} : valG n kv = none ↔ n ∉ kv.map (·.1) := by
  unfold valG
  rw [Option.map_eq_none_iff, lkG_none]
/-- Whose number it is, from the beginning on. -/
theorem valG_ids (e : EK) : ∀ E : List EK, E.Nodup → valG e (idsKV E) = if e ∈ E then some (numV (E.idxOf e)) else none := by
  intro E hE
  by_cases h : e ∈ E
  · rw [if_pos h]
    cases hl : lkG e (idsKV E) with
    | none => exact absurd (lkG_none.1 hl) (by rw [idsKV_keys]; simpa using h)
    | some x =>
      obtain ⟨i, v⟩ := x
      have h1 := lkG_some hl
      unfold idsKV at h1
      rw [List.getElem?_map, List.getElem?_zipIdx] at h1
      have hv : valG e (idsKV E) = some v := by unfold valG; rw [hl]; rfl
      rw [hv]
      cases he : E[i]? with
      | none => rw [he] at h1; simp at h1
      | some y =>
        rw [he] at h1
        simp at h1
        obtain ⟨rfl, rfl⟩ := h1
        obtain ⟨hi, he⟩ := List.getElem?_eq_some_iff.1 he
        rw [← he, hE.idxOf_getElem i hi]
  · rw [if_neg h, valG_none, idsKV_keys]; exact h
structure BadgeQ (U : Nat → Prop) (w : World) (b : Nat) (E : List EK) (bo bi : Nat) (sv : Value) : Prop where
  here : blk w b = some (.cells #[.map (some bo), .map (some bi), sv, natV (E.length + 1)] 206)
  own : MapG intF w bo (ownKV E)
  ids : MapG EK.v w bi (idsKV E)
  nums : Own w sv 1 ((List.range E.length).map numV)
  ub : U b
  uo : U bo
  ui : U bi
  us : ∀ k, vblk sv k → U k
  ne : bo ≠ bi
  ns : ∀ k, vblk sv k → k ≠ b
  nd : E.Nodup
  le : E.length ≤ 64
def BadgeAt (U : Nat → Prop) (w : World) (b : Nat) (E : List EK) : Prop := ∃ bo bi sv, BadgeQ U w b E bo bi sv
theorem BadgeQ.mod {U fp : Nat → Prop} {w w' : World} {b : Nat} {E : List EK} {bo bi : Nat} {sv : Value} (h : BadgeQ U w b E bo bi sv) (m : Mod fp w w') (hf : ∀ k, U k → ¬ fp k) : BadgeQ U w' b E bo bi sv :=
  ⟨m.get h.here (hf _ h.ub), h.own.mod m (hf _ h.uo), h.ids.mod m (hf _ h.ui), h.nums.mod m fun k hk => hf k (h.us k hk), h.ub, h.uo, h.ui, h.us, h.ne, h.ns, h.nd, h.le⟩
theorem BadgeAt.mod {U fp : Nat → Prop} {w w' : World} {b : Nat} {E : List EK} (h : BadgeAt U w b E) (m : Mod fp w w') (hf : ∀ k, U k → ¬ fp k) : BadgeAt U w' b E := by
  obtain ⟨bo, bi, sv, h⟩ := h
  exact ⟨bo, bi, sv, h.mod m hf⟩
theorem BadgeAt.same {U : Nat → Prop} {w w' : World} {b : Nat} {E : List EK} (h : BadgeAt U w b E) (m : Same w w') : BadgeAt U w' b E := h.mod m fun _ _ h => h
theorem BadgeAt.mono {U U' : Nat → Prop} {w : World} {b : Nat} {E : List EK} (h : BadgeAt U w b E) (hU : ∀ k, k < w.heap.size → U k → U' k) : BadgeAt U' w b E := by
  obtain ⟨bo, bi, sv, h⟩ := h
  exact ⟨bo, bi, sv, h.here, h.own, h.ids, h.nums, hU _ (lt_of_blk h.here) h.ub, hU _ (lt_of_blk h.own) h.uo, hU _ (lt_of_blk h.ids) h.ui, fun k hk => hU _ (h.nums.vblk_lt hk) (h.us k hk), h.ne, h.ns, h.nd, h.le⟩
theorem ptBad : isPtrT Tryz.prog 102 = true := by kernel_rfl
theorem zEnt0 : zeroO Tryz.prog 37 = some (entV 0 0) := by kernel_rfl
theorem zInt0 : zeroO Tryz.prog 3 = some (.int .i64 0) := by kernel_rfl
theorem badgeNew_spec (w : World) : Meets Tryz.prog 63 #[] w fun v w' => ∃ b, v = .pointer (some ⟨b, 0, none⟩) ∧ BadgeAt (fun k => w.heap.size ≤ k) w' b [] ∧ Same w w' := by
  refine f63_ok ?_
  unfold f63
  refine kmap_of fun w2 h2 hs2 hm2 => ?_
  refine kmap_of fun w4 h4 hs4 hm4 => ?_
  refine kbld_of (cs := [.map (some w.heap.size), .map (some w2.heap.size), .slice none 0 0, .int .i64 1]) rfl ?_
  refine knew_of fun w6 h6 hs6 hb6 => ?_
  refine ⟨w4.heap.size, rfl, ⟨w.heap.size, w2.heap.size, .slice none 0 0, hb6, ?_, ?_, Own.nil _ _, by omega, by omega, by omega, fun k hk => ?_, by omega, fun k hk => ?_, List.nodup_nil, by simp⟩, (h2.trans h4).trans h6⟩
  · have e : blk w2 w.heap.size = some (.map #[] 0) := hm2 .i64
    exact (h4.trans h6).get e (fun h => h)
  · have e : blk w4 w2.heap.size = some (.map #[] 0) := hm4 .i64
    exact h6.get e (fun h => h)
  · obtain ⟨_, _, _, e⟩ := hk; cases e
  · obtain ⟨_, _, _, e⟩ := hk; cases e
theorem id_spec {U : Nat → Prop} {w : World} {b : Nat} {E : List EK} (h : BadgeAt U w b E) (e : EK) :
    Meets Tryz.prog 122 #[.pointer (some ⟨b, 0, none⟩), e.v] w fun v w' => v = .tuple #[(if e ∈ E then numV (E.idxOf e) else .int .i64 0), .bool (decide (e ∈ E))] ∧ Same w w' := by
  obtain ⟨bo, bi, sv, h⟩ := h
  refine f122_ok ?_
  unfold f122
  refine knew_of fun w2 hm2 hs2 hb2 => ?_
  have hb2 : blk w2.drew w.heap.size = some (.cells #[.int .i64 e.i, .int .i64 e.g] 37) := hb2
  rw [keq_ptr_nil ptBad]
  refine kB_at ?_
  refine kIf_F rfl ?_
  unfold f122_0
  have m2 : Same w w2.drew := hm2.drew
  have h2 := h.mod m2 (fun _ _ h => h)
  generalize w2.drew = wa at *
  have hh := h2.here
  repeat (first | refine kN_at ?_ | refine kB_at ?_ | refine kfld_of ?_ | refine kext_at rfl ?_ | refine kld_at hh rfl ?_ | refine kldN_at hh rfl (by omega) ?_ | refine kG_of (by first | exact rfl | omega) ?_ | refine klen_at ?_ | refine eql_at ?_ | refine neq_at ?_ | refine lss_at ?_ | refine leq_at ?_ | refine gtr_at ?_ | refine geq_at ?_ | refine add_at (by omega) (by omega) ?_ | refine sub_at (by omega) (by omega) ?_ | refine not_at ?_ | refine kO_at ?_ | refine kprt_at rfl ?_ | refine kprtN_at rfl ?_ | refine kcap_at ?_ | refine klenStr_at ?_ | refine kN_iat ?_ | refine kN_fat ?_ | refine kIf_T (by first | exact rfl | exact decT (by omega) | exact notT (decF (by omega))) ?_ | refine kIf_F (by first | exact rfl | exact decF (by omega) | exact notF (decT (by omega))) ?_)
  refine kldN_at (cs := [.int .i64 e.i, .int .i64 e.g]) hb2 rfl (by omega) ?_
  refine kG_of rfl ?_
  refine klookOkG Tryz.underlying204 keyEK zInt0 h2.ids e ?_
  refine kG_of rfl ?_
  repeat (first | refine kN_at ?_ | refine kB_at ?_ | refine kfld_of ?_ | refine kext_at rfl ?_ | refine kG_of (by first | exact rfl | omega) ?_ | refine klen_at ?_ | refine eql_at ?_ | refine neq_at ?_ | refine lss_at ?_ | refine leq_at ?_ | refine gtr_at ?_ | refine geq_at ?_ | refine add_at (by omega) (by omega) ?_ | refine sub_at (by omega) (by omega) ?_ | refine not_at ?_ | refine kO_at ?_ | refine kprt_at rfl ?_ | refine kprtN_at rfl ?_ | refine kcap_at ?_ | refine klenStr_at ?_ | refine kN_iat ?_ | refine kN_fat ?_ | refine kIf_T (by first | exact rfl | exact decT (by omega) | exact notT (decF (by omega))) ?_ | refine kIf_F (by first | exact rfl | exact decF (by omega) | exact notF (decT (by omega))) ?_)
  rw [valG_ids e E h.nd]
  refine ⟨?_, m2⟩
  by_cases he : e ∈ E
  · simp [he]
  · simp [he]
theorem less_spec (x y : Int) (w : World) : Meets Tryz.prog 190 #[.int .i64 x, .int .i64 y] w fun v w' => v = .bool (decide (x < y)) ∧ w' = w := by
  refine f190_ok ?_
  unfold f190
  refine kcall_of (isNaN_spec x w) ?_
  rintro v w' ⟨rfl, rfl⟩
  refine kB_at ?_
  refine kIf_F rfl ?_
  refine lss_at ?_
  exact ⟨rfl, rfl⟩
theorem bsearch_end {w : World} {a : Option Addr} {c n : Nat} (hn : n ≤ 64) (hs : SlIs w a n 1 ((List.range n).map numV)) :
    Meets Tryz.prog 165 #[.slice a n c, natV (n + 1)] w fun v w' => v = .tuple #[natV n, .bool false] ∧ Same w w' := by
  rw [natV]
  refine f165_ok ?_
  unfold f165
  refine klen_at ?_
  refine kL2_of n (fun r x y wr => ∃ i : Nat, r ≤ i ∧ i ≤ n ∧ x = .int .i64 i ∧ y = .int .i64 n ∧ Same w wr) ⟨lI2_0 ⟨0, by omega, by omega, rfl, rfl, Mod.refl _ _⟩, fun x y wr hx => ?_⟩
  obtain ⟨r, hr, ⟨i, hri, hin, rfl, rfl, hm⟩, hJ⟩ := lI2_step hx
  unfold f165_0
  refine lss_at ?_
  refine kB_at ?_
  refine kIf_dec (fun hlt => ?_) (fun hge => ?_)
  · have hlt : i < n := by omega
    unfold f165_1
    refine add_at (by omega) (by omega) ?_
    rw [kcnv_int, wrap_u64 (by omega) (by omega), kint_shr]
    refine kG_of (by omega) ?_
    have e2 : ishr .u64 ((i : Int) + (n : Int)) 1 = (((i + n) / 2 : Nat) : Int) := by
      have := shr_nat (k := .u64) (i + n) 1 (by decide)
      rw [show ((i + n : Nat) : Int) = (i : Int) + (n : Int) by omega] at this
      exact this
    rw [e2, kcnv_int, wrap_i64 (by omega) (by omega)]
    have hh1 : (i + n) / 2 < n := by omega
    have hh2 : i ≤ (i + n) / 2 := by omega
    generalize (i + n) / 2 = h at *
    have hlr : (List.range n).length = n := List.length_range
    have hs' : SlIs wr a (List.range n).length 1 ((List.range n).map numV) := by rw [hlr]; exact hs.same hm
    refine (kixld_of (F := numV) (l := List.range n) (c := c) hs' (show h < (List.range n).length by omega) rfl ?_ |> fun x => by rw [hlr] at x; exact x)
    rw [List.getElem_range, numV, natV]
    refine kcall_of (less_spec _ _ _) ?_
    rintro v w' ⟨rfl, rfl⟩
    rw [decT (by omega)]
    refine kB_at ?_
    refine kIf_T rfl ?_
    refine add_at (by omega) (by omega) ?_
    rw [show (h : Int) + 1 = ((h + 1 : Nat) : Int) by omega]
    refine hJ _ _ _ (by omega) ⟨h + 1, by omega, by omega, rfl, rfl, hm⟩
  · have : i = n := by omega
    subst this
    unfold f165_2
    refine lss_at ?_
    rw [decF (by omega)]
    refine kB_at ?_
    refine kIf_F rfl ?_
    exact ⟨rfl, hm⟩
end Go.Proofs.YtlkpadfkmdgjcaaGreatDoor
end
section
set_option linter.unusedSimpArgs false
set_option linter.unusedVariables false
namespace Go.Proofs.YtlkpadfkmdgjcaaGreatDoor
open Go Go.Ev
set_option linter.unusedVariables false
set_option linter.unusedSimpArgs false
set_option maxRecDepth 100000
attribute [local irreducible] kO kB kStr kInt kN kG kIf kfld kld kldN kst knew kmap kbld kbldS kext kcnv klenStr klen kcap kprt kprtN kbool kint kstr keq kun ksl kix kiv kta kmk kmm ksem ksemU kextf kcallV kcallM kcall kL

theorem apNums : appT Tryz.prog 105 1 8 = true := by kernel_rfl
theorem slNums_is : ∃ e, Tryz.prog.underlying 105 = some (.slice e) := slT_of (by kernel_rfl)
theorem insert_end {w : World} {sv : Value} {vs : List Value} (hO : Own w sv 1 vs) (hn : vs.length ≤ 1000) {bb : Nat} {x : Int} {t : TypeId} (hb : blk w bb = some (.cells #[.int .i64 x] t)) :
    Meets Tryz.prog 166 #[sv, natV vs.length, .slice (some ⟨bb, 0, none⟩) 1 1] w fun v w' => Own w' v 1 (vs ++ [.int .i64 x]) ∧ Mod (vblk sv) w w' ∧ ∀ k, vblk v k → vblk sv k ∨ w.heap.size ≤ k := by
  have hO' := hO
  obtain ⟨a, n, c, rfl, h1, h2, h3, h4⟩ := hO
  have h1 : n = vs.length := by omega
  subst h1
  rw [natV]
  refine f166_ok ?_
  unfold f166
  rw [ksl_slice rfl rfl]
  refine kG_of (by simp only [loV_int, hiV_none]; omega) ?_
  refine klen_at ?_
  refine eql_at ?_
  rw [decF (by omega)]
  refine kB_at ?_
  refine kIf_F rfl ?_
  unfold f166_0
  refine klen_at ?_
  refine eql_at ?_
  rw [decT rfl]
  refine kB_at ?_
  refine kIf_T rfl ?_
  refine ksem_append apNums (by omega) hO' (Src.ofSlIs (hk := slNums_is.choose_spec) 1 (SlIs.blk hb rfl) rfl) (by simp; omega) (by simp; omega) ?_
  intro v' w' ho hm hf
  exact ⟨ho, hm, hf⟩
theorem own_cells {w : World} {v : Value} {sz : Nat} {vs : List Value} (h : Own w v sz vs) {b : Nat} (hb : vblk v b) : ∃ arr t, blk w b = some (.cells arr t) := by
  obtain ⟨a, n, c, rfl, h1, h2, h3, h4⟩ := h
  obtain ⟨o, n', c', e⟩ := hb
  cases e
  rcases h4 with ⟨h4, _⟩ | ⟨b', arr, t, e, hb, _⟩
  · cases h4
  · cases e; exact ⟨arr, t, hb⟩
theorem keyInt' : KeyT Tryz.prog 3 intF := keyInt
theorem own_spec {w : World} {b : Nat} {E : List EK} {bo bi : Nat} {sv nx : Value} (hb : blk w b = some (.cells #[.map (some bo), .map (some bi), sv, nx] 206)) (ho : MapG intF w bo (ownKV E)) (hi : MapG EK.v w bi (idsKV E)) (hs : Own w sv 1 ((List.range E.length).map numV))
    (ne : bo ≠ bi) (ns : ∀ k, vblk sv k → k ≠ b) (nd : E.Nodup) (hle : E.length < 64) (e : EK) (he : e ∉ E) :
    Meets Tryz.prog 127 #[.pointer (some ⟨b, 0, none⟩), natV (E.length + 1), e.v] w fun v w' => v = .tuple #[] ∧ ∃ sv', blk w' b = some (.cells #[.map (some bo), .map (some bi), sv', nx] 206) ∧ MapG intF w' bo (ownKV (E ++ [e])) ∧ MapG EK.v w' bi (idsKV (E ++ [e])) ∧
      Own w' sv' 1 ((List.range (E.length + 1)).map numV) ∧ (∀ k, vblk sv' k → vblk sv k ∨ w.heap.size ≤ k) ∧ Mod (fun k => k = b ∨ k = bo ∨ k = bi ∨ vblk sv k) w w' := by
  have hsO := hs
  obtain ⟨sa, sn, sc, rfl, hsl, hsn⟩ := hs.is
  have hsn : sn = E.length := by simpa using hsn rfl
  subst hsn
  have hnb : bo ≠ b := fun h => by
    have h1 : blk w bo = some (.map _ _) := ho
    rw [h, hb] at h1; cases h1
  have hnb2 : bi ≠ b := fun h => by
    have h1 : blk w bi = some (.map _ _) := hi
    rw [h, hb] at h1; cases h1
  have hnv : ∀ k, vblk (.slice sa E.length sc) k → k ≠ bo ∧ k ≠ bi := fun k hk => by
    obtain ⟨arr, t, hk⟩ := own_cells hsO hk
    constructor
    · rintro rfl
      have h1 : blk w k = some (.map _ _) := ho
      rw [hk] at h1; cases h1
    · rintro rfl
      have h1 : blk w k = some (.map _ _) := hi
      rw [hk] at h1; cases h1
  have lb := lt_of_blk hb
  have lo := lt_of_blk ho
  have li := lt_of_blk hi
  refine f127_ok ?_
  unfold f127
  refine knew_of fun w2 h2 hs2 hb2 => ?_
  have he2 : blk w2 w.heap.size = some (.cells #[.int .i64 e.i, .int .i64 e.g] 37) := hb2
  have hbw2 := h2.get hb (fun h => h)
  repeat (first | refine kN_at ?_ | refine kB_at ?_ | refine kfld_of ?_ | refine kext_at rfl ?_ | refine kld_at hbw2 rfl ?_ | refine kldN_at hbw2 rfl (by omega) ?_ | refine kG_of (by first | exact rfl | omega) ?_ | refine klen_at ?_ | refine eql_at ?_ | refine neq_at ?_ | refine lss_at ?_ | refine leq_at ?_ | refine gtr_at ?_ | refine geq_at ?_ | refine add_at (by omega) (by omega) ?_ | refine sub_at (by omega) (by omega) ?_ | refine not_at ?_ | refine kO_at ?_ | refine kprt_at rfl ?_ | refine kprtN_at rfl ?_ | refine kcap_at ?_ | refine klenStr_at ?_ | refine kN_iat ?_ | refine kN_fat ?_ | refine kIf_T (by first | exact rfl | exact decT (by omega) | exact notT (decF (by omega))) ?_ | refine kIf_F (by first | exact rfl | exact decF (by omega) | exact notF (decT (by omega))) ?_)
  refine kcall_of (bsearch_end (by omega) (hsl.same h2)) ?_
  rintro v w6 ⟨rfl, h6⟩
  have m6 := h2.trans h6
  have hbw6 := m6.get hb (fun h => h)
  repeat (first | refine kN_at ?_ | refine kB_at ?_ | refine kfld_of ?_ | refine kext_at rfl ?_ | refine kld_at hbw6 rfl ?_ | refine kldN_at hbw6 rfl (by omega) ?_ | refine kG_of (by first | exact rfl | omega) ?_ | refine klen_at ?_ | refine eql_at ?_ | refine neq_at ?_ | refine lss_at ?_ | refine leq_at ?_ | refine gtr_at ?_ | refine geq_at ?_ | refine add_at (by omega) (by omega) ?_ | refine sub_at (by omega) (by omega) ?_ | refine not_at ?_ | refine kO_at ?_ | refine kprt_at rfl ?_ | refine kprtN_at rfl ?_ | refine kcap_at ?_ | refine klenStr_at ?_ | refine kN_iat ?_ | refine kN_fat ?_ | refine kIf_T (by first | exact rfl | exact decT (by omega) | exact notT (decF (by omega))) ?_ | refine kIf_F (by first | exact rfl | exact decF (by omega) | exact notF (decT (by omega))) ?_)
  refine kbldS_of (cs := [natV (E.length + 1)]) rfl fun w12 h12 hs12 hb12 => ?_
  have m12 := m6.trans h12
  have hO12 := hsO.same m12
  have hlen : ((List.range E.length).map numV).length = E.length := by simp
  refine kcall_of (by have := insert_end hO12 (by rw [hlen]; omega) (x := ((E.length + 1 : Nat) : Int)) hb12; rw [hlen] at this; exact this) ?_
  rintro v w14 ⟨hO14, h14, hf14⟩
  have eN : (List.range E.length).map numV ++ [Value.int .i64 ((E.length + 1 : Nat) : Int)] = (List.range (E.length + 1)).map numV := by simp [List.range_succ, numV, natV]
  rw [eN] at hO14
  obtain ⟨va, vn, vc, rfl, _, _⟩ := hO14.is
  have hbw14 := h14.get (m12.get hb (fun h => h)) (fun hk => ns _ hk rfl)
  have he14 := h14.get ((h6.trans h12).get he2 (fun h => h)) (fun hk => by have := hsO.vblk_lt hk; omega)
  have ho14 := (ho.same m12).mod h14 (fun hk => (hnv _ hk).1 rfl)
  have hi14 := (hi.same m12).mod h14 (fun hk => (hnv _ hk).2 rfl)
  repeat (first | refine kN_at ?_ | refine kB_at ?_ | refine kfld_of ?_ | refine kext_at rfl ?_ | refine kG_of (by first | exact rfl | omega) ?_ | refine klen_at ?_ | refine eql_at ?_ | refine neq_at ?_ | refine lss_at ?_ | refine leq_at ?_ | refine gtr_at ?_ | refine geq_at ?_ | refine add_at (by omega) (by omega) ?_ | refine sub_at (by omega) (by omega) ?_ | refine not_at ?_ | refine kO_at ?_ | refine kprt_at rfl ?_ | refine kprtN_at rfl ?_ | refine kcap_at ?_ | refine klenStr_at ?_ | refine kN_iat ?_ | refine kN_fat ?_ | refine kIf_T (by first | exact rfl | exact decT (by omega) | exact notT (decF (by omega))) ?_ | refine kIf_F (by first | exact rfl | exact decF (by omega) | exact notF (decT (by omega))) ?_)
  refine kst_of (vs := [.slice va vn vc]) hbw14 rfl rfl rfl (by simp) (by simp) fun w16 h16 hs16 hb16 => ?_
  have hbw16 : blk w16.drew b = some (.cells #[.map (some bo), .map (some bi), .slice va vn vc, nx] 206) := hb16
  have hd16 : Mod (fun k => k = b) w14 w16.drew := h16.drew
  have he16 := hd16.get he14 (by omega)
  have ho16 := ho14.mod hd16 hnb
  have hi16 := hi14.mod hd16 hnb2
  have hz12 := m12.size
  have hO16 := hO14.mod hd16 (fun k hk e => by
    rcases hf14 k hk with h | h
    · exact ns k h e
    · omega)
  generalize w16.drew = wa at *
  repeat (first | refine kN_at ?_ | refine kB_at ?_ | refine kfld_of ?_ | refine kext_at rfl ?_ | refine kld_at hbw16 rfl ?_ | refine kldN_at hbw16 rfl (by omega) ?_ | refine kG_of (by first | exact rfl | omega) ?_ | refine klen_at ?_ | refine eql_at ?_ | refine neq_at ?_ | refine lss_at ?_ | refine leq_at ?_ | refine gtr_at ?_ | refine geq_at ?_ | refine add_at (by omega) (by omega) ?_ | refine sub_at (by omega) (by omega) ?_ | refine not_at ?_ | refine kO_at ?_ | refine kprt_at rfl ?_ | refine kprtN_at rfl ?_ | refine kcap_at ?_ | refine klenStr_at ?_ | refine kN_iat ?_ | refine kN_fat ?_ | refine kIf_T (by first | exact rfl | exact decT (by omega) | exact notT (decF (by omega))) ?_ | refine kIf_F (by first | exact rfl | exact decF (by omega) | exact notF (decT (by omega))) ?_)
  refine kldN_at (cs := [.int .i64 e.i, .int .i64 e.g]) he16 rfl (by omega) ?_
  refine kG_of rfl ?_
  refine kldN_at (cs := [.int .i64 e.i, .int .i64 e.g]) he16 rfl (by omega) ?_
  refine kG_of rfl ?_
  have hkn : ((E.length + 1 : Nat) : Int) ∉ (ownKV E).map (·.1) := by
    rw [ownKV_keys]
    intro h
    obtain ⟨i, hi, e2⟩ := List.mem_map.1 h
    have := List.mem_range.1 hi
    omega
  have hvn : valG ((E.length + 1 : Nat) : Int) (ownKV E) = none := valG_none.2 hkn
  refine kmapEntryG (F := intF) Tryz.underlying203 keyInt' zEnt0 ho16 ((E.length + 1 : Nat) : Int) fun w24 h24 hs24 hm24 => ?_
  have hz16 := hd16.size
  have hz14 := h14.size
  have he24 := h24.get he16 (by omega)
  refine kG_of (kldN_at (cs := [.int .i64 e.i, .int .i64 e.g]) he24 rfl (by omega) ⟨rfl, rfl⟩) ?_
  refine kG_of (kldN_at (cs := [.int .i64 e.i, .int .i64 e.g]) he24 rfl (by omega) ⟨rfl, rfl⟩) ?_
  repeat (first | refine kN_at ?_ | refine kB_at ?_ | refine kfld_of ?_ | refine kext_at rfl ?_ | refine kG_of (by first | exact rfl | omega) ?_ | refine klen_at ?_ | refine eql_at ?_ | refine neq_at ?_ | refine lss_at ?_ | refine leq_at ?_ | refine gtr_at ?_ | refine geq_at ?_ | refine add_at (by omega) (by omega) ?_ | refine sub_at (by omega) (by omega) ?_ | refine not_at ?_ | refine kO_at ?_ | refine kprt_at rfl ?_ | refine kprtN_at rfl ?_ | refine kcap_at ?_ | refine klenStr_at ?_ | refine kN_iat ?_ | refine kN_fat ?_ | refine kIf_T (by first | exact rfl | exact decT (by omega) | exact notT (decF (by omega))) ?_ | refine kIf_F (by first | exact rfl | exact decF (by omega) | exact notF (decT (by omega))) ?_)
  refine kentryStoreG (F := intF) hm24 (putG_idx _ _ _) fun w26 h26 hs26 hm26 => ?_
  rw [putG_set, putG_new (lkG_none.2 hkn)] at hm26
  have he26 := h26.get he24 (by omega)
  refine kG_of (kldN_at (cs := [.int .i64 e.i, .int .i64 e.g]) he26 rfl (by omega) ⟨rfl, rfl⟩) ?_
  have m26 : Mod (fun k => k = bo) wa w26 := h24.trans h26
  have hi26 := hi16.mod m26 (fun h => ne h.symm)
  have hkn2 : e ∉ (idsKV E).map (·.1) := by rw [idsKV_keys]; exact he
  refine kmapEntryG (F := EK.v) Tryz.underlying204 keyEK zInt0 hi26 e fun w28 h28 hs28 hm28 => ?_
  repeat (first | refine kN_at ?_ | refine kB_at ?_ | refine kfld_of ?_ | refine kext_at rfl ?_ | refine kG_of (by first | exact rfl | omega) ?_ | refine klen_at ?_ | refine eql_at ?_ | refine neq_at ?_ | refine lss_at ?_ | refine leq_at ?_ | refine gtr_at ?_ | refine geq_at ?_ | refine add_at (by omega) (by omega) ?_ | refine sub_at (by omega) (by omega) ?_ | refine not_at ?_ | refine kO_at ?_ | refine kprt_at rfl ?_ | refine kprtN_at rfl ?_ | refine kcap_at ?_ | refine klenStr_at ?_ | refine kN_iat ?_ | refine kN_fat ?_ | refine kIf_T (by first | exact rfl | exact decT (by omega) | exact notT (decF (by omega))) ?_ | refine kIf_F (by first | exact rfl | exact decF (by omega) | exact notF (decT (by omega))) ?_)
  refine kentryStoreG (F := EK.v) hm28 (putG_idx _ _ _) fun w30 h30 hs30 hm30 => ?_
  rw [putG_set, putG_new (lkG_none.2 hkn2)] at hm30
  have m30 : Mod (fun k => k = bi) w26 w30 := h28.trans h30
  refine ⟨rfl, _, m30.get (m26.get hbw16 (fun h => hnb h.symm)) (fun h => hnb2 h.symm), ?_, ?_, ?_, fun k hk => ?_, ?_⟩
  · rw [ownKV_snoc]
    exact hm26.mod m30 ne
  · rw [idsKV_snoc]
    exact hm30
  · refine (hO16.mod m26 fun k hk e => ?_).mod m30 fun k hk e => ?_
    · rcases hf14 k hk with h | h
      · exact (hnv k h).1 e
      · omega
    · rcases hf14 k hk with h | h
      · exact (hnv k h).2 e
      · omega
  · rcases hf14 k hk with h | h
    · exact .inl h
    · exact .inr (by omega)
  · exact (Mod.of_same m12).trans ((h14.mono fun k _ h => .inr (.inr (.inr h))).trans ((hd16.mono fun k _ h => .inl h).trans ((m26.mono fun k _ h => .inr (.inl h)).trans (m30.mono fun k _ h => .inr (.inr (.inl h))))))
end Go.Proofs.YtlkpadfkmdgjcaaGreatDoor
end
section
set_option linter.unusedSimpArgs false
set_option linter.unusedVariables false
namespace Go.Proofs.YtlkpadfkmdgjcaaGreatDoor
open Go Go.Ev
set_option linter.unusedVariables false
set_option linter.unusedSimpArgs false
set_option maxRecDepth 100000

/-! ### A part more, and then less (plain) -/
def SortP (L : List Part) : Prop := L.Pairwise (fun x y => x.comp ≤ y.comp)
theorem nt_inj : ∀ {A : List Part}, NoTwice A → ∀ x ∈ A, ∀ y ∈ A, x.comp = y.comp → x = y
  | [], _, x, hx, _, _, _ => by cases hx
  | a :: A, h, x, hx, y, hy, e => by
    have h' := List.nodup_cons.1 (show (a.comp :: A.map (·.comp)).Nodup from h)
    rcases List.mem_cons.1 hx with hxa | hxA
    · rcases List.mem_cons.1 hy with hya | hyA
      · rw [hxa, hya]
      · exact absurd (show a.comp ∈ A.map (·.comp) from List.mem_map.2 ⟨y, hyA, by rw [← hxa]; exact e.symm⟩) h'.1
    · rcases List.mem_cons.1 hy with hya | hyA
      · exact absurd (show a.comp ∈ A.map (·.comp) from List.mem_map.2 ⟨x, hxA, by rw [← hya]; exact e⟩) h'.1
      · exact nt_inj h'.2 x hxA y hyA e
theorem sorted_unique {A B : List Part} (hp : A.Perm B) (hA : SortP A) (hB : SortP B) (hn : NoTwice A) : A = B :=
  List.Perm.eq_of_pairwise (le := fun x y : Part => x.comp ≤ y.comp) (fun a b ha hb h1 h2 => nt_inj hn a ha b (hp.mem_iff.2 hb) (by omega)) hA hB hp
theorem NoTwice.filter {L : List Part} (h : NoTwice L) (p : Part → Bool) : NoTwice (L.filter p) :=
  List.Nodup.sublist (List.Sublist.map _ List.filter_sublist) h
end Go.Proofs.YtlkpadfkmdgjcaaGreatDoor
end
section
set_option linter.unusedSimpArgs false
set_option linter.unusedVariables false
namespace Go.Proofs.YtlkpadfkmdgjcaaGreatDoor
open Go Go.Ev
set_option linter.unusedVariables false
set_option linter.unusedSimpArgs false
set_option maxRecDepth 100000
attribute [local irreducible] kO kB kStr kInt kN kG kIf kfld kld kldN kst knew kmap kbld kbldS kext kcnv klenStr klen kcap kprt kprtN kbool kint kstr keq kun ksl kix kiv kta kmk kmm ksem ksemU kextf kcallV kcallM kcall kL

/-! ### How many bits -/
def popS : ByteArray := ⟨#[0, 1, 1, 2, 1, 2, 2, 3, 1, 2, 2, 3, 2, 3, 3, 4, 1, 2, 2, 3, 2, 3, 3, 4, 2, 3, 3, 4, 3, 4, 4, 5, 1, 2, 2, 3, 2, 3, 3, 4, 2, 3, 3, 4, 3, 4, 4, 5, 2, 3, 3, 4, 3, 4, 4, 5, 3, 4, 4, 5, 4, 5, 5, 6, 1, 2, 2, 3, 2, 3, 3, 4, 2, 3, 3, 4, 3, 4, 4, 5, 2, 3, 3, 4, 3, 4, 4, 5, 3, 4, 4, 5, 4, 5, 5, 6, 2, 3, 3, 4, 3, 4, 4, 5, 3, 4, 4, 5, 4, 5, 5, 6, 3, 4, 4, 5, 4, 5, 5, 6, 4, 5, 5, 6, 5, 6, 6, 7, 1, 2, 2, 3, 2, 3, 3, 4, 2, 3, 3, 4, 3, 4, 4, 5, 2, 3, 3, 4, 3, 4, 4, 5, 3, 4, 4, 5, 4, 5, 5, 6, 2, 3, 3, 4, 3, 4, 4, 5, 3, 4, 4, 5, 4, 5, 5, 6, 3, 4, 4, 5, 4, 5, 5, 6, 4, 5, 5, 6, 5, 6, 6, 7, 2, 3, 3, 4, 3, 4, 4, 5, 3, 4, 4, 5, 4, 5, 5, 6, 3, 4, 4, 5, 4, 5, 5, 6, 4, 5, 5, 6, 5, 6, 6, 7, 3, 4, 4, 5, 4, 5, 5, 6, 4, 5, 5, 6, 5, 6, 6, 7, 4, 5, 5, 6, 5, 6, 6, 7, 5, 6, 6, 7, 6, 7, 7, 8]⟩
theorem pop_get : ∀ x : Nat, x < 256 → popS[x]? = some (UInt8.ofNat (listF x).length) := by decide +kernel
end Go.Proofs.YtlkpadfkmdgjcaaGreatDoor
end
section
set_option linter.unusedSimpArgs false
set_option linter.unusedVariables false
namespace Go.Proofs.YtlkpadfkmdgjcaaGreatDoor
open Go Go.Ev
set_option linter.unusedVariables false
set_option linter.unusedSimpArgs false
set_option maxRecDepth 100000
attribute [local irreducible] kO kB kStr kInt kN kG kIf kfld kld kldN kst knew kmap kbld kbldS kext kcnv klenStr klen kcap kprt kprtN kbool kint kstr keq kun ksl kix kiv kta kmk kmm ksem ksemU kextf kcallV kcallM kcall kL

theorem give_spec {U : Nat → Prop} {w : World} {b : Nat} {E : List EK} (h : BadgeAt U w b E) (e : EK) (he : e ∉ E) (hle : E.length < 64) :
    Meets Tryz.prog 120 #[.pointer (some ⟨b, 0, none⟩), e.v] w fun v w' => v = .tuple #[natV (E.length + 1), .nilIface] ∧ BadgeAt (fun k => U k ∨ w.heap.size ≤ k) w' b (E ++ [e]) ∧ Mod U w w' := by
  have hA := h
  obtain ⟨bo, bi, sv, h⟩ := h
  refine f120_ok ?_
  unfold f120
  refine knew_of fun w2 h2 hs2 hb2 => ?_
  have he2 : blk w2 w.heap.size = some (.cells #[.int .i64 e.i, .int .i64 e.g] 37) := hb2
  refine kldN_at (cs := [.int .i64 e.i, .int .i64 e.g]) he2 rfl (by omega) ?_
  refine kcall_of (id_spec (hA.same h2) e) ?_
  rintro v w5 ⟨rfl, h5⟩
  rw [if_neg he, decF he]
  repeat (first | refine kN_at ?_ | refine kB_at ?_ | refine kfld_of ?_ | refine kext_at rfl ?_ | refine kG_of (by first | exact rfl | omega) ?_ | refine klen_at ?_ | refine eql_at ?_ | refine neq_at ?_ | refine lss_at ?_ | refine leq_at ?_ | refine gtr_at ?_ | refine geq_at ?_ | refine add_at (by omega) (by omega) ?_ | refine sub_at (by omega) (by omega) ?_ | refine not_at ?_ | refine kO_at ?_ | refine kprt_at rfl ?_ | refine kprtN_at rfl ?_ | refine kcap_at ?_ | refine klenStr_at ?_ | refine kN_iat ?_ | refine kN_fat ?_ | refine kIf_T (by first | exact rfl | exact decT (by omega) | exact notT (decF (by omega))) ?_ | refine kIf_F (by first | exact rfl | exact decF (by omega) | exact notF (decT (by omega))) ?_)
  rw [keq_ptr_nil ptBad]
  refine kB_at ?_
  refine kIf_F rfl ?_
  refine kB_at ?_
  refine kIf_F rfl ?_
  have m5 := h2.trans h5
  have h5' := h.mod m5 (fun _ _ h => h)
  have he5 := h5.get he2 (fun h => h)
  have hh := h5'.here
  repeat (first | refine kN_at ?_ | refine kB_at ?_ | refine kfld_of ?_ | refine kext_at rfl ?_ | refine kld_at hh rfl ?_ | refine kldN_at hh rfl (by omega) ?_ | refine kG_of (by first | exact rfl | omega) ?_ | refine klen_at ?_ | refine eql_at ?_ | refine neq_at ?_ | refine lss_at ?_ | refine leq_at ?_ | refine gtr_at ?_ | refine geq_at ?_ | refine add_at (by omega) (by omega) ?_ | refine sub_at (by omega) (by omega) ?_ | refine not_at ?_ | refine kO_at ?_ | refine kprt_at rfl ?_ | refine kprtN_at rfl ?_ | refine kcap_at ?_ | refine klenStr_at ?_ | refine kN_iat ?_ | refine kN_fat ?_ | refine kIf_T (by first | exact rfl | exact decT (by omega) | exact notT (decF (by omega))) ?_ | refine kIf_F (by first | exact rfl | exact decF (by omega) | exact notF (decT (by omega))) ?_)
  refine kst_of (vs := [.int .i64 (((E.length + 1 : Nat) : Int) + 1)]) hh rfl rfl rfl (by simp) (by simp) fun w28 h28 hs28 hb28 => ?_
  have hb28 : blk w28 b = some (.cells #[.map (some bo), .map (some bi), sv, .int .i64 (((E.length + 1 : Nat) : Int) + 1)] 206) := hb28
  have hnb : bo ≠ b := fun e => by
    have h1 : blk w5 bo = some (.map _ _) := h5'.own
    rw [e, hh] at h1; cases h1
  have hnb2 : bi ≠ b := fun e => by
    have h1 : blk w5 bi = some (.map _ _) := h5'.ids
    rw [e, hh] at h1; cases h1
  have lb := lt_of_blk h.here
  have he28 := h28.get he5 (by omega)
  refine kldN_at (cs := [.int .i64 e.i, .int .i64 e.g]) he28 rfl (by omega) ?_
  refine kcall_of (own_spec hb28 (h5'.own.mod h28 hnb) (h5'.ids.mod h28 hnb2) (h5'.nums.mod h28 fun k hk => h5'.ns k hk) h.ne h.ns h.nd hle e he) ?_
  rintro v w31 ⟨rfl, sv', g1, g2, g3, g4, g5, g6⟩
  have hz5 := m5.size
  refine ⟨rfl, ⟨bo, bi, sv', ?_, g2, g3, ?_, .inl h.ub, .inl h.uo, .inl h.ui, fun k hk => ?_, h.ne, fun k hk => ?_, ?_, by simp; omega⟩, ?_⟩
  · have : (((E.length + 1 : Nat) : Int) + 1) = (((E ++ [e]).length + 1 : Nat) : Int) := by simp
    rw [this] at g1
    exact g1
  · simpa using g4
  · rcases g5 k hk with h1 | h1
    · exact .inl (h.us k h1)
    · exact .inr (by omega)
  · rcases g5 k hk with h1 | h1
    · exact h.ns k h1
    · omega
  · exact List.nodup_append.2 ⟨h.nd, by simp, fun a ha c hc hac => by simp at hc; subst hc; subst hac; exact he ha⟩
  · refine (Mod.of_same m5).trans ((h28.mono fun k _ e => by rw [e]; exact h.ub).trans (g6.mono fun k _ e => ?_))
    rcases e with rfl | rfl | rfl | e
    · exact h.ub
    · exact h.uo
    · exact h.ui
    · exact h.us k e
/-! ### How many bits, of any set -/
def cntB (x n : Nat) : Nat := ((List.range n).filter fun i => x.testBit i).length
theorem cntB_add (x a : Nat) : ∀ n, cntB x (a + n) = cntB x a + cntB (x / 2 ^ a) n
  | 0 => by simp [cntB]
  | n + 1 => by
    have h1 : cntB x (a + (n + 1)) = cntB x (a + n) + (if x.testBit (a + n) then 1 else 0) := by
      unfold cntB
      rw [show a + (n + 1) = (a + n) + 1 by omega, List.range_succ, List.filter_append, List.length_append]
      by_cases h : x.testBit (a + n) <;> simp [h]
    have h2 : cntB (x / 2 ^ a) (n + 1) = cntB (x / 2 ^ a) n + (if (x / 2 ^ a).testBit n then 1 else 0) := by
      unfold cntB
      rw [List.range_succ, List.filter_append, List.length_append]
      by_cases h : (x / 2 ^ a).testBit n <;> simp [h]
    have h3 : (x / 2 ^ a).testBit n = x.testBit (a + n) := by rw [Nat.testBit_div_two_pow, Nat.add_comm]
    rw [h1, h2, h3, cntB_add x a n]; omega
theorem cntB_and (x : Nat) : cntB (x &&& 255) 8 = cntB x 8 := by
  unfold cntB
  congr 1
  apply List.filter_congr
  intro i hi
  have hi : i < 8 := by simpa using hi
  rw [Nat.testBit_and, show (255 : Nat) = 2 ^ 8 - 1 from rfl, Nat.testBit_two_pow_sub_one]
  simp [hi]
theorem cntB_32 (x : Nat) : (listF x).length = cntB (x / 2 ^ 24) 8 + cntB (x / 2 ^ 16 &&& 255) 8 + cntB (x / 2 ^ 8 &&& 255) 8 + cntB (x &&& 255) 8 := by
  have e : (listF x).length = cntB x 32 := rfl
  rw [cntB_and, cntB_and, cntB_and, e, show (32 : Nat) = 8 + 24 by rfl, cntB_add x 8 24, show (24 : Nat) = 8 + 16 by rfl, cntB_add (x / 2 ^ 8) 8 16, show (16 : Nat) = 8 + 8 by rfl, cntB_add (x / 2 ^ 8 / 2 ^ 8) 8 8]
  rw [Nat.div_div_eq_div_mul, Nat.div_div_eq_div_mul]
  simp only [← Nat.pow_add, Nat.reduceAdd]
  omega
theorem cnt_256 : ∀ i : Nat, i < 256 → (listF i).length = cntB i 8 := by decide +kernel
theorem u8_add {a b : Nat} (h : a + b < 256) : IntKind.u8.wrap ((a : Int) + (b : Int)) = ((a + b : Nat) : Int) := by
  simp [IntKind.wrap, IntKind.signed, IntKind.bits]
  omega
theorem cntB_le (x n : Nat) : cntB x n ≤ n := by
  unfold cntB
  have := List.length_filter_le (fun i => x.testBit i) (List.range n)
  simpa using this
theorem pop_cnt {x : Nat} (h : x < 256) : popS[x]? = some (UInt8.ofNat (cntB x 8)) := by rw [← cnt_256 x h]; exact pop_get x h
theorem u8_of (x : Nat) : (UInt8.ofNat (cntB x 8)).toNat = cntB x 8 := by
  have := cntB_le x 8
  rw [UInt8.toNat_ofNat_of_lt' (by show cntB x 8 < 256; omega)]
theorem onesCountG (x : Nat) (hx : x < 4294967296) (w : World) : Meets Tryz.prog 91 #[msk x] w fun v w' => v = natV (listF x).length ∧ Same w w' := by
  have a3 : x / 2 ^ 24 < 256 := by omega
  have a2 : x / 2 ^ 16 &&& 255 < 256 := msk_lt255 _
  have a1 : x / 2 ^ 8 &&& 255 < 256 := msk_lt255 _
  have a0 : x &&& 255 < 256 := msk_lt255 _
  have e3 : ishr .u32 (x : Int) 24 = ((x / 2 ^ 24 : Nat) : Int) := shr_nat (k := .u32) x 24 (by decide)
  have e2 : ishr .u32 (x : Int) 16 = ((x / 2 ^ 16 : Nat) : Int) := shr_nat (k := .u32) x 16 (by decide)
  have e1 : ishr .u32 (x : Int) 8 = ((x / 2 ^ 8 : Nat) : Int) := shr_nat (k := .u32) x 8 (by decide)
  have f2 : iand .u32 ((x / 2 ^ 16 : Nat) : Int) 255 = ((x / 2 ^ 16 &&& 255 : Nat) : Int) := u32_and (b := 255) (by omega) (by omega)
  have f1 : iand .u32 ((x / 2 ^ 8 : Nat) : Int) 255 = ((x / 2 ^ 8 &&& 255 : Nat) : Int) := u32_and (b := 255) (by omega) (by omega)
  have f0 : iand .u32 (x : Int) 255 = ((x &&& 255 : Nat) : Int) := u32_and (b := 255) (by omega) (by omega)
  have hp3 := pop_cnt a3
  have hp2 := pop_cnt a2
  have hp1 := pop_cnt a1
  have hp0 := pop_cnt a0
  have hc := cntB_32 x
  have l3 := cntB_le (x / 2 ^ 24) 8
  have l2 := cntB_le (x / 2 ^ 16 &&& 255) 8
  have l1 := cntB_le (x / 2 ^ 8 &&& 255) 8
  have l0 := cntB_le (x &&& 255) 8
  have u3 := u8_of (x / 2 ^ 24)
  have u2 := u8_of (x / 2 ^ 16 &&& 255)
  have u1 := u8_of (x / 2 ^ 8 &&& 255)
  have u0 := u8_of (x &&& 255)
  unfold popS at hp3 hp2 hp1 hp0
  rw [hc]
  generalize cntB (x / 2 ^ 24) 8 = c3 at *
  generalize cntB (x / 2 ^ 16 &&& 255) 8 = c2 at *
  generalize cntB (x / 2 ^ 8 &&& 255) 8 = c1 at *
  generalize cntB (x &&& 255) 8 = c0 at *
  generalize x / 2 ^ 24 = x3 at *
  generalize x / 2 ^ 16 &&& 255 = x2 at *
  generalize x / 2 ^ 8 &&& 255 = x1 at *
  generalize hx0 : x &&& 255 = x0 at *
  rw [msk]
  refine f91_ok ?_
  unfold f91
  rw [kint_shr]
  refine kG_of (by omega) ?_
  rw [e3, kiv_string]
  refine kG_of (by omega) ?_
  refine kO_of (a := UInt8.ofNat c3) (by rw [Int.toNat_natCast]; exact hp3) ?_
  rw [kint_shr]
  refine kG_of (by omega) ?_
  rw [e2, kint_and, f2, kiv_string]
  refine kG_of (by omega) ?_
  refine kO_of (a := UInt8.ofNat c2) (by rw [Int.toNat_natCast]; exact hp2) ?_
  rw [u3, u2, kint_add, u8_add (by omega), kint_shr]
  refine kG_of (by omega) ?_
  rw [e1, kint_and, f1, kiv_string]
  refine kG_of (by omega) ?_
  refine kO_of (a := UInt8.ofNat c1) (by rw [Int.toNat_natCast]; exact hp1) ?_
  rw [u1, kint_add, u8_add (by omega), kint_and, f0, kiv_string]
  refine kG_of (by omega) ?_
  refine kO_of (a := UInt8.ofNat c0) (by rw [Int.toNat_natCast]; exact hp0) ?_
  rw [u0, kint_add, u8_add (by omega), kcnv_int, wrap_i64 (by omega) (by omega)]
  exact ⟨rfl, (Mod.refl (fun _ => False) _).drew⟩
theorem countG (x : Nat) (hx : x < 4294967296) (w : World) : Meets Tryz.prog 22 #[msk x] w fun v w' => v = natV (listF x).length ∧ Same w w' := by
  refine f22_ok ?_
  unfold f22
  refine kcall_of (onesCountG x hx w) ?_
  rintro v w' h
  exact h
end Go.Proofs.YtlkpadfkmdgjcaaGreatDoor
end
section
set_option linter.unusedSimpArgs false
set_option linter.unusedVariables false
namespace Go.Proofs.YtlkpadfkmdgjcaaGreatDoor
open Go Go.Ev
set_option linter.unusedVariables false
set_option linter.unusedSimpArgs false
set_option maxRecDepth 100000
attribute [local irreducible] kO kB kStr kInt kN kG kIf kfld kld kldN kst knew kmap kbld kbldS kext kcnv klenStr klen kcap kprt kprtN kbool kint kstr keq kun ksl kix kiv kta kmk kmm ksem ksemU kextf kcallV kcallM kcall kL

/-! ### Whose components were changed lately -/
def chgB (S : SM) (fr : Int) (c : Nat) (e : EK) : Bool := decide (0 ≤ e.i) && (decide (S.gens[e.i.toNat]? = some (e.g, true)) && (partsOf S e.i.toNat).any fun q => decide (q.comp = (c : Int)) && decide (fr ≤ q.tick))
theorem just_chg {S : SM} {fr : Int} {c : Nat} {M : List (Int × Int)} (h : Just M (fun i g => S.gens[i]? = some (g, true) ∧ ∃ q ∈ partsOf S i, q.comp = (c : Int) ∧ fr ≤ q.tick)) (e : EK) : (e.i, e.g) ∈ M ↔ chgB S fr c e = true := by
  rw [h.2.2]
  unfold chgB
  constructor
  · rintro ⟨i, g, e1, h1, q, hq, h2, h3⟩
    have e2 : e.i = (i : Int) := congrArg Prod.fst e1
    have e3 : e.g = g := congrArg Prod.snd e1
    rw [e2, e3, Int.toNat_natCast]
    simp only [Bool.and_eq_true, decide_eq_true_eq, List.any_eq_true]
    exact ⟨by omega, h1, q, hq, h2, h3⟩
  · intro h
    simp only [Bool.and_eq_true, decide_eq_true_eq, List.any_eq_true] at h
    obtain ⟨h0, h1, q, hq, h2, h3⟩ := h
    exact ⟨e.i.toNat, e.g, by rw [Int.toNat_of_nonneg h0], h1, q, hq, h2, h3⟩
def cntE (S : SM) (fr : Int) (l : List Nat) (e : EK) : Nat := (l.filter fun c => chgB S fr c e).length
theorem cntE_snoc (S : SM) (fr : Int) (l : List Nat) (c : Nat) (e : EK) : cntE S fr (l ++ [c]) e = cntE S fr l e + (if chgB S fr c e = true then 1 else 0) := by
  unfold cntE
  rw [List.filter_append, List.length_append]
  by_cases h : chgB S fr c e <;> simp [h]
theorem cntE_le (S : SM) (fr : Int) (l : List Nat) (e : EK) : cntE S fr l e ≤ l.length := List.length_filter_le _ _
/-- How often each was met. -/
def KvCnt (kv : List (EK × Value)) (f : EK → Nat) : Prop := (kv.map (·.1)).Nodup ∧ ∀ e, valG e kv = if f e = 0 then none else some (natV (f e))
theorem KvCnt.step {kv : List (EK × Value)} {f : EK → Nat} (h : KvCnt kv f) (e : EK) : KvCnt (putG e (natV (f e + 1)) kv) (fun x => f x + if x = e then 1 else 0) := by
  refine ⟨putG_nodup h.1, fun x => ?_⟩
  rw [valG_put]
  by_cases hx : x = e
  · subst hx; simp
  · simp only [hx, if_false, Nat.add_zero]; exact h.2 x
theorem KvCnt.congr {kv : List (EK × Value)} {f g : EK → Nat} (h : KvCnt kv f) (e : ∀ x, f x = g x) : KvCnt kv g := ⟨h.1, fun x => by rw [← e x]; exact h.2 x⟩
theorem zBool0 : zeroO Tryz.prog 4 = some (.bool false) := by kernel_rfl
theorem KvCnt.get {kv : List (EK × Value)} {f : EK → Nat} (h : KvCnt kv f) (e : EK) : (valG e kv).getD (.int .i64 0) = natV (f e) := by
  rw [h.2 e]
  by_cases h0 : f e = 0
  · rw [if_pos h0, h0]; rfl
  · rw [if_neg h0]; rfl
/-- One list of entities, counted. -/
theorem count_list {w1 : World} {b1 : Nat} {kv0 : List (EK × Value)} {f0 : EK → Nat} (hf0 : ∀ e, f0 e ≤ 1000) (hM0 : MapG EK.v w1 b1 kv0) (hk0 : KvCnt kv0 f0) {wb : World} (hmb : Same wb w1) (hb1 : wb.heap.size ≤ b1)
    {M : List (Int × Int)} (hMok : ∀ x ∈ M, I64 x.1 ∧ I64 x.2) (hnd : M.Nodup) (hlen : M.length ≤ 1000) {a : Option Addr} {cap : Nat} (hs : SlIs w1 a M.length 2 (M.flatMap entC)) (hab : ∀ k f, a = some ⟨k, f, none⟩ → k ≠ b1) (x0 x1 x2 x17 x18 x19 : Value) {J3 : Value → World → Prop} {Q : Value → World → Prop}
    (hJ : ∀ w' kv', Same wb w' → Mod (fun k => k = b1) w1 w' → MapG EK.v w' b1 kv' → KvCnt kv' (fun e => f0 e + if (e.i, e.g) ∈ M then 1 else 0) → f121_5 x0 x1 x2 (.map (some b1)) x17 x18 x19 J3 Q w') :
    kL fun (I : Value → World → Prop) (μ : Value → World → Nat) => I (.int .i64 0) w1 ∧ ∀ (x29 : Value) (w2 : World), I x29 w2 →
      f121_2 x29 x0 x1 x2 (.map (some b1)) x17 x18 x19 (.slice a M.length cap) (.int .i64 M.length) (fun y29 w3 => I y29 w3 ∧ μ y29 w3 < μ x29 w2) J3 Q w2 := by
  refine kL1_of M.length (fun j x wr => x = .int .i64 j ∧ Same wb wr ∧ Mod (fun k => k = b1) w1 wr ∧ SlIs wr a M.length 2 (M.flatMap entC) ∧ ∃ kv, MapG EK.v wr b1 kv ∧ KvCnt kv (fun e => f0 e + if (e.i, e.g) ∈ M.take j then 1 else 0)) ⟨lI1_0 ⟨rfl, hmb, Mod.refl _ _, hs, kv0, hM0, hk0.congr fun x => by simp⟩, fun x wr hx => ?_⟩
  obtain ⟨j, hj, ⟨rfl, hmr, hm1r, hsr, kv, hMr, hkr⟩, hJ'⟩ := lI1_step hx
  unfold f121_2
  refine lss_at ?_
  refine kB_at ?_
  refine kIf_dec (fun hlt => ?_) (fun hge => ?_)
  · have hlt : j < M.length := by omega
    have hok := hMok _ (List.getElem_mem hlt)
    generalize hek : (⟨M[j].1, M[j].2, hok.1, hok.2⟩ : EK) = ek at *
    have hmj : M[j] = (ek.i, ek.g) := by rw [← hek]
    have hnt : (ek.i, ek.g) ∉ M.take j := fun hin => by
      obtain ⟨k, hk, e⟩ := List.mem_iff_getElem.1 hin
      have hkj : k < j := by simp at hk; omega
      rw [List.getElem_take] at e
      have := (List.pairwise_iff_getElem.1 hnd) k j (by omega) hlt hkj
      exact this (e.trans hmj.symm)
    have hfe : f0 ek + (if (ek.i, ek.g) ∈ M.take j then 1 else 0) = f0 ek := by rw [if_neg hnt, Nat.add_zero]
    have hbl := hf0 ek
    unfold f121_3
    refine kixldN_of (F := entC) (sz := 2) (fun _ => rfl) (by omega) hsr hlt rfl ?_
    rw [hmj]
    refine knew_of fun w20 h20 hs20 hb20 => ?_
    refine kst_of (vs := entC (ek.i, ek.g)) hb20 rfl rfl rfl (by simp) (by simp [entC]) fun w21 h21 hs21 hb21 => ?_
    have hb21 : blk w21.drew wr.heap.size = some (.cells #[.int .i64 ek.i, .int .i64 ek.g] 37) := hb21
    have m21 : Same wr w21.drew := (h20.trans' (h21.mono fun k _ e => .inr (by omega))).trans (Mod.refl (fun _ => False) _).drew
    have hM21 := hMr.same m21
    have hs21' := hsr.same m21
    generalize w21.drew = wd at *
    have lt1 := lt_of_blk hMr
    refine kldN_at (cs := [.int .i64 ek.i, .int .i64 ek.g]) hb21 rfl (by omega) ?_
    refine kG_of rfl ?_
    refine klookG (F := EK.v) Tryz.underlying204 keyEK zInt0 hM21 ek ?_
    refine kG_of rfl ?_
    have hcur := hkr.get ek
    simp only [hfe] at hcur
    rw [hcur, natV]
    refine add_at (by omega) (by omega) ?_
    rw [show (f0 ek : Int) + 1 = ((f0 ek + 1 : Nat) : Int) by omega]
    refine kmapEntryG (F := EK.v) Tryz.underlying204 keyEK zInt0 hM21 ek fun w27 h27 hs27 hm27 => ?_
    refine kG_of (klookG (F := EK.v) Tryz.underlying204 keyEK zInt0 hm27 ek ⟨?_, rfl⟩) ?_
    · rw [valG_put, if_pos rfl, hcur]; rfl
    repeat (first | refine kN_at ?_ | refine kB_at ?_ | refine kfld_of ?_ | refine kext_at rfl ?_ | refine kG_of (by first | exact rfl | omega) ?_ | refine klen_at ?_ | refine eql_at ?_ | refine neq_at ?_ | refine lss_at ?_ | refine leq_at ?_ | refine gtr_at ?_ | refine geq_at ?_ | refine add_at (by omega) (by omega) ?_ | refine sub_at (by omega) (by omega) ?_ | refine not_at ?_ | refine kO_at ?_ | refine kprt_at rfl ?_ | refine kprtN_at rfl ?_ | refine kcap_at ?_ | refine klenStr_at ?_ | refine kN_iat ?_ | refine kN_fat ?_ | refine kIf_T (by first | exact rfl | exact decT (by omega) | exact notT (decF (by omega))) ?_ | refine kIf_F (by first | exact rfl | exact decF (by omega) | exact notF (decT (by omega))) ?_)
    refine kentryStoreG (F := EK.v) hm27 (putG_idx _ _ _) fun w29 h29 hs29 hm29 => ?_
    rw [putG_set] at hm29
    have m29 : Mod (fun k => k = b1) wd w29 := h27.trans h29
    unfold f121_4
    repeat (first | refine kN_at ?_ | refine kB_at ?_ | refine kfld_of ?_ | refine kext_at rfl ?_ | refine kG_of (by first | exact rfl | omega) ?_ | refine klen_at ?_ | refine eql_at ?_ | refine neq_at ?_ | refine lss_at ?_ | refine leq_at ?_ | refine gtr_at ?_ | refine geq_at ?_ | refine add_at (by omega) (by omega) ?_ | refine sub_at (by omega) (by omega) ?_ | refine not_at ?_ | refine kO_at ?_ | refine kprt_at rfl ?_ | refine kprtN_at rfl ?_ | refine kcap_at ?_ | refine klenStr_at ?_ | refine kN_iat ?_ | refine kN_fat ?_ | refine kIf_T (by first | exact rfl | exact decT (by omega) | exact notT (decF (by omega))) ?_ | refine kIf_F (by first | exact rfl | exact decF (by omega) | exact notF (decT (by omega))) ?_)
    rw [cast_succ]
    refine hJ' _ _ hlt ⟨rfl, (hmr.trans m21).trans' (m29.mono fun k _ e => .inr (by omega)), hm1r.trans ((Mod.of_same m21).trans m29), hs21'.mod m29 fun k f e h => hab k f e h, _, hm29, ?_⟩
    have hst := hkr.step ek
    simp only [hfe] at hst
    refine hst.congr fun x => ?_
    rw [List.take_add_one, List.getElem?_eq_getElem hlt, hmj]
    by_cases hx : x = ek
    · subst hx; simp [hnt]
    · have hne : (x.i, x.g) ≠ (ek.i, ek.g) := fun e => hx (EK.ext (congrArg Prod.fst e) (congrArg Prod.snd e))
      simp only [hx, if_false, Nat.add_zero, Option.toList_some, List.mem_append, List.mem_singleton, hne, or_false]
  · have : j = M.length := by omega
    subst this
    rw [List.take_length] at hkr
    exact hJ _ _ hmr hm1r hMr hkr
end Go.Proofs.YtlkpadfkmdgjcaaGreatDoor
end
section
set_option linter.unusedSimpArgs false
set_option linter.unusedVariables false
namespace Go.Proofs.YtlkpadfkmdgjcaaGreatDoor
open Go Go.Ev
set_option linter.unusedVariables false
set_option linter.unusedSimpArgs false
set_option maxRecDepth 100000
attribute [local irreducible] kO kB kStr kInt kN kG kIf kfld kld kldN kst knew kmap kbld kbldS kext kcnv klenStr klen kcap kprt kprtN kbool kint kstr keq kun ksl kix kiv kta kmk kmm ksem ksemU kextf kcallV kcallM kcall kL

theorem just_len {S : SM} {P : Nat → Int → Prop} {M : List (Int × Int)} (h : Just M P) (h64 : S.gens.length ≤ 64) (hP : ∀ i g, P i g → S.gens[i]? = some (g, true)) : M.length ≤ 64 := by
  have := List.Nodup.length_le_of_subset h.1 (l₂ := (List.range 64).map fun i : Nat => ((i : Int), ((S.gens[i]?).getD (0, false)).1)) (fun x hx => by
    obtain ⟨i, g, rfl, hp⟩ := (h.2.2 x).1 hx
    have h1 := hP i g hp
    have hi := (List.getElem?_eq_some_iff.1 h1).1
    refine List.mem_map.2 ⟨i, by simp; omega, ?_⟩
    rw [h1]; rfl)
  simpa using this
theorem just_ok {S : SM} {P : Nat → Int → Prop} {M : List (Int × Int)} {t : Nat} (h : Just M P) (hG : GS S t) (ht : t ≤ 100000) (hP : ∀ i g, P i g → S.gens[i]? = some (g, true)) : ∀ x ∈ M, I64 x.1 ∧ I64 x.2 := by
  intro x hx
  obtain ⟨i, g, rfl, hp⟩ := (h.2.2 x).1 hx
  have h1 := hP i g hp
  have hi := (List.getElem?_eq_some_iff.1 h1).1
  have h2 := hG.gen i _ h1
  have h64 := hG.g64
  simp only at h2
  unfold I64
  simp only
  omega
def eqN (v : Value) (m : Nat) : Bool := match v with
  | .int _ n => decide (n = (m : Int))
  | _ => false
/-- What the second map says, of a map of numbers. -/
def outV (kv : List (EK × Value)) (tot : Nat) (seen : List Nat) (e : EK) : Option Value := match lkG e kv with
  | some (i, v) => if i ∈ seen then some (.bool (eqN v tot)) else none
  | none => none
theorem lkG_at {kv : List (EK × Value)} (hnd : (kv.map (·.1)).Nodup) {i : Nat} (hi : i < kv.length) : lkG (kv[i]).1 kv = some (i, (kv[i]).2) := by
  cases hl : lkG (kv[i]).1 kv with
  | none => exact absurd (List.mem_map.2 ⟨kv[i], List.getElem_mem hi, rfl⟩) (lkG_none.1 hl)
  | some x =>
    obtain ⟨j, v⟩ := x
    have h1 := lkG_some hl
    obtain ⟨hj, h2⟩ := List.getElem?_eq_some_iff.1 h1
    have h3 : j = i := by
      have e1 : (kv.map (·.1))[j]'(by simpa using hj) = (kv.map (·.1))[i]'(by simpa using hi) := by simp [h2]
      exact (List.getElem_inj hnd).1 e1
    subst h3
    rw [h2]
/-- The second half: who was met as often as the set is great. -/
theorem changed_out {wb w1 : World} {b1 : Nat} {kv : List (EK × Value)} {f : EK → Nat} (hM : MapG EK.v w1 b1 kv) (hk : KvCnt kv f) (hmb : Same wb w1) {m : Nat} (hm : m < 4294967296) :
    f121_6 (msk m) (.map (some b1)) (fun v w' => ∃ bm out, v = .map (some bm) ∧ wb.heap.size ≤ bm ∧ MapG EK.v w' bm out ∧ Same wb w' ∧ ∀ e, (valG e out).getD (.bool false) = .bool (decide (f e ≠ 0 ∧ f e = (listF m).length))) w1 := by
  have hzb := hmb.size
  have lt1 := lt_of_blk hM
  unfold f121_6
  refine kmap_of fun w36 h36 hs36 hm36 => ?_
  have hM36 := hM.same h36
  have hO36 : MapG EK.v w36 w1.heap.size [] := hm36 .i64
  refine krangeG (F := EK.v) Tryz.underlying204 hM36 fun w38 h38 hs38 hb38 => ?_
  have m38 : Same wb w38 := (hmb.trans h36).trans h38
  refine kL0_of kv.length (fun j wr => ∃ seen out, seen.length = j ∧ seen.Nodup ∧ (∀ i ∈ seen, i < kv.length) ∧ blk wr w36.heap.size = some (.mapIter (some b1) kv.length seen.toArray kv.length) ∧ MapG EK.v wr b1 kv ∧ MapG EK.v wr w1.heap.size out ∧ Same wb wr ∧ (∀ e, valG e out = outV kv (listF m).length seen e)) ⟨lI_0 ?_, fun wr hx => ?_⟩
  · refine ⟨[], [], rfl, List.nodup_nil, fun i hi => (by cases hi), hb38, hM36.same h38, hO36.same h38, m38, fun e => ?_⟩
    unfold outV
    cases lkG e kv <;> simp [valG, lkG]
  obtain ⟨j, hj, ⟨seen, out, hsl, hnd, hsb, hit, hMr, hOr, hmr, hv⟩, hJ⟩ := lI_step hx
  have lt2 := lt_of_blk hMr
  have lt3 := lt_of_blk hOr
  have lt4 := lt_of_blk hit
  unfold f121_7
  refine knextG (F := EK.v) hit hMr (fun hall => ?_) (fun ix hix hnix w2 hm2 hs2 hit2 => ?_)
  · repeat (first | refine kN_at ?_ | refine kB_at ?_ | refine kfld_of ?_ | refine kext_at rfl ?_ | refine kG_of (by first | exact rfl | omega) ?_ | refine klen_at ?_ | refine eql_at ?_ | refine neq_at ?_ | refine lss_at ?_ | refine leq_at ?_ | refine gtr_at ?_ | refine geq_at ?_ | refine add_at (by omega) (by omega) ?_ | refine sub_at (by omega) (by omega) ?_ | refine not_at ?_ | refine kO_at ?_ | refine kprt_at rfl ?_ | refine kprtN_at rfl ?_ | refine kcap_at ?_ | refine klenStr_at ?_ | refine kN_iat ?_ | refine kN_fat ?_ | refine kIf_T (by first | exact rfl | exact decT (by omega) | exact notT (decF (by omega))) ?_ | refine kIf_F (by first | exact rfl | exact decF (by omega) | exact notF (decT (by omega))) ?_)
    refine ⟨_, out, rfl, by omega, hOr, hmr, fun e => ?_⟩
    rw [hv e]
    unfold outV
    have hke := hk.2 e
    unfold valG at hke
    cases hl : lkG e kv with
    | none =>
      rw [hl] at hke
      by_cases h0 : f e = 0
      · simp [h0]
      · rw [if_neg h0] at hke; cases hke
    | some x =>
      obtain ⟨i, v⟩ := x
      have hi := (List.getElem?_eq_some_iff.1 (lkG_some hl)).1
      rw [hl] at hke
      by_cases h0 : f e = 0
      · rw [if_pos h0] at hke; cases hke
      · rw [if_neg h0] at hke
        have hv' : v = natV (f e) := by simpa using hke
        subst hv'
        simp only [if_pos (hall i hi), Option.getD_some]
        have e1 : eqN (natV (f e)) (listF m).length = decide (f e = (listF m).length) := by
          show decide ((f e : Int) = ((listF m).length : Int)) = _
          rw [decide_eq_decide]; omega
        rw [e1]
        simp [h0]
  · repeat (first | refine kN_at ?_ | refine kB_at ?_ | refine kfld_of ?_ | refine kext_at rfl ?_ | refine kG_of (by first | exact rfl | omega) ?_ | refine klen_at ?_ | refine eql_at ?_ | refine neq_at ?_ | refine lss_at ?_ | refine leq_at ?_ | refine gtr_at ?_ | refine geq_at ?_ | refine add_at (by omega) (by omega) ?_ | refine sub_at (by omega) (by omega) ?_ | refine not_at ?_ | refine kO_at ?_ | refine kprt_at rfl ?_ | refine kprtN_at rfl ?_ | refine kcap_at ?_ | refine klenStr_at ?_ | refine kN_iat ?_ | refine kN_fat ?_ | refine kIf_T (by first | exact rfl | exact decT (by omega) | exact notT (decF (by omega))) ?_ | refine kIf_F (by first | exact rfl | exact decF (by omega) | exact notF (decT (by omega))) ?_)
    unfold f121_8
    have hM2 := hMr.mod hm2 (fun e => by omega)
    have hO2 := hOr.mod hm2 (fun e => by omega)
    refine kentryG (F := EK.v) hix hit2 hM2 ?_
    have hkat := lkG_at hk.1 hix
    have hval : valG (kv[ix]).1 kv = some (kv[ix]).2 := by unfold valG; rw [hkat]; rfl
    have hke := hk.2 (kv[ix]).1
    rw [hval] at hke
    obtain ⟨n, hn⟩ : ∃ n, (kv[ix]).2 = natV n := by
      by_cases h0 : f (kv[ix]).1 = 0
      · rw [if_pos h0] at hke; cases hke
      · rw [if_neg h0] at hke; exact ⟨_, Option.some.inj hke⟩
    rw [hn] at hkat
    rw [hn]
    generalize hek : (kv[ix]).1 = ek at *
    repeat (first | refine kN_at ?_ | refine kB_at ?_ | refine kfld_of ?_ | refine kext_at rfl ?_ | refine kG_of (by first | exact rfl | omega) ?_ | refine klen_at ?_ | refine eql_at ?_ | refine neq_at ?_ | refine lss_at ?_ | refine leq_at ?_ | refine gtr_at ?_ | refine geq_at ?_ | refine add_at (by omega) (by omega) ?_ | refine sub_at (by omega) (by omega) ?_ | refine not_at ?_ | refine kO_at ?_ | refine kprt_at rfl ?_ | refine kprtN_at rfl ?_ | refine kcap_at ?_ | refine klenStr_at ?_ | refine kN_iat ?_ | refine kN_fat ?_ | refine kIf_T (by first | exact rfl | exact decT (by omega) | exact notT (decF (by omega))) ?_ | refine kIf_F (by first | exact rfl | exact decF (by omega) | exact notF (decT (by omega))) ?_)
    refine knew_of fun w47 h47 hs47 hb47 => ?_
    refine kst_of (vs := [.int .i64 ek.i, .int .i64 ek.g]) hb47 rfl rfl rfl (by simp) (by simp) fun w48 h48 hs48 hb48 => ?_
    have hb48 : blk w48.drew w2.heap.size = some (.cells #[.int .i64 ek.i, .int .i64 ek.g] 37) := hb48
    have m48 : Same w2 w48.drew := (h47.trans' (h48.mono fun k _ e => .inr (by omega))).trans (Mod.refl (fun _ => False) _).drew
    have hM48 := hM2.same m48
    have hO48 := hO2.same m48
    have hit48 := m48.get hit2 (fun h => h)
    generalize w48.drew = wd at *
    refine kldN_at (cs := [.int .i64 ek.i, .int .i64 ek.g]) hb48 rfl (by omega) ?_
    refine kG_of rfl ?_
    refine kcall_of (countG m hm wd) ?_
    rintro v w51 ⟨rfl, h51⟩
    have hb51 := h51.get hb48 (fun h => h)
    refine kG_of (kldN_at (cs := [.int .i64 ek.i, .int .i64 ek.g]) hb51 rfl (by omega) ⟨rfl, rfl⟩) ?_
    rw [natV, natV]
    refine eql_at ?_
    refine kmapUpG (F := EK.v) Tryz.underlying199 keyEK (hO48.same h51) (n := ek) fun w54 h54 hs54 hm54 => ?_
    have hzr := hmr.size
    have m51 : Same w2 w51 := m48.trans h51
    have hjl : j < kv.length := by
      have hnd2 : (seen ++ [ix]).Nodup := List.nodup_append.2 ⟨hnd, by simp, fun a ha b hb e => by simp at hb; subst hb; subst e; exact hnix ha⟩
      have := List.Nodup.length_le_of_subset hnd2 (l₂ := List.range kv.length) (fun a ha => by
        rcases List.mem_append.1 ha with h | h
        · simpa using hsb a h
        · simp at h; subst h; simpa using hix)
      simp at this; omega
    refine hJ _ hjl ⟨seen ++ [ix], _, by simp [hsl], ?_, ?_, h54.get (m51.get hit2 (fun h => h)) (by omega), ((hM48.same h51).mod h54 (by omega)), hm54, ?_, fun e => ?_⟩
    · exact List.nodup_append.2 ⟨hnd, by simp, fun a ha b hb e => by simp at hb; subst hb; subst e; exact hnix ha⟩
    · intro a ha
      rcases List.mem_append.1 ha with h | h
      · exact hsb a h
      · simp at h; subst h; exact hix
    · exact ((hmr.trans' (hm2.mono fun k _ e => .inr (by omega))).trans m51).trans' (h54.mono fun k _ e => .inr (by omega))
    · rw [valG_put]
      unfold outV
      by_cases he : e = ek
      · subst he
        rw [if_pos rfl, hkat]
        simp only [List.mem_append, List.mem_singleton, or_true, if_true]
        rfl
      · rw [if_neg he, hv e]
        unfold outV
        cases hl : lkG e kv with
        | none => rfl
        | some x =>
          obtain ⟨i, v⟩ := x
          have hne : i ≠ ix := fun h => by
            subst h
            have h1 := lkG_some hl
            rw [List.getElem?_eq_getElem hix] at h1
            have h2 := Option.some.inj h1
            exact he (by rw [← hek, h2])
          simp only [List.mem_append, List.mem_singleton, hne, or_false]
end Go.Proofs.YtlkpadfkmdgjcaaGreatDoor
end
section
set_option linter.unusedSimpArgs false
set_option linter.unusedVariables false
namespace Go.Proofs.YtlkpadfkmdgjcaaGreatDoor
open Go Go.Ev
set_option linter.unusedVariables false
set_option linter.unusedSimpArgs false
set_option maxRecDepth 100000
attribute [local irreducible] kO kB kStr kInt kN kG kIf kfld kld kldN kst knew kmap kbld kbldS kext kcnv klenStr klen kcap kprt kprtN kbool kint kstr keq kun ksl kix kiv kta kmk kmm ksem ksemU kextf kcallV kcallM kcall kL

theorem changed_spec {o : Lab} {w : World} (hD : DeAt w) {b : Nat} {p : Ptrs} {S : SM} (h : StoreP o w b p S) {t : Nat} (hG : GS S t) (ht : t ≤ 10000) {m : Nat} (hm : m < 4294967296) {frame : Int} (hfr : I64 frame) :
    Meets Tryz.prog 121 #[.pointer (some ⟨b, 0, none⟩), msk m, .int .i64 frame] w fun v w' => ∃ bm out, v = .map (some bm) ∧ w.heap.size ≤ bm ∧ MapG EK.v w' bm out ∧ Same w w' ∧
      ∀ e, (valG e out).getD (.bool false) = .bool (decide (cntE S (sinceF frame) (listF m) e ≠ 0 ∧ cntE S (sinceF frame) (listF m) e = (listF m).length)) := by
  have hl32 := listF_len m
  refine f121_ok ?_
  unfold f121
  refine kmap_of fun w2 h2 hs2 hm2 => ?_
  have hM2 : MapG EK.v w2 w.heap.size [] := hm2 .i64
  refine kcall_of (List_spec (hD.same h2) m hm) ?_
  rintro v w4 ⟨a, c, rfl, hs4, h4, hfa⟩
  refine klen_at ?_
  have m4 := h2.trans h4
  refine kL1_of (listF m).length (fun j x wr => x = .int .i64 j ∧ Same w wr ∧ SlIs wr a (listF m).length 1 ((listF m).map natV) ∧ ∃ kv, MapG EK.v wr w.heap.size kv ∧ KvCnt kv (cntE S (sinceF frame) ((listF m).take j))) ⟨lI1_0 ⟨rfl, m4, hs4, [], hM2.same h4, ?_⟩, fun x wr hx => ?_⟩
  · exact ⟨by simp, fun e => by simp [cntE, valG, lkG]⟩
  obtain ⟨j, hj, ⟨rfl, hmr, hsr, kv, hMr, hkr⟩, hJ⟩ := lI1_step hx
  unfold f121_0
  refine lss_at ?_
  refine kB_at ?_
  refine kIf_dec (fun hlt => ?_) (fun hge => ?_)
  · have hlt : j < (listF m).length := by omega
    unfold f121_1
    refine kixld_of (F := natV) (l := listF m) hsr hlt rfl ?_
    generalize hc : (listF m)[j] = cc at *
    rw [natV]
    refine kcall_of (since_spec frame hfr.1 hfr.2 wr) ?_
    rintro v w11 ⟨rfl, rfl⟩
    refine kcall_of (changed_at (h.same hmr) hG cc (sinceF frame)) ?_
    rintro v w13 ⟨M, hJM, hOM, h13, hfM⟩
    obtain ⟨ma, mn, mc, rfl, hms, _⟩ := hOM.is
    have hmn : mn = M.length := by
      have := hms.1
      rw [flat_len entC 2 (fun _ => rfl)] at this
      omega
    subst hmn
    have hok := just_ok hJM hG (by omega) (fun i g hp => hp.1)
    have hln := just_len hJM hG.g64 (fun i g hp => hp.1)
    have hzr := hmr.size
    have ltM := lt_of_blk hMr
    refine klen_at ?_
    refine count_list (kv0 := kv) (f0 := cntE S (sinceF frame) ((listF m).take j)) (fun e => by have := cntE_le S (sinceF frame) ((listF m).take j) e; have := List.length_take_le j (listF m); omega) (hMr.same h13) hkr (hmr.trans h13) (Nat.le_refl _) hok hJM.1 (by omega) hms (fun k f e => by have := hfM k ⟨f, _, _, by rw [e]⟩; omega) _ _ _ _ _ _ fun w' kv' hm' hmb' hM' hk' => ?_
    unfold f121_5
    repeat (first | refine kN_at ?_ | refine kB_at ?_ | refine kfld_of ?_ | refine kext_at rfl ?_ | refine kG_of (by first | exact rfl | omega) ?_ | refine klen_at ?_ | refine eql_at ?_ | refine neq_at ?_ | refine lss_at ?_ | refine leq_at ?_ | refine gtr_at ?_ | refine geq_at ?_ | refine add_at (by omega) (by omega) ?_ | refine sub_at (by omega) (by omega) ?_ | refine not_at ?_ | refine kO_at ?_ | refine kprt_at rfl ?_ | refine kprtN_at rfl ?_ | refine kcap_at ?_ | refine klenStr_at ?_ | refine kN_iat ?_ | refine kN_fat ?_ | refine kIf_T (by first | exact rfl | exact decT (by omega) | exact notT (decF (by omega))) ?_ | refine kIf_F (by first | exact rfl | exact decF (by omega) | exact notF (decT (by omega))) ?_)
    rw [cast_succ]
    have hz2 := h2.size
    refine hJ _ _ hlt ⟨rfl, hm', (hsr.same h13).mod hmb' fun k f e hkb => by have := hfa k f e; omega, kv', hM', hk'.congr fun e => ?_⟩
    rw [List.take_add_one, List.getElem?_eq_getElem hlt, hc]
    show _ = cntE S (sinceF frame) ((listF m).take j ++ [cc]) e
    rw [cntE_snoc]
    congr 1
    by_cases hch : chgB S (sinceF frame) cc e = true
    · rw [if_pos hch, if_pos ((just_chg hJM e).2 hch)]
    · rw [if_neg hch, if_neg (fun hin => hch ((just_chg hJM e).1 hin))]
  · have : j = (listF m).length := by omega
    subst this
    rw [List.take_length] at hkr
    exact changed_out hMr hkr hmr hm
end Go.Proofs.YtlkpadfkmdgjcaaGreatDoor
end
section
set_option linter.unusedSimpArgs false
set_option linter.unusedVariables false
namespace Go.Proofs.YtlkpadfkmdgjcaaGreatDoor
open Go Go.Ev
set_option linter.unusedVariables false
set_option linter.unusedSimpArgs false
set_option maxRecDepth 100000
attribute [local irreducible] kO kB kStr kInt kN kG kIf kfld kld kldN kst knew kmap kbld kbldS kext kcnv klenStr klen kcap kprt kprtN kbool kint kstr keq kun ksl kix kiv kta kmk kmm ksem ksemU kextf kcallV kcallM kcall kL

/-! ### Run -/
theorem ek_list : ∀ M : List (Int × Int), (∀ x ∈ M, I64 x.1 ∧ I64 x.2) → ∃ Mk : List EK, M = Mk.map fun e => (e.i, e.g)
  | [], _ => ⟨[], rfl⟩
  | x :: M, h => by
    obtain ⟨Mk, e⟩ := ek_list M fun y hy => h y (by simp [hy])
    have hx := h x (by simp)
    exact ⟨⟨x.1, x.2, hx.1, hx.2⟩ :: Mk, by rw [e]; rfl⟩
def ekC (e : EK) : List Value := entC (e.i, e.g)
theorem ek_flat (Mk : List EK) : (Mk.map fun e => (e.i, e.g)).flatMap entC = Mk.flatMap ekC := by
  rw [List.flatMap_map]; rfl
def liveB (S : SM) (e : EK) : Bool := decide (0 ≤ e.i) && decide (S.gens[e.i.toNat]? = some (e.g, true))
def lateB (S : SM) (f : Filter) (frame : Int) (e : EK) : Bool := decide (cntE S (sinceF frame) (listF f.chg) e ≠ 0 ∧ cntE S (sinceF frame) (listF f.chg) e = (listF f.chg).length)
def meanB (S : SM) (f : Filter) (frame : Int) (e : EK) : Bool := liveB S e && (matchP f.wth f.wout (maskP (partsOf S e.i.toNat)) && (decide (f.chg = 0) || lateB S f frame e))
/-- The numbers that a filter means, of badges given in a row. -/
def runL (S : SM) (E : List EK) (f : Filter) (frame : Int) : List Int := ((List.range E.length).filter fun k => (E[k]?).any (meanB S f frame)).map fun k => ((k + 1 : Nat) : Int)
theorem just_live {S : SM} {wi wo : Nat} {M : List (Int × Int)} (h : Just M (fun i g => S.gens[i]? = some (g, true) ∧ matchP wi wo (maskP (partsOf S i)) = true)) (e : EK) : (e.i, e.g) ∈ M ↔ liveB S e = true ∧ matchP wi wo (maskP (partsOf S e.i.toNat)) = true := by
  rw [h.2.2]
  unfold liveB
  simp only [Bool.and_eq_true, decide_eq_true_eq]
  constructor
  · rintro ⟨i, g, e1, h1, h2⟩
    have e2 : e.i = (i : Int) := congrArg Prod.fst e1
    have e3 : e.g = g := congrArg Prod.snd e1
    rw [e2, e3, Int.toNat_natCast]
    exact ⟨⟨by omega, h1⟩, h2⟩
  · rintro ⟨⟨h0, h1⟩, h2⟩
    exact ⟨e.i.toNat, e.g, by rw [Int.toNat_of_nonneg h0], h1, h2⟩
theorem runL_sorted (S : SM) (E : List EK) (f : Filter) (frame : Int) : (runL S E f frame).Pairwise (fun x y => x < y) := by
  unfold runL
  rw [List.pairwise_map]
  exact (List.Pairwise.filter _ List.pairwise_lt_range).imp fun h => by omega
theorem run_unique {S : SM} {E : List EK} (hE : E.Nodup) {f : Filter} {frame : Int} {Mk : List EK} (hnd : Mk.Nodup) (hM : ∀ e, e ∈ Mk ↔ liveB S e = true ∧ matchP f.wth f.wout (maskP (partsOf S e.i.toNat)) = true) {L : List Int}
    (hp : L.Perm ((Mk.filter fun e => decide (e ∈ E) && (decide (f.chg = 0) || lateB S f frame e)).map fun e => ((E.idxOf e + 1 : Nat) : Int))) (hs : L.Pairwise (fun x y => x ≤ y)) : L = runL S E f frame := by
  have hnd1 : ((Mk.filter fun e => decide (e ∈ E) && (decide (f.chg = 0) || lateB S f frame e)).map fun e => ((E.idxOf e + 1 : Nat) : Int)).Nodup := by
    unfold List.Nodup
    rw [List.pairwise_map]
    refine List.Pairwise.imp_of_mem ?_ (List.Pairwise.filter _ hnd)
    intro a b ha hb hne e
    have h1 := (List.mem_filter.1 ha).2
    have h2 := (List.mem_filter.1 hb).2
    simp only [Bool.and_eq_true, decide_eq_true_eq] at h1 h2
    have e2 : E.idxOf a = E.idxOf b := by omega
    have g1 := List.getElem_idxOf (List.idxOf_lt_length_of_mem h1.1)
    have g2 := List.getElem_idxOf (List.idxOf_lt_length_of_mem h2.1)
    apply hne
    rw [← g1, ← g2]
    simp only [e2]
  have hnd2 : (runL S E f frame).Nodup := (runL_sorted S E f frame).imp fun h => by omega
  have hperm : ((Mk.filter fun e => decide (e ∈ E) && (decide (f.chg = 0) || lateB S f frame e)).map fun e => ((E.idxOf e + 1 : Nat) : Int)).Perm (runL S E f frame) := by
    refine (List.perm_ext_iff_of_nodup hnd1 hnd2).2 fun x => ?_
    unfold runL
    rw [List.mem_map, List.mem_map]
    constructor
    · rintro ⟨e, he, rfl⟩
      obtain ⟨h1, h2⟩ := List.mem_filter.1 he
      simp only [Bool.and_eq_true, decide_eq_true_eq] at h2
      have hlt := List.idxOf_lt_length_of_mem h2.1
      refine ⟨E.idxOf e, List.mem_filter.2 ⟨by simpa using hlt, ?_⟩, rfl⟩
      rw [List.getElem?_eq_getElem hlt, List.getElem_idxOf hlt]
      obtain ⟨h3, h4⟩ := (hM e).1 h1
      simp only [Option.any_some, meanB, h3, h4, Bool.true_and]
      exact h2.2
    · rintro ⟨k, hk, rfl⟩
      obtain ⟨h1, h2⟩ := List.mem_filter.1 hk
      have hlt : k < E.length := by simpa using h1
      rw [List.getElem?_eq_getElem hlt] at h2
      simp only [Option.any_some, meanB, Bool.and_eq_true] at h2
      obtain ⟨h3, h4, h5⟩ := h2
      refine ⟨E[k], List.mem_filter.2 ⟨(hM _).2 ⟨h3, h4⟩, ?_⟩, by rw [hE.idxOf_getElem k hlt]⟩
      simp only [Bool.and_eq_true, decide_eq_true_eq]
      exact ⟨List.getElem_mem hlt, h5⟩
  exact List.Perm.eq_of_pairwise (le := fun x y : Int => x ≤ y) (fun a b _ _ h1 h2 => by omega) hs ((runL_sorted S E f frame).imp fun h => by omega) (hp.trans hperm)
theorem run_spec {o : Lab} {w : World} (hD : DeAt w) {b : Nat} {p : Ptrs} {S : SM} (h : StoreP o w b p S) {t : Nat} (hG : GS S t) (ht : t ≤ 10000) (hml : S.tabs.length = S.masks.length) {U : Nat → Prop} {bb : Nat} {E : List EK} (hB : BadgeAt U w bb E) (f : Filter) (hf : f.ok) {frame : Int} (hfr : I64 frame) :
    Meets Tryz.prog 55 #[.pointer (some ⟨b, 0, none⟩), .pointer (some ⟨bb, 0, none⟩), f.val, .int .i64 frame] w fun v w' => Own w' v 1 ((runL S E f frame).map nV) ∧ Same w w' ∧ ∀ k, vblk v k → w.heap.size ≤ k := by
  have hE : E.Nodup := by obtain ⟨_, _, _, q⟩ := hB; exact q.nd
  have hEl : E.length ≤ 64 := by obtain ⟨_, _, _, q⟩ := hB; exact q.le
  refine f55_ok ?_
  unfold f55
  refine knew_of fun w2 h2 hs2 hb2 => ?_
  have hb2 : blk w2 w.heap.size = some (.cells #[msk f.wth, msk f.wout, msk f.chg] 100) := hb2
  repeat (first | refine kN_at ?_ | refine kB_at ?_ | refine kfld_of ?_ | refine kext_at rfl ?_ | refine kld_at hb2 rfl ?_ | refine kldN_at hb2 rfl (by omega) ?_ | refine kG_of (by first | exact rfl | omega) ?_ | refine klen_at ?_ | refine eql_at ?_ | refine neq_at ?_ | refine lss_at ?_ | refine leq_at ?_ | refine gtr_at ?_ | refine geq_at ?_ | refine add_at (by omega) (by omega) ?_ | refine sub_at (by omega) (by omega) ?_ | refine not_at ?_ | refine kO_at ?_ | refine kprt_at rfl ?_ | refine kprtN_at rfl ?_ | refine kcap_at ?_ | refine klenStr_at ?_ | refine kN_iat ?_ | refine kN_fat ?_ | refine kIf_T (by first | exact rfl | exact decT (by omega) | exact notT (decF (by omega))) ?_ | refine kIf_F (by first | exact rfl | exact decF (by omega) | exact notF (decT (by omega))) ?_)
  refine kcall_of (changed_spec (hD.same h2) (h.same h2) hG ht hf.2.2 hfr) ?_
  rintro v w6 ⟨bm, out, rfl, hbm, hMo, h6, hout⟩
  have hb6 := h6.get hb2 (fun h => h)
  have m6 := h2.trans h6
  repeat (first | refine kN_at ?_ | refine kB_at ?_ | refine kfld_of ?_ | refine kext_at rfl ?_ | refine kld_at hb6 rfl ?_ | refine kldN_at hb6 rfl (by omega) ?_ | refine kG_of (by first | exact rfl | omega) ?_ | refine klen_at ?_ | refine eql_at ?_ | refine neq_at ?_ | refine lss_at ?_ | refine leq_at ?_ | refine gtr_at ?_ | refine geq_at ?_ | refine add_at (by omega) (by omega) ?_ | refine sub_at (by omega) (by omega) ?_ | refine not_at ?_ | refine kO_at ?_ | refine kprt_at rfl ?_ | refine kprtN_at rfl ?_ | refine kcap_at ?_ | refine klenStr_at ?_ | refine kN_iat ?_ | refine kN_fat ?_ | refine kIf_T (by first | exact rfl | exact decT (by omega) | exact notT (decF (by omega))) ?_ | refine kIf_F (by first | exact rfl | exact decF (by omega) | exact notF (decT (by omega))) ?_)
  refine kcall_of (match_at (h.same m6) hG hml f.wth f.wout hf.1 hf.2.1) ?_
  rintro v w12 ⟨M, hJM, hOM, h12, hfM⟩
  have m12 := m6.trans h12
  have hok := just_ok hJM hG (by omega) (fun i g hp => hp.1)
  have hln := just_len hJM hG.g64 (fun i g hp => hp.1)
  obtain ⟨Mk, hMk⟩ := ek_list M hok
  have hMkM : ∀ e : EK, e ∈ Mk ↔ (e.i, e.g) ∈ M := fun e => by
    rw [hMk, List.mem_map]
    constructor
    · intro h; exact ⟨e, h, rfl⟩
    · rintro ⟨x, hx, e1⟩
      have : x = e := EK.ext (congrArg Prod.fst e1) (congrArg Prod.snd e1)
      exact this ▸ hx
  have hndk : Mk.Nodup := by
    have := hJM.1
    rw [hMk] at this
    unfold List.Nodup at this
    rw [List.pairwise_map] at this
    exact this.imp fun h e => h (by rw [e])
  have hMlen : M.length = Mk.length := by rw [hMk, List.length_map]
  rw [hMk, ek_flat] at hOM
  obtain ⟨ma, mn, mc, rfl, hms, _⟩ := hOM.is
  have hmn : mn = Mk.length := by
    have := hms.1
    rw [flat_len ekC 2 (fun _ => rfl)] at this
    omega
  subst hmn
  have hb12 := h12.get hb6 (fun h => h)
  have hM12 := hMo.same h12
  have lbm := lt_of_blk hM12
  refine klen_at ?_
  refine kL2_of Mk.length (fun j x y wr => y = .int .i64 j ∧ Same w12 wr ∧ Own wr x 1 ((((Mk.take j).filter fun e => decide (e ∈ E) && (decide (f.chg = 0) || lateB S f frame e)).map fun e => ((E.idxOf e + 1 : Nat) : Int)).map nV) ∧ ∀ k, vblk x k → w12.heap.size ≤ k) ⟨lI2_0 ⟨rfl, Mod.refl _ _, Own.nil _ _, fun k hk => by obtain ⟨_, _, _, e⟩ := hk; cases e⟩, fun x y wr hx => ?_⟩
  obtain ⟨j, hj, ⟨rfl, hmr, hOx, hfx⟩, hJ⟩ := lI2_step hx
  unfold f55_0
  refine lss_at ?_
  refine kB_at ?_
  refine kIf_dec (fun hlt => ?_) (fun hge => ?_)
  · have hlt : j < Mk.length := by omega
    have htk : Mk.take (j + 1) = Mk.take j ++ [Mk[j]] := by rw [List.take_add_one, List.getElem?_eq_getElem hlt]; rfl
    rw [htk] at hJ
    have hlen0 : ((((Mk.take j).filter fun e => decide (e ∈ E) && (decide (f.chg = 0) || lateB S f frame e)).map fun e => ((E.idxOf e + 1 : Nat) : Int)).map nV).length ≤ 64 := by
      simp only [List.length_map]
      have := List.length_filter_le (fun e => decide (e ∈ E) && (decide (f.chg = 0) || lateB S f frame e)) (Mk.take j)
      have := List.length_take_le j Mk
      omega
    unfold f55_1
    refine kixldN_of (F := ekC) (sz := 2) (fun _ => rfl) (by omega) (hms.same hmr) hlt rfl ?_
    generalize Mk[j] = ek at *
    refine knew_of fun w19 h19 hs19 hb19 => ?_
    refine kst_of (vs := ekC ek) hb19 rfl rfl rfl (by simp) (by simp [ekC, entC]) fun w20 h20 hs20 hb20 => ?_
    have hb20 : blk w20 wr.heap.size = some (.cells #[.int .i64 ek.i, .int .i64 ek.g] 37) := hb20
    have m20 : Same wr w20 := h19.trans' (h20.mono fun k _ e => .inr (by omega))
    refine kldN_at (cs := [.int .i64 ek.i, .int .i64 ek.g]) hb20 rfl (by omega) ?_
    have m20w : Same w w20 := (m12.trans hmr).trans m20
    refine kcall_of (id_spec (hB.same m20w) ek) ?_
    rintro v w23 ⟨rfl, h23⟩
    have m23 : Same wr w23 := m20.trans h23
    have hb23 := h23.get hb20 (fun h => h)
    have hO23 := hOx.same m23
    have hf23 := (hmr.trans m23).get hb12 (fun h => h)
    have hM23 := hM12.same (hmr.trans m23)
    have hzr := hmr.size
    have hz23 := m23.size
    -- a round that adds nothing
    have skip : (decide (ek ∈ E) && (decide (f.chg = 0) || lateB S f frame ek)) = false → ∀ w', Same wr w' → f55_3 (.pointer (some ⟨bb, 0, none⟩)) (.pointer (some ⟨w.heap.size, 0, none⟩)) x (.map (some bm)) (.slice ma Mk.length mc) (.int .i64 Mk.length) (.int .i64 j) (fun y8 y26 w2 => lI Mk.length (inv2 fun j x y wr => y = .int .i64 j ∧ Same w12 wr ∧ Own wr x 1 ((((Mk.take j).filter fun e => decide (e ∈ E) && (decide (f.chg = 0) || lateB S f frame e)).map fun e => ((E.idxOf e + 1 : Nat) : Int)).map nV) ∧ ∀ k, vblk x k → w12.heap.size ≤ k) (y8, y26, w2) ∧ lM Mk.length (inv2 fun j x y wr => y = .int .i64 j ∧ Same w12 wr ∧ Own wr x 1 ((((Mk.take j).filter fun e => decide (e ∈ E) && (decide (f.chg = 0) || lateB S f frame e)).map fun e => ((E.idxOf e + 1 : Nat) : Int)).map nV) ∧ ∀ k, vblk x k → w12.heap.size ≤ k) (y8, y26, w2) < lM Mk.length (inv2 fun j x y wr => y = .int .i64 j ∧ Same w12 wr ∧ Own wr x 1 ((((Mk.take j).filter fun e => decide (e ∈ E) && (decide (f.chg = 0) || lateB S f frame e)).map fun e => ((E.idxOf e + 1 : Nat) : Int)).map nV) ∧ ∀ k, vblk x k → w12.heap.size ≤ k) (x, .int .i64 j, wr)) (fun v w' => Own w' v 1 ((runL S E f frame).map nV) ∧ Same w w' ∧ ∀ k, vblk v k → w.heap.size ≤ k) w' := by
      intro hfalse w' hm'
      unfold f55_3
      repeat (first | refine kN_at ?_ | refine kB_at ?_ | refine kfld_of ?_ | refine kext_at rfl ?_ | refine kG_of (by first | exact rfl | omega) ?_ | refine klen_at ?_ | refine eql_at ?_ | refine neq_at ?_ | refine lss_at ?_ | refine leq_at ?_ | refine gtr_at ?_ | refine geq_at ?_ | refine add_at (by omega) (by omega) ?_ | refine sub_at (by omega) (by omega) ?_ | refine not_at ?_ | refine kO_at ?_ | refine kprt_at rfl ?_ | refine kprtN_at rfl ?_ | refine kcap_at ?_ | refine klenStr_at ?_ | refine kN_iat ?_ | refine kN_fat ?_ | refine kIf_T (by first | exact rfl | exact decT (by omega) | exact notT (decF (by omega))) ?_ | refine kIf_F (by first | exact rfl | exact decF (by omega) | exact notF (decT (by omega))) ?_)
      rw [cast_succ]
      refine hJ _ _ _ hlt ⟨rfl, hmr.trans hm', ?_, hfx⟩
      rw [List.filter_append, show ([ek].filter fun e => decide (e ∈ E) && (decide (f.chg = 0) || lateB S f frame e)) = [] by simp [hfalse], List.append_nil]
      exact hOx.same hm'
    have add : ek ∈ E → (decide (f.chg = 0) || lateB S f frame ek) = true → f55_2 (.pointer (some ⟨bb, 0, none⟩)) (.pointer (some ⟨w.heap.size, 0, none⟩)) x (.map (some bm)) (numV (E.idxOf ek)) (.slice ma Mk.length mc) (.int .i64 Mk.length) (.int .i64 j) (.bool true) (fun y8 y26 w2 => lI Mk.length (inv2 fun j x y wr => y = .int .i64 j ∧ Same w12 wr ∧ Own wr x 1 ((((Mk.take j).filter fun e => decide (e ∈ E) && (decide (f.chg = 0) || lateB S f frame e)).map fun e => ((E.idxOf e + 1 : Nat) : Int)).map nV) ∧ ∀ k, vblk x k → w12.heap.size ≤ k) (y8, y26, w2) ∧ lM Mk.length (inv2 fun j x y wr => y = .int .i64 j ∧ Same w12 wr ∧ Own wr x 1 ((((Mk.take j).filter fun e => decide (e ∈ E) && (decide (f.chg = 0) || lateB S f frame e)).map fun e => ((E.idxOf e + 1 : Nat) : Int)).map nV) ∧ ∀ k, vblk x k → w12.heap.size ≤ k) (y8, y26, w2) < lM Mk.length (inv2 fun j x y wr => y = .int .i64 j ∧ Same w12 wr ∧ Own wr x 1 ((((Mk.take j).filter fun e => decide (e ∈ E) && (decide (f.chg = 0) || lateB S f frame e)).map fun e => ((E.idxOf e + 1 : Nat) : Int)).map nV) ∧ ∀ k, vblk x k → w12.heap.size ≤ k) (x, .int .i64 j, wr)) (fun v w' => Own w' v 1 ((runL S E f frame).map nV) ∧ Same w w' ∧ ∀ k, vblk v k → w.heap.size ≤ k) w23 := by
      intro hin htrue
      unfold f55_2
      refine kB_at ?_
      refine kIf_T rfl ?_
      refine kbldS_of (cs := [numV (E.idxOf ek)]) rfl fun w35 h35 hs35 hb35 => ?_
      have hb35 : blk w35 w23.heap.size = some (.cells #[.int .i64 ((E.idxOf ek + 1 : Nat) : Int)] 3) := hb35
      refine ksem_append apNums (by omega) (hO23.same h35) (Src.ofSlIs (hk := slNums_is.choose_spec) 1 (SlIs.blk hb35 rfl) rfl) (by simp only [List.length_cons, List.length_nil, Array.toList]; omega) (by simp only [List.length_cons, List.length_nil, Array.toList]; omega) ?_
      intro v' w37 ho hm' hf'
      unfold f55_3
      repeat (first | refine kN_at ?_ | refine kB_at ?_ | refine kfld_of ?_ | refine kext_at rfl ?_ | refine kG_of (by first | exact rfl | omega) ?_ | refine klen_at ?_ | refine eql_at ?_ | refine neq_at ?_ | refine lss_at ?_ | refine leq_at ?_ | refine gtr_at ?_ | refine geq_at ?_ | refine add_at (by omega) (by omega) ?_ | refine sub_at (by omega) (by omega) ?_ | refine not_at ?_ | refine kO_at ?_ | refine kprt_at rfl ?_ | refine kprtN_at rfl ?_ | refine kcap_at ?_ | refine klenStr_at ?_ | refine kN_iat ?_ | refine kN_fat ?_ | refine kIf_T (by first | exact rfl | exact decT (by omega) | exact notT (decF (by omega))) ?_ | refine kIf_F (by first | exact rfl | exact decF (by omega) | exact notF (decT (by omega))) ?_)
      rw [cast_succ]
      have hz35 := h35.size
      refine hJ _ _ _ hlt ⟨rfl, (hmr.trans (m23.trans h35)).trans' (hm'.mono fun k _ e => .inr (hfx k e)), ?_, fun k hk => ?_⟩
      · rw [List.filter_append, show ([ek].filter fun e => decide (e ∈ E) && (decide (f.chg = 0) || lateB S f frame e)) = [ek] by simp [hin, htrue], List.map_append, List.map_append]
        exact ho
      · rcases hf' k hk with h | h
        · exact hfx k h
        · omega
    repeat (first | refine kN_at ?_ | refine kB_at ?_ | refine kfld_of ?_ | refine kext_at rfl ?_ | refine kG_of (by first | exact rfl | omega) ?_ | refine klen_at ?_ | refine eql_at ?_ | refine neq_at ?_ | refine lss_at ?_ | refine leq_at ?_ | refine gtr_at ?_ | refine geq_at ?_ | refine add_at (by omega) (by omega) ?_ | refine sub_at (by omega) (by omega) ?_ | refine not_at ?_ | refine kO_at ?_ | refine kprt_at rfl ?_ | refine kprtN_at rfl ?_ | refine kcap_at ?_ | refine klenStr_at ?_ | refine kN_iat ?_ | refine kN_fat ?_ | refine kIf_T (by first | exact rfl | exact decT (by omega) | exact notT (decF (by omega))) ?_ | refine kIf_F (by first | exact rfl | exact decF (by omega) | exact notF (decT (by omega))) ?_)
    by_cases hin : ek ∈ E
    · rw [if_pos hin, decT hin]
      refine kIf_T rfl ?_
      refine kfld_of ?_
      refine kld_of (v := msk f.chg) hf23 rfl ?_
      rw [msk]
      refine eql_at ?_
      by_cases hc0 : f.chg = 0
      · rw [decT (show (f.chg : Int) = 0 by omega)]
        refine kB_at ?_
        refine kIf_F rfl ?_
        exact add hin (by simp [hc0])
      · rw [decF (show ¬ (f.chg : Int) = 0 by omega)]
        refine kB_at ?_
        refine kIf_T rfl ?_
        refine kldN_at (cs := [.int .i64 ek.i, .int .i64 ek.g]) hb23 rfl (by omega) ?_
        refine klookG (F := EK.v) Tryz.underlying199 keyEK zBool0 hM23 ek ?_
        rw [hout ek]
        by_cases hl : lateB S f frame ek = true
        · have hl' : decide (cntE S (sinceF frame) (listF f.chg) ek ≠ 0 ∧ cntE S (sinceF frame) (listF f.chg) ek = (listF f.chg).length) = true := hl
          rw [hl']
          exact add hin (by simp [hl])
        · have hl2 : lateB S f frame ek = false := by simpa using hl
          have hl' : decide (cntE S (sinceF frame) (listF f.chg) ek ≠ 0 ∧ cntE S (sinceF frame) (listF f.chg) ek = (listF f.chg).length) = false := hl2
          rw [hl']
          unfold f55_2
          refine kB_at ?_
          refine kIf_F rfl ?_
          exact skip (by simp [hl2, hc0]) w23 m23
    · rw [decF hin]
      refine kIf_F rfl ?_
      unfold f55_2
      refine kB_at ?_
      refine kIf_F rfl ?_
      exact skip (by simp [hin]) w23 m23
  · have : j = Mk.length := by omega
    subst this
    rw [List.take_length] at hOx
    unfold f55_4
    refine kcall_of (sortI_spec hOx ?_) ?_
    · simp only [List.length_map]
      have := List.length_filter_le (fun e => decide (e ∈ E) && (decide (f.chg = 0) || lateB S f frame e)) Mk
      omega
    rintro v w41 ⟨L', g1, g2, g3, g4⟩
    have hz12 := m12.size
    have e := run_unique hE hndk (fun e => (hMkM e).trans (just_live hJM e)) g1 g2
    rw [e] at g3
    exact ⟨g3, (m12.trans hmr).trans' (g4.mono fun k _ hk => .inr (by have := hfx k hk; omega)), fun k hk => by have := hfx k hk; omega⟩
end Go.Proofs.YtlkpadfkmdgjcaaGreatDoor
end
section
set_option linter.unusedSimpArgs false
set_option linter.unusedVariables false
namespace Go.Proofs.YtlkpadfkmdgjcaaGreatDoor
open Go Go.Ev
set_option linter.unusedVariables false
set_option linter.unusedSimpArgs false
set_option maxRecDepth 100000

theorem Leaves_sl {S : Nat → Addr} {w : World} {d : Nat} {v : Value} {ls : List Leaf} (hL : LaidE S w) (hv : ErrO S w d v ls) (hj : ∀ l ∈ ls, joinOk l.1) (hlen : ls.length ≤ 1073741824) (hd : d ≤ 1073741824) :
    Meets Tryz.prog 37 #[v] w fun v' w' => ∃ a c, v' = .slice a ls.length c ∧ SlIs w' a ls.length 2 (leafCells [] ls) ∧ Same w w' := by
  refine (Leaves_spec hL hv hj hlen hd).mono fun v' w' h => ?_
  obtain ⟨ho, hm, _⟩ := h
  obtain ⟨a, n, c, rfl, hs, _⟩ := ho.is
  have : n = ls.length := by have := hs.1; rw [leafCells_len] at this; omega
  subst this
  exact ⟨a, c, rfl, hs, hm⟩
theorem leafEq1 (w : World) (K : Value → World → Prop) : keq Tryz.prog .eql 197 false false (.agg #[.string ⟨#[119, 105, 116, 104]⟩, .int .i64 1]) (.agg #[.string ⟨#[119, 105, 116, 104]⟩, .int .i64 1]) w K = K (.bool true) w := by kernel_rfl
theorem leafEq7 (w : World) (K : Value → World → Prop) : keq Tryz.prog .eql 197 false false (.agg #[.string ⟨#[99, 104, 97, 110, 103, 101, 100]⟩, .int .i64 7]) (.agg #[.string ⟨#[99, 104, 97, 110, 103, 101, 100]⟩, .int .i64 7]) w K = K (.bool true) w := by kernel_rfl
def fA : Filter := ⟨1, 0, 1⟩
def fB : Filter := ⟨128, 128, 2⟩
def pA (t : Int) : Part := ⟨0, 0, 0, 0, 0, t⟩
def lsB : List Leaf := [([sWith], 1), ([sWithout], 1), ([sWithout], 9), ([sChanged], 7)]
theorem okA : fA.ok := ⟨by decide, by decide, by decide⟩
theorem okB : fB.ok := ⟨by decide, by decide, by decide⟩
theorem joinB : ∀ l ∈ lsB, joinOk l.1 := by
  intro l hl
  simp only [lsB, List.mem_cons, List.not_mem_nil, or_false] at hl
  rcases hl with rfl | rfl | rfl | rfl <;> simp [joinOk]
theorem i64_9 : I64 9 := by unfold I64; omega
theorem pA_ok (t : Int) (h : I64 t) : ∀ p ∈ [pA t], p.ok := by
  intro p hp
  simp only [List.mem_cons, List.not_mem_nil, or_false] at hp
  subst hp
  simp only [Part.ok, pA]
  unfold I64 at *
  omega
theorem checkB : checkF 127 fB = lsB := rfl
theorem checkA : checkF 127 fA = [] := rfl
theorem meansA8 : meansF fA 9 [pA 8] = true := by decide
theorem meansA7 : meansF fA 9 [pA 7] = false := by decide
theorem roll8 (l : List Comp) (hl : l = comps8 8) : rollF (l.map (·.rb)) = 127 := by
  have : l.map (·.rb) = [true, true, true, true, true, true, true, false] := by rw [hl]; rfl
  rw [this]; rfl
theorem len8 (l : List Comp) (hl : l = comps8 8) : l.length = 8 := by rw [hl]; simp [comps8]

set_option maxHeartbeats 1000000 in
theorem awake11_spec {S : Nat → Addr} {w : World} (hL : LaidE S w) : Meets Tryz.prog 53 #[] w fun v w' => v = .bool true ∧ Same w w' := by
  obtain ⟨l, hl⟩ : ∃ l, l = comps8 8 := ⟨_, rfl⟩
  have hr8 := roll8 l hl
  have hl8 := len8 l hl
  have he := eight_spec' l hl
  clear hl
  refine f53_ok ?_
  unfold f53
  refine kbld_of (cs := [.int .u32 1, .int .u32 0, .int .u32 1]) rfl ?_
  refine knew_of fun w3 h3 hs3 hb3 => ?_
  refine kst_of (vs := [.int .u32 1, .int .u32 0, .int .u32 1]) hb3 rfl rfl rfl (by simp) (by simp) fun w4 h4 hs4 hb4 => ?_
  have m4 : Same w w4 := Mod.after h3 h4 (fun b hb => by omega)
  have hb4 : blk w4 w.heap.size = some (.cells #[.int .u32 1, .int .u32 0, .int .u32 1] 100) := hb4
  refine kcall_of (he w4) ?_
  rintro v5 w6 ⟨a6, c6, rfl, hs6, h6⟩
  refine kbld_of (cs := [.int .u32 128, .int .u32 128, .int .u32 2]) rfl ?_
  have m6 := m4.trans h6
  refine kcall_of (Check_spec (hL.same m6) l (by omega) a6 c6 (.slice none 0 0) hs6 rfl fB okB) ?_
  rintro v8 w9 ⟨hv8, h9⟩
  rw [hr8, checkB] at hv8
  have m9 := m6.trans h9
  refine kcall_of (Leaves_sl (hL.same m9) hv8 joinB (by simp [lsB]) (by omega)) ?_
  rintro v10 w11 ⟨a11, c11, rfl, hs11, h11⟩
  have m11 := m9.trans h11
  have hb11 := (h6.trans (h9.trans h11)).get hb4 (fun h => h)
  refine kldN_of (cs := [.int .u32 1, .int .u32 0, .int .u32 1]) (show blk w11.drew _ = _ from hb11) (by simp) rfl (by omega) ?_
  refine kG_of rfl ?_
  refine kbld_of (cs := (pA 8).cells) rfl ?_
  refine kbldS_of (cs := (pA 8).cells) rfl fun w15 h15 hs15 hb15 => ?_
  have h15 : Same w11 w15 := ((Mod.refl _ _).drew).trans h15
  have hb15' := h15.get hb11 (fun h => h)
  refine kG_of (kldN_of (cs := [.int .u32 1, .int .u32 0, .int .u32 1]) hb15' (by simp) rfl (by omega) ⟨rfl, rfl⟩) ?_
  refine kcall_of (means_spec fA okA 9 i64_9 [pA 8] (pA_ok 8 (by unfold I64; omega)) (by simp) _ 1 w15 (SlIs.blk hb15 rfl)) ?_
  rintro v16 w17 ⟨hv16, h17⟩
  rw [meansA8] at hv16
  subst hv16
  simp -dsimp only [kB_bool]
  refine kIf_of (fun _ => ?_) (fun h => by cases h)
  have hb17 := h17.get hb15' (fun h => h)
  refine kldN_of (cs := [.int .u32 1, .int .u32 0, .int .u32 1]) hb17 (by simp) rfl (by omega) ?_
  refine kG_of rfl ?_
  refine kbld_of (cs := (pA 7).cells) rfl ?_
  refine kbldS_of (cs := (pA 7).cells) rfl fun w22 h22 hs22 hb22 => ?_
  have hb22' := h22.get hb17 (fun h => h)
  refine kG_of (kldN_of (cs := [.int .u32 1, .int .u32 0, .int .u32 1]) hb22' (by simp) rfl (by omega) ⟨rfl, rfl⟩) ?_
  refine kcall_of (means_spec fA okA 9 i64_9 [pA 7] (pA_ok 7 (by unfold I64; omega)) (by simp) _ 1 w22 (SlIs.blk hb22 rfl)) ?_
  rintro v23 w24 ⟨hv23, h24⟩
  rw [meansA7] at hv23
  subst hv23
  simp -dsimp only [kun_not, kB_bool, Bool.not_false]
  refine kIf_of (fun _ => ?_) (fun h => by cases h)
  have m24 := m11.trans (h15.trans (h17.trans (h22.trans h24)))
  have hb24 := h24.get hb22' (fun h => h)
  refine kcall_of (he w24) ?_
  rintro v5 w28 ⟨a28, c28, rfl, hs28, h28⟩
  have hb28 := h28.get hb24 (fun h => h)
  refine kldN_of (cs := [.int .u32 1, .int .u32 0, .int .u32 1]) hb28 (by simp) rfl (by omega) ?_
  refine kG_of rfl ?_
  refine kG_of (kldN_of (cs := [.int .u32 1, .int .u32 0, .int .u32 1]) hb24 (by simp) rfl (by omega) ⟨rfl, rfl⟩) ?_
  have m28 := m24.trans h28
  refine kcall_of (Check_spec (hL.same m28) l (by omega) a28 c28 (.slice none 0 0) hs28 rfl fA okA) ?_
  rintro v30 w31 ⟨hv30, h31⟩
  rw [hr8, checkA] at hv30
  have hv30 : v30 = .nilIface := by
    rcases hv30.nil_iff with ⟨_, h⟩ | ⟨h, _⟩
    · exact h
    · exact absurd rfl h
  subst hv30
  have m31 := m28.trans h31
  refine Eq.mpr (keq_nil_nil ifErr) ?_
  refine kG_of rfl ?_
  simp -dsimp only [kB_bool]
  refine kIf_of (fun _ => ?_) (fun h => by cases h)
  have hs31 := hs11.same (h15.trans (h17.trans (h22.trans (h24.trans (h28.trans h31)))))
  have hlB : lsB.length = 4 := rfl
  simp -dsimp only [klen_slice, kint_eql, kB_bool]
  refine kIf_dec (fun _ => ?_) (fun h => absurd rfl h)
  have q0 := hs31.at (i := 0) (by omega) (by omega)
  have q3 := hs31.at (i := 3) (by omega) (by omega)
  obtain ⟨b, o, c, t, f, ha, hb, hle0, hc0⟩ := q0
  obtain ⟨b', o', c', t', f', ha', hb', hle3, hc3⟩ := q3
  rw [ha] at ha'
  obtain ⟨rfl, rfl⟩ : b = b' ∧ o = o' := by simpa using ha'
  rw [hb] at hb'
  obtain ⟨rfl, rfl, rfl⟩ : c = c' ∧ t = t' ∧ f = f' := by simpa using hb'
  subst ha
  rw [hlB] at *
  simp -dsimp only [kix_slice, add_mk]
  refine kG_of (by omega) ?_
  refine kldN_of (cs := [.string sWith, .int .i64 1]) hb (by simpa using hle0) (by simpa [leafCells, lsB, joinP] using hc0) (by omega) ?_
  refine kG_of rfl ?_
  refine kbld_of (cs := [.string sWith, .int .i64 1]) rfl ?_
  refine Eq.mpr (leafEq1 _ _) ?_
  refine kG_of rfl ?_
  simp -dsimp only [kB_bool]
  refine kIf_of (fun _ => ?_) (fun h => by cases h)
  simp -dsimp only [kix_slice, add_mk]
  refine kG_of (by omega) ?_
  refine kldN_of (cs := [.string sChanged, .int .i64 7]) hb (by simpa using hle3) (by simpa [leafCells, lsB, joinP] using hc3) (by omega) ?_
  refine kG_of rfl ?_
  refine kbld_of (cs := [.string sChanged, .int .i64 7]) rfl ?_
  refine Eq.mpr (leafEq7 _ _) ?_
  refine kG_of rfl ?_
  exact ⟨rfl, m31⟩
end Go.Proofs.YtlkpadfkmdgjcaaGreatDoor
end
