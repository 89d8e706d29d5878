/-
Lemmas for the statements of this seat: no statement of the seat is proved in this part (7 of 7); the conditions stand in each theorem.
-/
import Derived.Test.YtmidldeaapdjoaaGreatDoorOrders6
import Derived.Test.YtmidldeaapdjoaaGreatDoorChecked
section
set_option linter.unusedSimpArgs false
set_option linter.unusedVariables false
namespace Go.Proofs.YtmidldeaapdjoaaGreatDoor
open Go Go.Ev
set_option linter.unusedVariables false
set_option linter.unusedSimpArgs false
set_option maxRecDepth 100000
attribute [local irreducible] kO kB kStr kInt kN kG kIf kfld kld kldN kst knew kmap kbld kbldS kext kcnv klenStr klen kcap kprt kprtN kbool kint kstr keq kun ksl kix kiv kta kmk kmm ksem ksemU kextf kcallV kcallM kcall kL

/-! ### New: goods (without resources), orders, a world -/
theorem gNew0 {w : World} {a : Option Addr} {L : List Comp} {cp : Nat} {ra : Option Addr} {rc : Nat} (hs : SlIs w a L.length 7 (L.flatMap Comp.cells)) (hG : GoodSc L) :
    Meets Tryz.prog 73 #[scV a L.length cp (.slice ra 0 rc)] w fun v w' => (∃ g, v = .tuple #[.pointer (some ⟨g, 0, none⟩), .nilIface]) ∧ Same w w' := by
  rw [scV]
  refine f73_ok ?_
  unfold f73
  refine knew_of fun w2 h2 hs2 hb2 => ?_
  have hb2 : blk w2 w.heap.size = some (.cells #[.slice a L.length cp, .slice ra 0 rc] 33) := hb2
  refine kldN_at (cs := [.slice a L.length cp, .slice ra 0 rc]) hb2 rfl (by omega) ?_
  have hck := check_spec (ra := ra) (rc := rc) (cp := cp) (hs.same h2) hG
  rw [scV] at hck
  refine kcall_of hck ?_
  rintro v w5 ⟨rfl, h5⟩
  rw [keq_nil_nil' ifErr]
  refine kB_at ?_
  refine kIf_F rfl ?_
  unfold f73_0
  refine kmap_of fun w11 h11 hs11 hm11 => ?_
  refine kbld_of (cs := [.map (some w5.heap.size), .slice none 0 0, .int .i64 0]) rfl ?_
  refine knew_of fun w14 h14 hs14 hb14 => ?_
  have m14 := (h2.trans h5).trans (h11.trans h14)
  refine kfld_of ?_
  refine kld_of (v := .slice ra 0 rc) ((h5.trans (h11.trans h14)).get hb2 (fun h => h)) rfl ?_
  refine klen_at ?_
  refine kL1_of 0 (fun j y wr => y = .int .i64 0 ∧ wr = w14) ⟨lI1_0 ⟨rfl, rfl⟩, fun y wr hx => ?_⟩
  obtain ⟨j, hj, ⟨rfl, rfl⟩, hJ⟩ := lI1_step hx
  unfold f73_1
  refine lss_at ?_
  rw [decF (by omega)]
  refine kB_at ?_
  refine kIf_F rfl ?_
  unfold f73_4
  exact ⟨⟨_, rfl⟩, m14⟩
theorem oNew {w : World} {a : Option Addr} {L : List Comp} {cp : Nat} {ra : Option Addr} {rc : Nat} (hs : SlIs w a L.length 7 (L.flatMap Comp.cells)) (hG : GoodSc L) (h0 : 0 < L.length) {most : Nat} (hm : most ≤ 64) :
    Meets Tryz.prog 23 #[scV a L.length cp (.slice ra 0 rc), .int .i64 most] w fun v w' => ∃ o : OC, v = .tuple #[.pointer (some ⟨o.bo, 0, none⟩), .nilIface] ∧ o.L = L ∧ o.most = most ∧ OAt o (fun k => w.heap.size ≤ k) w' [] 0 0 ∧ Same w w' := by
  have hl := hG.len
  rw [scV]
  refine f23_ok ?_
  unfold f23
  refine knew_of fun w2 h2 hs2 hb2 => ?_
  have hb2 : blk w2 w.heap.size = some (.cells #[.slice a L.length cp, .slice ra 0 rc] 33) := hb2
  refine kldN_at (cs := [.slice a L.length cp, .slice ra 0 rc]) hb2 rfl (by omega) ?_
  have hck := check_spec (ra := ra) (rc := rc) (cp := cp) (hs.same h2) hG
  rw [scV] at hck
  refine kcall_of hck ?_
  rintro v w5 ⟨rfl, h5⟩
  rw [keq_nil_nil' ifErr]
  refine kB_at ?_
  refine kIf_F rfl ?_
  unfold f23_0
  refine lss_at ?_
  rw [decF (by omega)]
  refine kB_at ?_
  refine kIf_T rfl ?_
  refine gtr_at ?_
  rw [decF (by omega)]
  unfold f23_1
  refine kB_at ?_
  refine kIf_F rfl ?_
  unfold f23_2
  refine kfld_of ?_
  refine kld_of (v := .slice a L.length cp) (h5.get hb2 (fun h => h)) rfl ?_
  have m5 := h2.trans h5
  have hz5 := m5.size
  refine kcall_of (cloneC_spec (hs.same m5) (by omega)) ?_
  rintro v w19 ⟨hO19, h19, hf19⟩
  obtain ⟨a1, n1, c1, rfl, hs19, _⟩ := hO19.is
  have hfl := flat_len Comp.cells 7 (fun _ => rfl) L
  have hn1 : n1 = L.length := by have h1 := hs19.1; omega
  subst hn1
  refine kbld_of (cs := [.slice a1 L.length c1, .slice none 0 0]) rfl ?_
  refine knew_of fun w22 h22 hs22 hb22 => ?_
  refine kst_of (vs := [.slice a1 L.length c1, .slice none 0 0]) hb22 rfl rfl rfl (by simp) (by simp) fun w23 h23 hs23 hb23 => ?_
  have hb23 : blk w23 w19.heap.size = some (.cells #[.slice a1 L.length c1, .slice none 0 0] 33) := hb23
  have m23 : Same w19 w23 := h22.trans' (h23.mono fun k _ e => .inr (by omega))
  refine kldN_at (cs := [.slice a1 L.length c1, .slice none 0 0]) hb23 rfl (by omega) ?_
  refine kbld_of (cs := [.slice a1 L.length c1, .slice none 0 0, natV most, .slice none 0 0, natV 0, natV 0]) rfl ?_
  refine knew_of fun w27 h27 hs27 hb27 => ?_
  have hz19 := h19.size
  have hz23 := m23.size
  have hlt1 := sl_lt hs19 h0 (by omega)
  refine ⟨⟨w23.heap.size, a1, c1, .slice none 0 0, L, most⟩, rfl, rfl, rfl, ⟨⟨.slice none 0 0, hb27, Own.nil _ _, fun k hk => by obtain ⟨_, _, _, e⟩ := hk; cases e⟩, hs19.same (m23.trans h27), by show w.heap.size ≤ w23.heap.size; omega, fun k f e => ?_, hG, rfl, fun x hx => by cases hx⟩, (m5.trans h19).trans (m23.trans h27)⟩
  have e : a1 = some ⟨k, f, none⟩ := e
  have h1 := hf19 k ⟨f, L.length, c1, by rw [e]⟩
  have h2 := hlt1 k f e
  exact ⟨by omega, by show k ≠ w23.heap.size; omega⟩
theorem newS_link (L : List Comp) (most : Nat) : Link (newS L most) ⟨[], 1⟩ where
  live x hx := by cases hx
  all i g hg := by
    have : (List.replicate most ((0 : Int), false))[i]? = some (g, true) := hg
    obtain ⟨_, e⟩ := List.getElem?_eq_some_iff.1 this
    rw [List.getElem_replicate] at e; cases e
  tm := by simp [newS, newS0, layS]
  cnt := by simp [newS, newS0, layS]
theorem wNew_tail {w0 w : World} {o : Lab} {b : Nat} {p : Ptrs} {L : List Comp} {most : Nat} (hG : GoodSc L) (C : Cur w0 o w b p (newS L most) 0) {a : Option Addr} {cp : Nat} {ra : Option Addr} {rc : Nat} (hs : SlIs w a L.length 7 (L.flatMap Comp.cells)) {bs : Nat} (hbs : blk w bs = some (.cells #[.slice a L.length cp, .slice ra 0 rc] 33))
    {a1 : Option Addr} {c1 : Nat} {a2 : Option Addr} {n2 c2 : Nat} (hs1 : SlIs w a1 L.length 7 (L.flatMap Comp.cells)) (ha1 : ∀ k f, a1 = some ⟨k, f, none⟩ → w0.heap.size ≤ k ∧ k < w.heap.size ∧ o k = none) {bc : Nat} (hbc : blk w bc = some (.cells #[.slice a1 L.length c1, .slice a2 n2 c2] 33)) (seed : Int) (g : Nat) {Q : Value → World → Prop}
    (hQ : ∀ (c : WC) w', c.L = L → c.frame = 0 → c.seed = seed → c.rolled = rollF (L.map (·.rb)) → WdAt c w0 (fun k => k = c.bw ∨ ∃ f, c.ca = some ⟨k, f, none⟩) w' (newS L most) 0 ⟨[], 1⟩ → Q (.tuple #[.pointer (some ⟨c.bw, 0, none⟩), .nilIface]) w') :
    f21_2 (.int .i64 seed) (.pointer (some ⟨bs, 0, none⟩)) (ptrV b) (.pointer (some ⟨g, 0, none⟩)) (.pointer (some ⟨bc, 0, none⟩)) Q w := by
  have hl := hG.len
  rw [ptrV]
  unfold f21_2
  have md : Same w w.drew := (Mod.refl (fun _ => False) _).drew
  have hbs := md.get hbs (fun h => h)
  have hbc := md.get hbc (fun h => h)
  have C := C.loc md
  have hs := hs.same md
  have hs1 := hs1.same md
  have hzd := md.size
  generalize w.drew = wd at *
  refine kldN_at (cs := [.slice a1 L.length c1, .slice a2 n2 c2]) hbc rfl (by omega) ?_
  refine kG_of rfl ?_
  refine kcall_of (bdNew wd) ?_
  rintro v w35 ⟨bb, rfl, hB, h35⟩
  refine kG_of (kldN_at (cs := [.slice a1 L.length c1, .slice a2 n2 c2]) (h35.get hbc (fun h => h)) rfl (by omega) ⟨rfl, rfl⟩) ?_
  refine kldN_at (cs := [.slice a L.length cp, .slice ra 0 rc]) (h35.get hbs (fun h => h)) rfl (by omega) ?_
  refine kG_of rfl ?_
  refine kG_of (kldN_at (cs := [.slice a L.length cp, .slice ra 0 rc]) hbs rfl (by omega) ⟨rfl, rfl⟩) ?_
  refine kcall_of (Rollback_spec L (by omega) a cp (.slice ra 0 rc) w35 (hs.same h35) rfl) ?_
  rintro v w38 ⟨rfl, h38⟩
  refine kG_of (kldN_at (cs := [.slice a1 L.length c1, .slice a2 n2 c2]) ((h35.trans h38).get hbc (fun h => h)) rfl (by omega) ⟨rfl, rfl⟩) ?_
  refine kbld_of (cs := [.slice a1 L.length c1, .slice a2 n2 c2, .pointer (some ⟨b, 0, none⟩), .pointer (some ⟨bb, 0, none⟩), .pointer (some ⟨g, 0, none⟩), msk (rollF (L.map (·.rb))), .int .i64 0, .int .i64 seed, .pointer none]) rfl ?_
  refine knew_of fun w41 h41 hs41 hb41 => ?_
  have m41 := (h35.trans h38).trans h41
  have hz35 := h35.size
  have hz38 := h38.size
  have hz0 := C.same.size
  refine hQ ⟨w38.heap.size, b, bb, a1, c1, .slice a2 n2 c2, .pointer (some ⟨g, 0, none⟩), L, rollF (L.map fun x : Comp => x.rb), 0, seed⟩ w41 rfl rfl rfl rfl ⟨hb41, .inl rfl, hs1.same m41, fun k f e => .inr ⟨f, e⟩, rfl, hG, rollF_lt _, ⟨o, p, fun k => wd.heap.size ≤ k ∧ k < w35.heap.size, C.loc m41, (hB.mono (U' := fun k => wd.heap.size ≤ k ∧ k < w35.heap.size) fun k hk hu => ⟨hu, hk⟩).same (h38.trans h41), fun k hk => ⟨by omega, C.hi k hk.1, fun hx => ?_⟩, fun k hx => ?_⟩, newS_link L most, rfl⟩
  · have hx : k = w38.heap.size ∨ ∃ f, a1 = some ⟨k, f, none⟩ := hx
    rcases hx with e | ⟨f, e⟩
    · omega
    · have := (ha1 k f e).2.1; omega
  · have hx : k = w38.heap.size ∨ ∃ f, a1 = some ⟨k, f, none⟩ := hx
    rcases hx with e | ⟨f, e⟩
    · exact ⟨by omega, by omega, C.hi k (by omega)⟩
    · obtain ⟨h1, h2, h3⟩ := ha1 k f e
      exact ⟨h1, by omega, h3⟩
theorem wNew {w : World} (hD : DeAt w) {a : Option Addr} {L : List Comp} {cp : Nat} {ra : Option Addr} {rc : Nat} (hs : SlIs w a L.length 7 (L.flatMap Comp.cells)) (hG : GoodSc L) (h0 : 0 < L.length) {most : Nat} (hm : most ≤ 64) (seed : Int) :
    Meets Tryz.prog 21 #[scV a L.length cp (.slice ra 0 rc), .int .i64 most, .int .i64 seed] w fun v w' => ∃ c : WC, v = .tuple #[.pointer (some ⟨c.bw, 0, none⟩), .nilIface] ∧ c.L = L ∧ c.frame = 0 ∧ c.seed = seed ∧ c.rolled = rollF (L.map (·.rb)) ∧ WdAt c w (fun k => k = c.bw ∨ ∃ f, c.ca = some ⟨k, f, none⟩) w' (newS L most) 0 ⟨[], 1⟩ := by
  have hl := hG.len
  have hfl := flat_len Comp.cells 7 (fun _ => rfl) L
  have hsc : scV a L.length cp (.slice ra 0 rc) = .agg #[.slice a L.length cp, .slice ra 0 rc] := rfl
  rw [hsc]
  refine f21_ok ?_
  unfold f21
  refine knew_of fun w2 h2 hs2 hb2 => ?_
  have hb2 : blk w2 w.heap.size = some (.cells #[.slice a L.length cp, .slice ra 0 rc] 33) := hb2
  refine kldN_at (cs := [.slice a L.length cp, .slice ra 0 rc]) hb2 rfl (by omega) ?_
  have hsn := sNew_spec (hD.same h2) (ra := ra) (rc := rc) (cp := cp) (hs.same h2) hG hm
  rw [hsc] at hsn
  refine kcall_of hsn ?_
  rintro v w5 ⟨b, rfl, o, p, hP5, hlo5, hhi5, h5⟩
  have hz2 := h2.size
  have C5 : Cur w o w5 b p (newS L most) 0 := ⟨hP5, newS_gs hm, fun k hk => hlo5 k (by omega), hhi5, h2.trans h5⟩
  refine kext_at rfl ?_
  refine kext_at rfl ?_
  rw [keq_nil_nil' ifErr]
  refine kB_at ?_
  refine kIf_F rfl ?_
  unfold f21_0
  have hb5 := h5.get hb2 (fun h => h)
  refine kldN_at (cs := [.slice a L.length cp, .slice ra 0 rc]) hb5 rfl (by omega) ?_
  have hgn := gNew0 (ra := ra) (rc := rc) (cp := cp) (hs.same C5.same) hG
  rw [hsc] at hgn
  refine kcall_of hgn ?_
  rintro v w14 ⟨⟨g, rfl⟩, h14⟩
  refine kext_at rfl ?_
  refine kext_at rfl ?_
  rw [keq_nil_nil' ifErr]
  refine kB_at ?_
  refine kIf_F rfl ?_
  unfold f21_1
  have md : Same w14 w14.drew := (Mod.refl (fun _ => False) _).drew
  have Cd := C5.loc (h14.trans md)
  have hbd := (h14.trans md).get hb5 (fun h => h)
  generalize w14.drew = wd at *
  have hsd := hs.same Cd.same
  have fin : ∀ (w' : World) (a1 : Option Addr) (c1 : Nat) (a2 : Option Addr) (n2 c2 : Nat) (bc : Nat), Same wd w' → SlIs w' a1 L.length 7 (L.flatMap Comp.cells) → (∀ k f, a1 = some ⟨k, f, none⟩ → wd.heap.size ≤ k) → blk w' bc = some (.cells #[.slice a1 L.length c1, .slice a2 n2 c2] 33) →
      f21_2 (.int .i64 seed) (.pointer (some ⟨w.heap.size, 0, none⟩)) (ptrV b) (.pointer (some ⟨g, 0, none⟩)) (.pointer (some ⟨bc, 0, none⟩)) (fun v w' => ∃ c : WC, v = .tuple #[.pointer (some ⟨c.bw, 0, none⟩), .nilIface] ∧ c.L = L ∧ c.frame = 0 ∧ c.seed = seed ∧ c.rolled = rollF (L.map (·.rb)) ∧ WdAt c w (fun k => k = c.bw ∨ ∃ f, c.ca = some ⟨k, f, none⟩) w' (newS L most) 0 ⟨[], 1⟩) w' := by
    intro w' a1 c1 a2 n2 c2 bc m hs1 ha1 hbc
    have hz := Cd.same.size
    exact wNew_tail hG (Cd.loc m) (hsd.same m) (m.get hbd (fun h => h)) hs1 (fun k f e => ⟨by have := ha1 k f e; omega, sl_lt hs1 h0 (by omega) k f e, Cd.hi k (ha1 k f e)⟩) hbc seed g fun c w'' e1 e2 e3 e4 hW => ⟨c, rfl, e1, e2, e3, e4, hW⟩
  rw [ptrV] at fin ⊢
  refine ⟨?_, ?_⟩
  · refine kfld_of ?_
    refine kld_of (v := .slice a L.length cp) hbd rfl ?_
    refine kG_of rfl ?_
    refine kcall_of (cloneC_spec hsd (by omega)) ?_
    rintro v w24 ⟨hO24, h24, hf24⟩
    obtain ⟨a1, n1, c1, rfl, hs24, _⟩ := hO24.is
    have hn1 : n1 = L.length := by have h1 := hs24.1; omega
    subst hn1
    have ha1 : ∀ k f, a1 = some ⟨k, f, none⟩ → wd.heap.size ≤ k := fun k f e => hf24 k ⟨f, L.length, c1, by rw [e]⟩
    have hb24 := h24.get hbd (fun h => h)
    refine ⟨?_, ?_⟩
    · refine kfld_of ?_
      refine kld_of (v := .slice ra 0 rc) hb24 rfl ?_
      refine kG_of rfl ?_
      refine kG_of (kld_of (v := .slice ra 0 rc) hbd rfl ⟨rfl, rfl⟩) ?_
      refine kcall_of cloneR_spec ?_
      rintro v w28 ⟨⟨a2, n2, c2, rfl⟩, h28⟩
      refine knew_of fun w30 h30 hs30 hb30 => ?_
      have hb30' := (h28.trans h30).get hb24 (fun h => h)
      refine kG_of (kld_of (v := .slice ra 0 rc) hb30' rfl ⟨rfl, rfl⟩) ?_
      refine kG_of (kld_of (v := .slice a L.length cp) hb30' rfl ⟨rfl, rfl⟩) ?_
      refine kbld_of (cs := [.slice a1 L.length c1, .slice a2 n2 c2]) rfl ?_
      refine kst_of (vs := [.slice a1 L.length c1, .slice a2 n2 c2]) hb30 rfl rfl rfl (by simp) (by simp) fun w32 h32 hs32 hb32 => ?_
      have m32 : Same w28 w32 := h30.trans' (h32.mono fun k _ e => .inr (by omega))
      exact fin w32 a1 c1 _ _ _ _ (h24.trans (h28.trans m32)) (hs24.same (h28.trans m32)) ha1 hb32
    · refine knew_of fun w49 h49 hs49 hb49 => ?_
      have hb49' := h49.get hb24 (fun h => h)
      refine kG_of (kld_of (v := .slice a L.length cp) hb49' rfl ⟨rfl, rfl⟩) ?_
      refine kfld_of ?_
      refine kld_of (v := .slice ra 0 rc) hb49' rfl ?_
      refine kG_of rfl ?_
      refine kG_of (kld_of (v := .slice ra 0 rc) hb24 rfl ⟨rfl, rfl⟩) ?_
      refine kG_of (kld_of (v := .slice ra 0 rc) hbd rfl ⟨rfl, rfl⟩) ?_
      refine kcall_of cloneR_spec ?_
      rintro v w53 ⟨⟨a2, n2, c2, rfl⟩, h53⟩
      refine kbld_of (cs := [.slice a1 L.length c1, .slice a2 n2 c2]) rfl ?_
      refine kst_of (vs := [.slice a1 L.length c1, .slice a2 n2 c2]) (h53.get hb49 (fun h => h)) rfl rfl rfl (by simp) (by simp) fun w55 h55 hs55 hb55 => ?_
      have m55 : Same w24 w55 := (h49.trans h53).trans' (h55.mono fun k _ e => .inr (by omega))
      exact fin w55 a1 c1 _ _ _ _ (h24.trans m55) (hs24.same m55) ha1 hb55
  · refine knew_of fun w60 h60 hs60 hb60 => ?_
    have hb60' := h60.get hbd (fun h => h)
    refine kfld_of ?_
    refine kld_of (v := .slice a L.length cp) hb60' rfl ?_
    refine kG_of rfl ?_
    refine kG_of (kld_of (v := .slice a L.length cp) hbd rfl ⟨rfl, rfl⟩) ?_
    refine kcall_of (cloneC_spec (hsd.same h60) (by omega)) ?_
    rintro v w64 ⟨hO64, h64, hf64⟩
    obtain ⟨a1, n1, c1, rfl, hs64, _⟩ := hO64.is
    have hn1 : n1 = L.length := by have h1 := hs64.1; omega
    subst hn1
    have ha1 : ∀ k f, a1 = some ⟨k, f, none⟩ → wd.heap.size ≤ k := fun k f e => by have := hf64 k ⟨f, L.length, c1, by rw [e]⟩; omega
    have hb64 := h64.get hb60' (fun h => h)
    refine kfld_of ?_
    refine kld_of (v := .slice ra 0 rc) hb64 rfl ?_
    refine kG_of rfl ?_
    refine kG_of (kld_of (v := .slice ra 0 rc) hb60' rfl ⟨rfl, rfl⟩) ?_
    refine kG_of (kld_of (v := .slice ra 0 rc) hbd rfl ⟨rfl, rfl⟩) ?_
    refine kcall_of cloneR_spec ?_
    rintro v w68 ⟨⟨a2, n2, c2, rfl⟩, h68⟩
    refine kbld_of (cs := [.slice a1 L.length c1, .slice a2 n2 c2]) rfl ?_
    have hz64 := h64.size
    have hz60 := h60.size
    have hz68 := h68.size
    refine kst_of (vs := [.slice a1 L.length c1, .slice a2 n2 c2]) ((h64.trans h68).get hb60 (fun h => h)) rfl rfl rfl (by simp) (by simp) fun w70 h70 hs70 hb70 => ?_
    have m70 : Same wd w70 := (h60.trans (h64.trans h68)).trans' (h70.mono fun k _ e => .inr (by omega))
    have hs70 : SlIs w70 a1 L.length 7 (L.flatMap Comp.cells) := (hs64.same h68).mod h70 fun k f e hk => by have := hf64 k ⟨f, L.length, c1, by rw [e]⟩; omega
    exact fin w70 a1 c1 _ _ _ _ m70 hs70 ha1 hb70
end Go.Proofs.YtmidldeaapdjoaaGreatDoor
end
section
set_option linter.unusedSimpArgs false
set_option linter.unusedVariables false
namespace Go.Proofs.YtmidldeaapdjoaaGreatDoor
open Go Go.Ev
set_option linter.unusedVariables false
set_option linter.unusedSimpArgs false
set_option maxRecDepth 100000
attribute [local irreducible] kO kB kStr kInt kN kG kIf kfld kld kldN kst knew kmap kbld kbldS kext kcnv klenStr klen kcap kprt kprtN kbool kint kstr keq kun ksl kix kiv kta kmk kmm ksem ksemU kextf kcallV kcallM kcall kL

/-! ### A world and orders: all that is done to them -/
theorem Pair.new {c : WC} {w0 : World} {o : OC} {fx : Nat → Prop} {w w' : World} {S : SM} {t : Nat} {B : BdM} {l : List OrdM} {gv dr : Nat} (h0 : 0 < o.L.length) (hW : WdAt c w0 fx w S t B) (m : Same w w') (hO : OAt o (fun k => w.heap.size ≤ k) w' l gv dr) : Pair c w0 o fx w' S t B l gv dr := by
  refine ⟨⟨_, _, hW.ext m, hO.cut h0, fun k hk => ⟨.inr hk, fun hx => ?_, fun e => ?_, fun f e => ?_⟩, fun k hk => .inl hk⟩, h0⟩
  · have := (hW.A.lt hx).2; omega
  · have := (hW.A.lt hW.fw).2; omega
  · have := (hW.A.lt (hW.fc k f e)).2; omega
theorem Pair.orderX {c : WC} {w0 : World} {o : OC} {X fx U : Nat → Prop} {w w' : World} {S : SM} {t : Nat} {B : BdM} {l' : List OrdM} {gv' dr' : Nat} (h0 : 0 < o.L.length) (hW : WdAt c w0 fx w S t B) (hU : ∀ k, U k → fx k ∧ ¬ X k ∧ k ≠ c.bw ∧ ∀ f, c.ca ≠ some ⟨k, f, none⟩) (hX : ∀ k, X k → fx k)
    (hO : OAt o U w' l' gv' dr') (m : Mod U w w') : Pair c w0 o (fun k => X k ∨ (w.heap.size ≤ k ∧ k < w'.heap.size)) w' S t B l' gv' dr' ∧ Mod (fun k => w0.heap.size ≤ k ∧ ¬ X k) w w' := by
  refine ⟨⟨⟨_, _, hW.other m (fun k hk => ⟨(hU k hk).1, (hU k hk).2.2⟩), hO, fun k hk => ⟨.inl (hU k hk).1, fun hx => ?_, (hU k hk).2.2⟩, fun k hk => ?_⟩, h0⟩, m.mono fun k _ hk => ⟨(hW.A.lt (hU k hk).1).1, (hU k hk).2.1⟩⟩
  · rcases hx with hx | hx
    · exact (hU k hk).2.1 hx
    · have := (hW.A.lt (hU k hk).1).2; omega
  · rcases hk with hk | hk
    · exact .inl (hX k hk)
    · exact .inr hk
theorem pAdd_bad {pr : Nat → Prop} {Sa : Nat → Addr} {c : WC} {w0 : World} (hL : LaidP pr Sa w0) (h1 : pr 1) {o : OC} {X : Nat → Prop} {w : World} {S : SM} {t : Nat} {B : BdM} {l : List OrdM} {gv dr : Nat} (h : Pair c w0 o X w S t B l gv dr) (x : OrdM) (hx : x.ok) (hb : ¬ x.fit o.L.length) :
    Meets Tryz.prog 24 #[.pointer (some ⟨o.bo, 0, none⟩), x.val] w fun v w' => ErrX Sa 1 w.heap.size v w' ∧ Same w w' := by
  have hs := h.same0
  obtain ⟨⟨fx, U, hW, hO, hU, hX⟩, h0⟩ := h
  exact oAdd_bad (hL.same hs) h1 hO x hx hb
theorem pAdd_full {pr : Nat → Prop} {Sa : Nat → Addr} {c : WC} {w0 : World} (hL : LaidP pr Sa w0) (h6 : pr 6) {o : OC} {X : Nat → Prop} {w : World} {S : SM} {t : Nat} {B : BdM} {l : List OrdM} {gv dr : Nat} (h : Pair c w0 o X w S t B l gv dr) (x : OrdM) (hx : x.ok) (hb : x.fit o.L.length) (hf : o.most ≤ gv) (hdr : dr ≤ 1000000) :
    Meets Tryz.prog 24 #[.pointer (some ⟨o.bo, 0, none⟩), x.val] w fun v w' => ErrX Sa 6 w.heap.size v w' ∧ Pair c w0 o (fun k => X k ∨ (w.heap.size ≤ k ∧ k < w'.heap.size)) w' S t B l gv (dr + 1) ∧ Mod (fun k => w0.heap.size ≤ k ∧ ¬ X k) w w' := by
  have hs := h.same0
  obtain ⟨⟨fx, U, hW, hO, hU, hX⟩, h0⟩ := h
  refine (oAdd_full hL h6 hs (fun k hk => (hW.A.lt (hU k hk).1).1) hO x hx hb hf hdr).mono ?_
  rintro v w' ⟨hE, hO', m⟩
  exact ⟨hE, Pair.orderX h0 hW hU hX hO' m⟩
theorem pAdd_ok {c : WC} {w0 : World} {o : OC} {X : Nat → Prop} {w : World} {S : SM} {t : Nat} {B : BdM} {l : List OrdM} {gv dr : Nat} (h : Pair c w0 o X w S t B l gv dr) (x : OrdM) (hx : x.ok) (hb : x.fit o.L.length) (hf : gv < o.most) (hmo : o.most ≤ 1000000) (hln : l.length ≤ 1000000) :
    Meets Tryz.prog 24 #[.pointer (some ⟨o.bo, 0, none⟩), x.val] w fun v w' => v = .nilIface ∧ Pair c w0 o X w' S t B (l ++ [x]) (gv + 1) dr ∧ Mod (fun k => w0.heap.size ≤ k ∧ ¬ X k) w w' := by
  obtain ⟨⟨fx, U, hW, hO, hU, hX⟩, h0⟩ := h
  refine (oAdd_ok hO x hx hb hf hmo hln h0).mono ?_
  rintro v w' ⟨rfl, hO', m⟩
  exact ⟨rfl, Pair.order h0 hW hU hX hO' m⟩
theorem pTurn {c : WC} {w0 : World} {o : OC} {X : Nat → Prop} {w : World} {S : SM} {t : Nat} {B : BdM} {l : List OrdM} {gv dr : Nat} (h : Pair c w0 o X w S t B l gv dr) :
    Meets Tryz.prog 27 #[.pointer (some ⟨o.bo, 0, none⟩)] w fun v w' => v = .tuple #[] ∧ Pair c w0 o X w' S t B l 0 dr ∧ Mod (fun k => w0.heap.size ≤ k ∧ ¬ X k) w w' := by
  obtain ⟨⟨fx, U, hW, hO, hU, hX⟩, h0⟩ := h
  refine (oTurn hO).mono ?_
  rintro v w' ⟨rfl, hO', m⟩
  obtain ⟨hP, hm⟩ := Pair.orderX h0 hW hU hX hO' m
  exact ⟨rfl, hP.less (fun k hk => .inl hk), hm⟩
theorem pList {c : WC} {w0 : World} {o : OC} {X : Nat → Prop} {w : World} {S : SM} {t : Nat} {B : BdM} {l : List OrdM} {gv dr : Nat} (h : Pair c w0 o X w S t B l gv dr) (hn : l.length ≤ 1000000) :
    Meets Tryz.prog 30 #[.pointer (some ⟨o.bo, 0, none⟩)] w fun v w' => (∃ a' c', v = .slice a' l.length c' ∧ SlIs w' a' l.length 4 (l.flatMap OrdM.cells)) ∧ Same w w' := by
  obtain ⟨⟨fx, U, hW, hO, hU, hX⟩, h0⟩ := h
  exact oList hO hn
theorem pGiven {c : WC} {w0 : World} {o : OC} {X : Nat → Prop} {w : World} {S : SM} {t : Nat} {B : BdM} {l : List OrdM} {gv dr : Nat} (h : Pair c w0 o X w S t B l gv dr) :
    Meets Tryz.prog 28 #[.pointer (some ⟨o.bo, 0, none⟩)] w fun v w' => v = natV gv ∧ w' = w := by
  obtain ⟨⟨fx, U, hW, hO, hU, hX⟩, h0⟩ := h
  exact oGiven hO
theorem pDropped {c : WC} {w0 : World} {o : OC} {X : Nat → Prop} {w : World} {S : SM} {t : Nat} {B : BdM} {l : List OrdM} {gv dr : Nat} (h : Pair c w0 o X w S t B l gv dr) :
    Meets Tryz.prog 29 #[.pointer (some ⟨o.bo, 0, none⟩)] w fun v w' => v = natV dr ∧ w' = w := by
  obtain ⟨⟨fx, U, hW, hO, hU, hX⟩, h0⟩ := h
  exact oDropped hO
theorem pSpawn0 {pr : Nat → Prop} {Sa : Nat → Addr} {c : WC} {w0 : World} (hL : LaidP pr Sa w0) (h6 : pr 6) (hD : DeAt w0) {o : OC} {X : Nat → Prop} {w : World} {S : SM} {t : Nat} {B : BdM} {l : List OrdM} {gv dr : Nat} (h : Pair c w0 o X w S t B l gv dr) (ht : t ≤ 10000) (hnx : B.nx ≤ 1000000) (hlt : (viewS S B).length < S.gens.length) :
    Meets Tryz.prog 31 #[.pointer (some ⟨c.bw, 0, none⟩), .slice none 0 0] w fun v w' => v = .tuple #[natV B.nx, .nilIface] ∧ ∃ S' B', viewS S' B' = viewS S B ++ [(B.nx, [])] ∧ B'.nx = B.nx + 1 ∧ S'.gens.length = S.gens.length ∧ Pair c w0 o X w' S' (t + 1) B' l gv dr ∧ Mod (fun k => w0.heap.size ≤ k ∧ ¬ X k) w w' := by
  obtain ⟨⟨fx, U, hW, hO, hU, hX⟩, h0⟩ := h
  refine (wSpawn_ok (P := []) (a := none) (cp := 0) hL h6 hD hW ht hnx (SlIs.nil _ _ _) (fun k f e => by cases e) (by simp) (fun q hq => by cases hq) List.nodup_nil List.Pairwise.nil hlt).mono ?_
  rintro v w' ⟨rfl, S', B', hW', hg, hm, hv, hn⟩
  exact ⟨rfl, S', B', hv, hn, hg, Pair.act h0 hO hU hX hW' hm⟩
/-! ### Get of a world -/
theorem view_find {S : SM} {B : BdM} {x : Int} {z : Nat × List Part} (h : findV (viewS S B) x = some z) : ∃ y, B.l.find? (fun y => decide (((y.1 : Nat) : Int) = x)) = some y ∧ z = (y.1, partsOf S y.2.i.toNat) := by
  rw [findV_view] at h
  cases hf : B.l.find? (fun y => decide (((y.1 : Nat) : Int) = x)) with
  | none => rw [hf] at h; cases h
  | some y => rw [hf] at h; exact ⟨y, rfl, by cases h; rfl⟩
theorem wGet_ok {c : WC} {w0 : World} {fx : Nat → Prop} {w : World} {S : SM} {t : Nat} {B : BdM} (h : WdAt c w0 fx w S t B) {x : Int} {n : Nat} {y : Nat × EK} (hf : B.l.find? (fun z => decide (((z.1 : Nat) : Int) = x)) = some y) {q : Part} (hq : q ∈ partsOf S y.2.i.toNat) (hqc : q.comp = (n : Int)) :
    Meets Tryz.prog 71 #[.pointer (some ⟨c.bw, 0, none⟩), .int .i64 x, .int .i64 n] w fun v w' => v = .tuple #[.agg q.cells.toArray, .nilIface] ∧ Same w w' := by
  have hym := List.mem_of_find?_eq_some hf
  obtain ⟨i, hyi, hg⟩ := h.link.live y hym
  rw [hyi, Int.toNat_natCast] at hq
  refine f71_ok ?_
  unfold f71
  refine knew_of fun w2 h2 hs2 hb2 => ?_
  refine kcall_of (wEntity_ok (h.loc h2) hf) ?_
  rintro v w4 ⟨rfl, h4⟩
  unfold EK.v entV
  rw [hyi]
  refine kext_at rfl ?_
  refine kext_at rfl ?_
  refine knew_of fun w8 h8 hs8 hb8 => ?_
  refine kst_of (vs := [.int .i64 i, .int .i64 y.2.g]) hb8 rfl rfl rfl (by simp) (by simp) fun w9 h9 hs9 hb9 => ?_
  have hb9 : blk w9 w4.heap.size = some (.cells #[.int .i64 i, .int .i64 y.2.g] 37) := hb9
  have m9 : Same w4 w9 := h8.trans' (h9.mono fun k _ e => .inr (by omega))
  rw [keq_nil_nil' ifErr]
  refine kB_at ?_
  refine kIf_F rfl ?_
  unfold f71_0
  have md : Same w9 w9.drew := (Mod.refl (fun _ => False) _).drew
  have m29 : Same w2 w9.drew := (h4.trans m9).trans md
  have hd := h.loc (h2.trans m29)
  have hbd := md.get hb9 (fun h => h)
  have hb2d := m29.get hb2 (fun h => h)
  have hz2 := m29.size
  generalize w9.drew = wd at *
  have key : ∀ {w1 : World}, Same wd w1 → blk w1 c.bw = some (.cells c.cells 150) := fun m => m.get hd.here (fun h => h)
  have tail : ∀ (w1 : World) (bp : Nat), Same wd w1 → bp ≠ w.heap.size → blk w1 bp = some (.cells q.cells.toArray 47) → f71_1 (.pointer (some ⟨w.heap.size, 0, none⟩)) .nilIface (.pointer (some ⟨bp, 0, none⟩)) (fun v w' => v = .tuple #[.agg q.cells.toArray, .nilIface] ∧ Same w w') w1 := by
    intro w1 bp m hne hbp
    unfold f71_1
    rw [keq_nil_nil' ifErr]
    refine kB_at ?_
    refine kIf_F rfl ?_
    unfold f71_2
    refine kldN_at (cs := q.cells) hbp rfl (by omega) ?_
    refine kst_of (vs := q.cells) (m.get hb2d (fun h => h)) rfl rfl rfl (by simp) (by simp [Part.cells]) fun w33 h33 hs33 hb33 => ?_
    have hb33 : blk w33 w.heap.size = some (.cells q.cells.toArray 47) := hb33
    refine kldN_at (cs := q.cells) hb33 rfl (by omega) ?_
    exact ⟨rfl, ((h2.trans m29).trans m).trans' (h33.mono fun k _ e => .inr (by omega))⟩
  obtain ⟨o, p, U, C, hb, hU, hfx⟩ := hd.A
  have hget : ∀ w1, Same wd w1 → Meets Tryz.prog 37 #[.pointer (some ⟨c.bs, 0, none⟩), .agg #[.int .i64 i, .int .i64 y.2.g], .int .i64 n] w1 fun v w' => v = .tuple #[.agg q.cells.toArray, .nilIface] ∧ Same w1 w' := by
    intro w1 m
    have := get_at (C.sp.same m) C.gs hg hq hqc
    rw [ptrV, entV] at this
    exact this
  refine ⟨?_, ?_⟩
  · refine kN_at ?_
    refine kfld_of ?_
    refine kld_of (v := .pointer (some ⟨c.bs, 0, none⟩)) hd.here rfl ?_
    refine kG_of rfl ?_
    refine kldN_at (cs := [.int .i64 i, .int .i64 y.2.g]) hbd rfl (by omega) ?_
    refine kG_of rfl ?_
    refine kcall_of (hget _ (Mod.refl _ _)) ?_
    rintro v w19 ⟨rfl, h19⟩
    refine knew_of fun w21 h21 hs21 hb21 => ?_
    refine kG_of (kldN_at (cs := [.int .i64 i, .int .i64 y.2.g]) ((h19.trans h21).get hbd (fun h => h)) rfl (by omega) ⟨rfl, rfl⟩) ?_
    refine kG_of (kld_of (v := .pointer (some ⟨c.bs, 0, none⟩)) (key (h19.trans h21)) rfl ⟨rfl, rfl⟩) ?_
    refine kext_at rfl ?_
    refine kst_of (vs := q.cells) hb21 rfl rfl rfl (by simp) (by simp [Part.cells]) fun w23 h23 hs23 hb23 => ?_
    have hb23 : blk w23 w19.heap.size = some (.cells q.cells.toArray 47) := hb23
    refine kext_at rfl ?_
    have hz19 := h19.size
    exact tail _ _ (h19.trans (h21.trans' (h23.mono fun k _ e => .inr (by omega)))) (by omega) hb23
  · refine knew_of fun w39 h39 hs39 hb39 => ?_
    refine kN_at ?_
    refine kfld_of ?_
    refine kld_of (v := .pointer (some ⟨c.bs, 0, none⟩)) (key h39) rfl ?_
    refine kG_of rfl ?_
    refine kG_of (kld_of (v := .pointer (some ⟨c.bs, 0, none⟩)) hd.here rfl ⟨rfl, rfl⟩) ?_
    refine kldN_at (cs := [.int .i64 i, .int .i64 y.2.g]) (h39.get hbd (fun h => h)) rfl (by omega) ?_
    refine kG_of rfl ?_
    refine kG_of (kldN_at (cs := [.int .i64 i, .int .i64 y.2.g]) hbd rfl (by omega) ⟨rfl, rfl⟩) ?_
    refine kcall_of (hget _ h39) ?_
    rintro v w44 ⟨rfl, h44⟩
    refine kext_at rfl ?_
    refine kst_of (vs := q.cells) (h44.get hb39 (fun h => h)) rfl rfl rfl (by simp) (by simp [Part.cells]) fun w46 h46 hs46 hb46 => ?_
    have hb46 : blk w46 wd.heap.size = some (.cells q.cells.toArray 47) := hb46
    refine kext_at rfl ?_
    exact tail _ _ ((h39.trans h44).trans' (h46.mono fun k _ e => .inr (by omega))) (by omega) hb46
end Go.Proofs.YtmidldeaapdjoaaGreatDoor
end
section
set_option linter.unusedSimpArgs false
set_option linter.unusedVariables false
namespace Go.Proofs.YtmidldeaapdjoaaGreatDoor
open Go Go.Ev
set_option linter.unusedVariables false
set_option linter.unusedSimpArgs false
set_option maxRecDepth 100000
attribute [local irreducible] kO kB kStr kInt kN kG kIf kfld kld kldN kst knew kmap kbld kbldS kext kcnv klenStr klen kcap kprt kprtN kbool kint kstr keq kun ksl kix kiv kta kmk kmm ksem ksemU kextf kcallV kcallM kcall kL

/-! ### Chapter 15's awake -/
theorem cellsRep : Tryz.prog.cellsOf 75 = 2 := by kernel_rfl
theorem kl_rep {i g : Int} (h1 : I64 i) (h2 : I64 g) (d : Nat) : Tryz.prog.keyLits (d + 2) 75 [.int .i64 i, .int .i64 g] = some [.int .i64 i, .int .i64 g] := by
  unfold Program.keyLits
  simp only [Tryz.underlying75, cellsRep]
  rw [if_pos ⟨by rfl, by kernel_rfl⟩]
  simp [cellsInt, kl_int h1, kl_int h2]
theorem keyRep : Tryz.prog.keyTypeAt 10 75 = true := by kernel_rfl
theorem guardRep : Tryz.prog.eqGuardType Tryz.prog.depth 75 = false := by kernel_rfl
theorem formRep (i g : Int) : Value.formed Tryz.prog 75 (.agg #[.int .i64 i, .int .i64 g]) = true := by
  unfold Value.formed
  simp only [Tryz.underlying75, cellsRep]
  rfl
theorem keq_repE {i g j h : Int} (hi : I64 i) (hg : I64 g) (hj : I64 j) (hh : I64 h) {w : World} {K : Value → World → Prop} {cx cy : Bool} :
    keq Tryz.prog .eql 75 cx cy (.agg #[.int .i64 i, .int .i64 g]) (.agg #[.int .i64 j, .int .i64 h]) w K = K (.bool (decide (i = j ∧ g = h))) w := by
  obtain ⟨r, hr, hiff⟩ := run_equalIn_deep (P := Tryz.prog) 9990 10 75 keyRep w 2 2 (.agg #[.int .i64 i, .int .i64 g]) (.agg #[.int .i64 j, .int .i64 h]) _ _ (formRep i g) (formRep j h) (kl_rep hi hg 0) (kl_rep hj hh 0)
  have hr2 : r = decide (i = j ∧ g = h) := by
    rw [Bool.eq_iff_iff, hiff, decide_eq_true_eq]
    simp
  rw [hr2] at hr
  simp only [keq, eqW, semV, Sem.run_bind, run_eqGuard_agg w .eql 75 _ _ #[.int .i64 i, .int .i64 g] #[.int .i64 j, .int .i64 h] guardRep, Result.andThen_ok, run_eql_struct]
  rw [show (10000 : Nat) = 9990 + 10 from rfl, hr]
  rfl
def arrV (a b c d : Int) : Value := .agg #[.int .i64 a, .int .i64 b, .int .i64 c, .int .i64 d]
theorem keyArr4 : Tryz.prog.keyTypeAt 10 45 = true := by kernel_rfl
theorem guardArr4 : Tryz.prog.eqGuardType Tryz.prog.depth 45 = false := by kernel_rfl
theorem formArr4 (a b c d : Int) : Value.formed Tryz.prog 45 (arrV a b c d) = true := by
  unfold Value.formed arrV
  simp only [Tryz.underlying45, cellsArr]
  rfl
theorem keq_arr4 {a b c d a' b' c' d' : Int} (h1 : I64 a) (h2 : I64 b) (h3 : I64 c) (h4 : I64 d) (k1 : I64 a') (k2 : I64 b') (k3 : I64 c') (k4 : I64 d') {w : World} {K : Value → World → Prop} {cx cy : Bool} :
    keq Tryz.prog .eql 45 cx cy (arrV a b c d) (arrV a' b' c' d') w K = K (.bool (decide (a = a' ∧ b = b' ∧ c = c' ∧ d = d'))) w := by
  obtain ⟨r, hr, hiff⟩ := run_equalIn_deep (P := Tryz.prog) 9990 10 45 keyArr4 w 2 2 (arrV a b c d) (arrV a' b' c' d') _ _ (formArr4 a b c d) (formArr4 a' b' c' d') (kl_arr h1 h2 h3 h4 0) (kl_arr k1 k2 k3 k4 0)
  have hr2 : r = decide (a = a' ∧ b = b' ∧ c = c' ∧ d = d') := by
    rw [Bool.eq_iff_iff, hiff, decide_eq_true_eq]
    simp
  rw [hr2] at hr
  unfold arrV at hr ⊢
  simp only [keq, eqW, semV, Sem.run_bind, run_eqGuard_agg w .eql 45 _ _ #[.int .i64 a, .int .i64 b, .int .i64 c, .int .i64 d] #[.int .i64 a', .int .i64 b', .int .i64 c', .int .i64 d'] guardArr4, Result.andThen_ok, run_eql_struct]
  rw [show (10000 : Nat) = 9990 + 10 from rfl, hr]
  rfl
theorem keq_arr4' {a b c d a' b' c' d' : Int} (h1 : I64 a) (h2 : I64 b) (h3 : I64 c) (h4 : I64 d) (k1 : I64 a') (k2 : I64 b') (k3 : I64 c') (k4 : I64 d') {w : World} {K : Value → World → Prop} {cx cy : Bool} :
    keq Tryz.prog .eql 45 cx cy (.agg #[.int .i64 a, .int .i64 b, .int .i64 c, .int .i64 d]) (.agg #[.int .i64 a', .int .i64 b', .int .i64 c', .int .i64 d']) w K = K (.bool (decide (a = a' ∧ b = b' ∧ c = c' ∧ d = d'))) w :=
  keq_arr4 h1 h2 h3 h4 k1 k2 k3 k4
theorem awl : flushF smallC 4 0 [⟨1, 0, 1, 0⟩, ⟨2, 1, 0, 0⟩, ⟨2, 1, 0, 0⟩] (([(1, [])], 2), 0, 0) = (([(2, [⟨0, 4, 5, 0, 0, 0⟩])], 3), 2, 1) := by kernel_rfl
theorem newS_view (L : List Comp) (most : Nat) : viewS (newS L most) ⟨[], 1⟩ = [] := rfl
theorem newS_len (L : List Comp) (most : Nat) : (newS L most).gens.length = most := by simp [newS, newS0, layS]
theorem smallC_len : smallC.length = 3 := rfl
theorem awake15_spec {pr : Nat → Prop} {Sa : Nat → Addr} {w : World} (hD : DeAt w) (hL : LaidP pr Sa w) (h1 : pr 1) (h6 : pr 6) (h7 : pr 7) (h9 : pr 9) (h17 : pr 17) :
    Meets Tryz.prog 20 #[] w fun v w' => v = .bool true ∧ Same w w' := by
  refine f20_ok ?_
  unfold f20
  refine kcall_of (small15_spec w) ?_
  rintro v w2 ⟨a2, c2, rfl, hs2, h2⟩
  refine kcall_of (wNew (hD.same h2) hs2 smallC_good (by rw [smallC_len]; omega) (most := 4) (by omega) 1) ?_
  rintro v w4 ⟨c, rfl, hcL, hcf, _, _, hW4⟩
  have hs24 := hW4.A.same0
  refine kext_at rfl ?_
  refine kext_at rfl ?_
  refine kcall_of (small15_spec w4) ?_
  rintro v w8 ⟨a8, c8, rfl, hs8, h8⟩
  refine kcall_of (oNew hs8 smallC_good (by rw [smallC_len]; omega) (most := 3) (by omega)) ?_
  rintro v w10 ⟨o, rfl, hoL, hom, hO10, h10⟩
  refine kext_at rfl ?_
  refine kext_at rfl ?_
  have h0 : 0 < o.L.length := by rw [hoL, smallC_len]; omega
  have P10 := (Pair.new h0 (hW4.loc h8) h10 hO10).less (X' := fun _ => False) fun k hk => hk.elim
  have hL2 := hL.same h2
  have hD2 := hD.same h2
  rw [keq_ptr_nil ptWor]
  refine kB_at ?_
  refine kIf_T rfl ?_
  rw [keq_ptr_nil ptOrd]
  refine kB_at ?_
  refine kIf_T rfl ?_
  rw [keq_nil_nil' ifErr]
  refine kB_at ?_
  refine kIf_T rfl ?_
  rw [keq_nil_nil' ifErr]
  unfold f20_0
  refine kB_at ?_
  refine kIf_F rfl ?_
  unfold f20_1
  refine kcall_of (pSpawn0 hL2 h6 hD2 P10 (by omega) (by show (1 : Nat) ≤ _; omega) (by rw [newS_view, newS_len]; show 0 < 4; omega)) ?_
  rintro v w25 ⟨rfl, S1, B1, hv1, hn1, hg1, P25, m25⟩
  rw [newS_len] at hg1
  rw [newS_view] at hv1
  have fit : ∀ x : OrdM, x.fit 3 → x.fit o.L.length := fun x hx => by rw [hoL]; exact hx
  refine kbld_of (cs := (⟨1, 0, 1, 0⟩ : OrdM).cells) rfl ?_
  refine kcall_of (pAdd_ok P25 ⟨1, 0, 1, 0⟩ (by unfold OrdM.ok I64; simp) (fit _ (by unfold OrdM.fit; simp)) (by rw [hom]; omega) (by rw [hom]; omega) (by simp)) ?_
  rintro v w28 ⟨rfl, P28, m28⟩
  refine kbld_of (cs := (⟨2, 1, 0, 0⟩ : OrdM).cells) rfl ?_
  refine kcall_of (pAdd_ok P28 ⟨2, 1, 0, 0⟩ (by unfold OrdM.ok I64; simp) (fit _ (by unfold OrdM.fit; simp)) (by rw [hom]; omega) (by rw [hom]; omega) (by simp)) ?_
  rintro v w31 ⟨rfl, P31, m31⟩
  refine kbld_of (cs := (⟨2, 1, 0, 0⟩ : OrdM).cells) rfl ?_
  refine kcall_of (pAdd_ok P31 ⟨2, 1, 0, 0⟩ (by unfold OrdM.ok I64; simp) (fit _ (by unfold OrdM.fit; simp)) (by rw [hom]; omega) (by rw [hom]; omega) (by simp)) ?_
  rintro v w34 ⟨rfl, P34, m34⟩
  refine kbld_of (cs := (⟨1, 0, 0, 0⟩ : OrdM).cells) rfl ?_
  refine kcall_of (pAdd_full hL2 h6 P34 ⟨1, 0, 0, 0⟩ (by unfold OrdM.ok I64; simp) (fit _ (by unfold OrdM.fit; simp)) (by rw [hom]; omega) (by omega)) ?_
  rintro v36 w37 ⟨hE37, P37, m37⟩
  refine kcall_of (oFlush hL2 h6 h7 h9 h17 hD2 (by rw [hoL, hcL]) P37 (by show 0 + 1 + 3 ≤ _; omega) (by rw [hn1]; show 1 + 1 + 3 ≤ _; omega)) ?_
  rintro v w39 ⟨S2, B2, d, f, rfl, _, hfl, hg2, _, P39, m39⟩
  have hn1' : B1.nx = 2 := hn1
  have hv1' : viewS S1 B1 = [(1, [])] := hv1
  rw [hg1, hcf, hcL, hv1', hn1'] at hfl
  have hfl := awl.symm.trans hfl
  have hv2 : viewS S2 B2 = [(2, [⟨0, 4, 5, 0, 0, 0⟩])] := (congrArg (fun z => z.1.1) hfl).symm
  have hd : 2 = d := congrArg (fun z => z.2.1) hfl
  have hf : 1 = f := congrArg (fun z => z.2.2) hfl
  subst hd hf
  have hE39 : ErrX Sa 6 w34.heap.size v36 w39 := hE37.mod m39 fun b hlo hlt hk => hk.2 (.inr ⟨hlo, hlt⟩)
  refine kext_at rfl ?_
  refine kext_at rfl ?_
  refine knew_of fun w43 h43 hs43 hb43 => ?_
  refine kst_of (vs := [.int .i64 2, .int .i64 1]) hb43 rfl rfl rfl (by simp) (by simp) fun w44 h44 hs44 hb44 => ?_
  have hb44 : blk w44 w39.heap.size = some (.cells #[.int .i64 2, .int .i64 1] 75) := hb44
  have m44 : Same w39 w44 := h43.trans' (h44.mono fun k _ e => .inr (by omega))
  have P44 := P39.loc m44
  obtain ⟨y, hfy, hye⟩ := view_find (S := S2) (B := B2) (x := 2) (z := (2, [⟨0, 4, 5, 0, 0, 0⟩])) (by rw [hv2]; rfl)
  have hpy : partsOf S2 y.2.i.toNat = [⟨0, 4, 5, 0, 0, 0⟩] := (congrArg Prod.snd hye).symm
  obtain ⟨⟨fx, U, hW44, _, _, _⟩, _⟩ := id P44
  refine kcall_of (wGet_ok hW44 hfy (n := 0) (q := ⟨0, 4, 5, 0, 0, 0⟩) (by rw [hpy]; exact List.mem_singleton.2 rfl) rfl) ?_
  rintro v w46 ⟨rfl, h46⟩
  refine kext_at rfl ?_
  refine kext_at rfl ?_
  refine knew_of fun w50 h50 hs50 hb50 => ?_
  refine kst_of (vs := (⟨0, 4, 5, 0, 0, 0⟩ : Part).cells) hb50 rfl rfl rfl (by simp) (by simp [Part.cells]) fun w51 h51 hs51 hb51 => ?_
  have hb51 : blk w51 w46.heap.size = some (.cells (⟨0, 4, 5, 0, 0, 0⟩ : Part).cells.toArray 47) := hb51
  have m51 : Same w46 w51 := h50.trans' (h51.mono fun k _ e => .inr (by omega))
  have md : Same w51 w51.drew := (Mod.refl (fun _ => False) _).drew
  have mall := (h46.trans m51).trans md
  have Pd := P44.loc mall
  have hEd := hE39.same (m44.trans mall)
  have hb44d := mall.get hb44 (fun h => h)
  have hb51d := md.get hb51 (fun h => h)
  have hLd := hL2.same Pd.same0
  have s0d := Pd.same0
  generalize w51.drew = wd at *
  refine kld_err hLd h6 rfl rfl ?_
  refine kG_of rfl ?_
  refine kcall_of (isX_spec hLd h6 h6 hEd) ?_
  rintro v w54 ⟨rfl, rfl⟩
  rw [decT rfl]
  refine kB_at ?_
  refine kIf_T rfl ?_
  refine kldN_at (cs := [.int .i64 2, .int .i64 1]) hb44d rfl (by omega) ?_
  refine kG_of rfl ?_
  refine kbld_of (cs := [.int .i64 2, .int .i64 1]) rfl ?_
  rw [keq_repE (by unfold I64; omega) (by unfold I64; omega) (by unfold I64; omega) (by unfold I64; omega), decT ⟨rfl, rfl⟩]
  refine kG_of rfl ?_
  refine kB_at ?_
  refine kIf_T rfl ?_
  rw [keq_nil_nil ifErr]
  refine kG_of rfl ?_
  refine kB_at ?_
  refine kIf_T rfl ?_
  rw [keq_nil_nil ifErr]
  refine kG_of rfl ?_
  refine kB_at ?_
  refine kIf_T rfl ?_
  refine kfld_of ?_
  refine kldN_at (cs := [.int .i64 4, .int .i64 5, .int .i64 0, .int .i64 0]) hb51d rfl (by omega) ?_
  refine kG_of rfl ?_
  refine kbld_of (cs := [.int .i64 4, .int .i64 5, .int .i64 0, .int .i64 0]) rfl ?_
  rw [keq_arr4' (by unfold I64; omega) (by unfold I64; omega) (by unfold I64; omega) (by unfold I64; omega) (by unfold I64; omega) (by unfold I64; omega) (by unfold I64; omega) (by unfold I64; omega), decT ⟨rfl, rfl, rfl, rfl⟩]
  refine kG_of rfl ?_
  refine kB_at ?_
  refine kIf_T rfl ?_
  refine kcall_of (pDropped Pd) ?_
  rintro v w74 ⟨rfl, rfl⟩
  refine eql_at ?_
  rw [decT (by rfl)]
  refine kB_at ?_
  refine kIf_T rfl ?_
  refine kcall_of (pGiven Pd) ?_
  rintro v w78 ⟨rfl, rfl⟩
  refine eql_at ?_
  rw [decT (by rfl)]
  refine kB_at ?_
  refine kIf_T rfl ?_
  refine kcall_of (pList Pd (by simp)) ?_
  rintro v w82 ⟨⟨al, cl, rfl, _⟩, h82⟩
  refine klen_at ?_
  refine eql_at ?_
  rw [decT (by rfl)]
  refine kB_at ?_
  refine kIf_T rfl ?_
  refine kbld_of (cs := (⟨0, 0, 0, 0⟩ : OrdM).cells) rfl ?_
  refine kcall_of (pAdd_bad hL2 h1 (Pd.loc h82) ⟨0, 0, 0, 0⟩ (by unfold OrdM.ok I64; simp) (by unfold OrdM.fit; simp)) ?_
  rintro v w89 ⟨hE89, h89⟩
  have hL89 := hLd.same (h82.trans h89)
  refine kld_err hL89 h1 rfl rfl ?_
  refine kG_of rfl ?_
  refine kG_of (kld_err (hLd.same h82) h1 rfl rfl ⟨rfl, rfl⟩) ?_
  refine kcall_of (isX_spec hL89 h1 h1 hE89) ?_
  rintro v w92 ⟨rfl, rfl⟩
  exact ⟨by rw [decT rfl], h2.trans (s0d.trans (h82.trans h89))⟩
end Go.Proofs.YtmidldeaapdjoaaGreatDoor
end
section
set_option linter.unusedSimpArgs false
set_option linter.unusedVariables false
namespace Go.Proofs.YtmidldeaapdjoaaGreatDoor
open Go Go.Ev
set_option linter.unusedVariables false
set_option linter.unusedSimpArgs false
set_option maxRecDepth 100000
attribute [local irreducible] kO kB kStr kInt kN kG kIf kfld kld kldN kst knew kmap kbld kbldS kext kcnv klenStr klen kcap kprt kprtN kbool kint kstr keq kun ksl kix kiv kta kmk kmm ksem ksemU kextf kcallV kcallM kcall kL

/-! ### OrdersFew, walked -/
theorem idxM (n : Int) {l : Nat} (h0 : 0 < l) (h : l ≤ 1000000) : IntKind.u64.wrap (l : Int) = (l : Int) ∧ ∃ c : Nat, c < l ∧ IntKind.i64.wrap ((IntKind.u64.wrap n).tmod (l : Int)) = (c : Int) := by
  have hz : 0 ≤ IntKind.u64.wrap n := by
    simp [IntKind.wrap, IntKind.signed, IntKind.bits]
    omega
  refine ⟨wrap_u64 (by omega) (by omega), ((IntKind.u64.wrap n).tmod (l : Int)).toNat, ?_, ?_⟩
  · rw [Int.tmod_eq_emod_of_nonneg hz]
    have h1 := Int.emod_lt_of_pos (IntKind.u64.wrap n) (show (0 : Int) < l by omega)
    have h2 := Int.emod_nonneg (IntKind.u64.wrap n) (show (l : Int) ≠ 0 by omega)
    omega
  · rw [Int.tmod_eq_emod_of_nonneg hz]
    have h1 := Int.emod_lt_of_pos (IntKind.u64.wrap n) (show (0 : Int) < l by omega)
    have h2 := Int.emod_nonneg (IntKind.u64.wrap n) (show (l : Int) ≠ 0 by omega)
    rw [wrap_i64 (by omega) (by omega)]
    omega
structure ActO where
  kind : Int
  x : OrdM
def ActO.cells (a : ActO) : List Value := .int .i64 a.kind :: a.x.cells
/-- What holds behind i acts. -/
def FewI (c : WC) (w0 : World) (o : OC) (n i : Nat) (x10 x11 x12 x13 x14 : Value) (wr : World) : Prop :=
  x14 = .int .i64 i ∧ ∃ ad dn fr lo S t B l, x10 = natV ad ∧ x11 = natV dn ∧ x12 = natV fr ∧ x13 = natV lo ∧ Pair c w0 o (fun _ => False) wr S t B l fr lo ∧ l.length + dn = ad ∧ ad ≤ i ∧ lo ≤ i ∧ fr ≤ n ∧ t ≤ dn ∧ B.nx ≤ 1 + dn
theorem few_spec {pr : Nat → Prop} {Sa : Nat → Addr} {w : World} (hD : DeAt w) (hL : LaidP pr Sa w) (h1 : pr 1) (h6 : pr 6) (h7 : pr 7) (h9 : pr 9) (h17 : pr 17) (many : Int) {a : Option Addr} {A : List ActO} {cp : Nat} (hs : SlIs w a A.length 5 (A.flatMap ActO.cells)) (hok : ∀ x ∈ A, x.x.ok) :
    Meets Tryz.prog 4 #[.int .i64 many, .slice a A.length cp] w fun v w' => v = .bool true ∧ Same w w' := by
  obtain ⟨_, n, hn, en⟩ := idxM many (l := 65) (by omega) (by omega)
  have en : IntKind.i64.wrap ((IntKind.u64.wrap many).tmod 65) = (n : Int) := en
  refine f4_ok ?_
  unfold f4
  refine kcall_of (awake15_spec hD hL h1 h6 h7 h9 h17) ?_
  rintro v w2 ⟨rfl, h2⟩
  refine not_at ?_
  refine kB_at ?_
  refine kIf_F rfl ?_
  unfold f4_0
  rw [kcnv_int, kint_rem]
  refine kG_of (by omega) ?_
  rw [kcnv_int, en]
  refine kcall_of (small15_spec w2) ?_
  rintro v w8 ⟨a8, c8, rfl, hs8, h8⟩
  have m8 := h2.trans h8
  refine kcall_of (wNew (hD.same m8) hs8 smallC_good (by rw [smallC_len]; omega) (most := 8) (by omega) 1) ?_
  rintro v w10 ⟨c, rfl, hcL, hcf, _, _, hW10⟩
  refine kext_at rfl ?_
  refine kext_at rfl ?_
  refine kcall_of (small15_spec w10) ?_
  rintro v w14 ⟨a14, c14, rfl, hs14, h14⟩
  refine kcall_of (oNew hs14 smallC_good (by rw [smallC_len]; omega) (most := n) (by omega)) ?_
  rintro v w16 ⟨o, rfl, hoL, hom, hO16, h16⟩
  refine kext_at rfl ?_
  refine kext_at rfl ?_
  have h0 : 0 < o.L.length := by rw [hoL, smallC_len]; omega
  have P16 := (Pair.new h0 (hW10.loc h14) h16 hO16).less (X' := fun _ => False) fun k hk => hk.elim
  have hL8 := hL.same m8
  have hD8 := hD.same m8
  rw [keq_ptr_nil ptWor]
  refine kB_at ?_
  refine kIf_T rfl ?_
  rw [keq_ptr_nil ptOrd]
  refine kB_at ?_
  refine kIf_T rfl ?_
  rw [keq_nil_nil' ifErr]
  refine kB_at ?_
  refine kIf_T rfl ?_
  rw [keq_nil_nil' ifErr]
  unfold f4_1
  refine kB_at ?_
  refine kIf_F rfl ?_
  unfold f4_2
  refine kL5_of 150 (FewI c w8 o n) ⟨lI5_0 ⟨rfl, 0, 0, 0, 0, _, _, _, _, rfl, rfl, rfl, rfl, P16, rfl, by omega, by omega, by omega, by omega, by show 1 ≤ 1 + 0; omega⟩, fun x10 x11 x12 x13 x14 wr hx => ?_⟩
  obtain ⟨i, hi, ⟨rfl, ad, dn, fr, lo, S, t, B, l, rfl, rfl, rfl, rfl, P, hlen, had, hlo, hfr, ht, hnx⟩, hJ⟩ := lI5_step hx
  have s0 := m8.trans P.same0
  have last : f4_10 (fun v w' => v = .bool true ∧ Same w w') wr := by
    unfold f4_10
    exact ⟨rfl, s0⟩
  have hsr := hs.same s0
  unfold f4_3
  refine klen_at ?_
  refine lss_at ?_
  refine kB_at ?_
  refine kIf_dec (fun hlt => ?_) (fun hge => ?_)
  rotate_left
  · unfold f4_4
    refine kB_at ?_
    refine kIf_F rfl ?_
    exact last
  have hltA : i < A.length := by omega
  refine lss_at ?_
  by_cases h150 : i < 150
  rotate_left
  · rw [decF (by omega)]
    unfold f4_4
    refine kB_at ?_
    refine kIf_F rfl ?_
    exact last
  rw [decT (by omega)]
  clear last
  unfold f4_4
  refine kB_at ?_
  refine kIf_T rfl ?_
  have fin : ∀ (ad2 dn2 fr2 lo2 : Nat) (S2 : SM) (t2 : Nat) (B2 : BdM) (l2 : List OrdM) (w2 : World), Pair c w8 o (fun _ => False) w2 S2 t2 B2 l2 fr2 lo2 → l2.length + dn2 = ad2 → ad2 ≤ i + 1 → lo2 ≤ i + 1 → fr2 ≤ n → t2 ≤ dn2 → B2.nx ≤ 1 + dn2 →
      f4_6 (.slice a A.length cp) (.int .i64 n) (.pointer (some ⟨c.bw, 0, none⟩)) (.pointer (some ⟨o.bo, 0, none⟩)) (natV ad2) (natV dn2) (natV fr2) (natV lo2) (.int .i64 i) (fun x10' x11' x12' x13' x14' w' => lI 150 (inv5 (FewI c w8 o n)) (x10', x11', x12', x13', x14', w') ∧ lM 150 (inv5 (FewI c w8 o n)) (x10', x11', x12', x13', x14', w') < lM 150 (inv5 (FewI c w8 o n)) (natV ad, natV dn, natV fr, natV lo, .int .i64 i, wr)) (fun v w' => v = .bool true ∧ Same w w') w2 := by
    intro ad2 dn2 fr2 lo2 S2 t2 B2 l2 w2 P2 e1 e2 e3 e4 e5 e6
    unfold f4_6
    refine gtr_at ?_
    rw [decF (by omega)]
    refine kB_at ?_
    refine kIf_T rfl ?_
    refine kcall_of (pGiven P2) ?_
    rintro v w51 ⟨rfl, rfl⟩
    refine neq_at ?_
    rw [decF (by simp)]
    refine kB_at ?_
    refine kIf_T rfl ?_
    refine kcall_of (pDropped P2) ?_
    rintro v w55 ⟨rfl, rfl⟩
    refine neq_at ?_
    rw [decF (by simp)]
    refine kB_at ?_
    refine kIf_T rfl ?_
    refine kcall_of (pList P2 (by omega)) ?_
    rintro v w59 ⟨⟨al, cl, rfl, _⟩, h59⟩
    refine klen_at ?_
    refine sub_at (by omega) (by omega) ?_
    refine neq_at ?_
    rw [decF (by omega)]
    unfold f4_7
    refine kB_at ?_
    refine kIf_F rfl ?_
    unfold f4_8
    refine add_at (by omega) (by omega) ?_
    rw [cast_succ]
    exact hJ _ _ _ _ _ _ h150 ⟨rfl, ad2, dn2, fr2, lo2, S2, t2, B2, l2, rfl, rfl, rfl, rfl, P2.loc h59, e1, e2, e3, e4, e5, e6⟩
  have hgood := hok _ (List.getElem_mem hltA)
  unfold f4_5
  refine kixfld_of (F := ActO.cells) (sz := 5) (j := 0) (v := .int .i64 (A[i]).kind) (fun _ => rfl) hsr hltA rfl rfl ?_
  refine eql_at ?_
  refine kB_at ?_
  refine kIf_dec (fun k1 => ?_) (fun k1 => ?_)
  · refine kixfldN_of (F := ActO.cells) (sz := 5) (j := 1) (m := 4) (vs := (A[i]).x.cells) (fun _ => rfl) (by omega) hsr hltA (by omega) (by omega) rfl rfl ?_
    generalize (A[i]).x = x at *
    have hx' : (Value.agg x.cells.toArray) = x.val := rfl
    rw [hx']
    by_cases hfit : x.fit o.L.length
    · by_cases hfull : fr < o.most
      · refine kcall_of (pAdd_ok P x hgood hfit hfull (by rw [hom]; omega) (by omega)) ?_
        rintro v w43 ⟨rfl, P43, m43⟩
        rw [keq_nil_nil ifErr]
        refine kB_at ?_
        refine kIf_T rfl ?_
        refine add_at (by omega) (by omega) ?_
        refine add_at (by omega) (by omega) ?_
        rw [cast_succ, cast_succ]
        rw [hom] at hfull
        exact fin (ad + 1) dn (fr + 1) lo S t B (l ++ [x]) w43 P43 (by rw [List.length_append, List.length_singleton]; omega) (by omega) (by omega) (by omega) ht hnx
      · refine kcall_of (pAdd_full hL8 h6 P x hgood hfit (by omega) (by omega)) ?_
        rintro v w43 ⟨hE, P43, m43⟩
        have hL43 := hL8.same P43.same0
        obtain ⟨ty, z, rfl⟩ := hE.if
        rw [keq_if_nil ifErr]
        refine kB_at ?_
        refine kIf_F rfl ?_
        refine kld_err hL43 h6 rfl rfl ?_
        refine kcall_of (isX_spec hL43 h6 h6 hE) ?_
        rintro v w68 ⟨rfl, rfl⟩
        rw [decT rfl]
        refine kB_at ?_
        refine kIf_T rfl ?_
        refine add_at (by omega) (by omega) ?_
        refine neq_at ?_
        rw [decF (by rw [hom] at hfull; omega)]
        refine kB_at ?_
        refine kIf_F rfl ?_
        rw [cast_succ]
        exact fin ad dn fr (lo + 1) S t B l w68 (P43.less fun k hk => hk.elim) hlen (by omega) (by omega) hfr ht hnx
    · refine kcall_of (pAdd_bad hL8 h1 P x hgood hfit) ?_
      rintro v w43 ⟨hE, h43⟩
      have P43 := P.loc h43
      have hL43 := hL8.same P43.same0
      obtain ⟨ty, z, rfl⟩ := hE.if
      rw [keq_if_nil ifErr]
      refine kB_at ?_
      refine kIf_F rfl ?_
      refine kld_err hL43 h6 rfl rfl ?_
      refine kcall_of (isX_spec hL43 h1 h6 hE) ?_
      rintro v w68 ⟨rfl, rfl⟩
      rw [decF (by omega)]
      refine kB_at ?_
      refine kIf_F rfl ?_
      exact fin ad dn fr lo S t B l w68 P43 hlen (by omega) (by omega) hfr ht hnx
  · refine eql_at ?_
    refine kB_at ?_
    refine kIf_dec (fun k2 => ?_) (fun k2 => ?_)
    · refine kcall_of (oFlush hL8 h6 h7 h9 h17 hD8 (by rw [hoL, hcL]) P (by omega) (by omega)) ?_
      rintro v w76 ⟨S2, B2, d, f, rfl, hdf, _, _, hnx2, P76, m76⟩
      refine kext_at rfl ?_
      refine kext_at rfl ?_
      refine knew_of fun w80 h80 hs80 hb80 => ?_
      refine kst_of (vs := [natV d, natV f]) hb80 rfl rfl rfl (by simp) (by simp) fun w81 h81 hs81 hb81 => ?_
      have hb81 : blk w81 w76.heap.size = some (.cells #[natV d, natV f] 75) := hb81
      have m81 : Same w76 w81 := h80.trans' (h81.mono fun k _ e => .inr (by omega))
      rw [keq_nil_nil' ifErr]
      refine kB_at ?_
      refine kIf_F rfl ?_
      unfold f4_9
      refine kfld_of ?_
      refine kld_of (v := natV d) hb81 rfl ?_
      refine add_at (by omega) (by omega) ?_
      refine kfld_of ?_
      refine kld_of (v := natV f) hb81 rfl ?_
      refine add_at (by omega) (by omega) ?_
      refine neq_at ?_
      rw [decF (by omega)]
      refine kB_at ?_
      refine kIf_F rfl ?_
      rw [show (dn : Int) + d + f = ((dn + l.length : Nat) : Int) by omega]
      exact fin ad (dn + l.length) fr lo S2 _ B2 [] w81 (P76.loc m81) (by show 0 + _ = _; omega) (by omega) (by omega) hfr (by omega) (by omega)
    · refine eql_at ?_
      refine kB_at ?_
      refine kIf_dec (fun k3 => ?_) (fun k3 => ?_)
      · refine kcall_of (pTurn P) ?_
        rintro v w95 ⟨rfl, P95, m95⟩
        exact fin ad dn 0 lo S t B l w95 P95 hlen (by omega) (by omega) (by omega) ht hnx
      · exact fin ad dn fr lo S t B l wr P hlen (by omega) (by omega) hfr ht hnx
end Go.Proofs.YtmidldeaapdjoaaGreatDoor
end
section
set_option linter.unusedSimpArgs false
set_option linter.unusedVariables false
namespace Go.Proofs.YtmidldeaapdjoaaGreatDoor
open Go Go.Ev Go.RowKit Go.ChangeShapes Go.WideShapes Go.ChangeAt
set_option linter.unusedVariables false
set_option maxRecDepth 100000
namespace ST
theorem cU8 : Tryz.prog.cellsOf 5 = 1 := by kernel_rfl
theorem cMask : Tryz.prog.cellsOf 43 = 1 := by kernel_rfl
theorem gDe : Tryz.prog.globalNamed "math/bits.deBruijn32tab" = some 9 := by kernel_rfl
theorem tDe : (Tryz.prog.globals[9]?).map (·.type) = some 295 := by kernel_rfl
theorem cDe : Tryz.prog.cellsOf 295 = 32 := by kernel_rfl
theorem deTab_lits : Rows.laid_math_bits_deBruijn32tab (H := Unit) = .agg (deTab.map fun n : Nat => .lit (.int .u8 (n : Int))) := by rfl
theorem deAt_of {W : World} (h : ∃ g t cs f p, Tryz.prog.globalNamed "math/bits.deBruijn32tab" = some g ∧ (Tryz.prog.globals[g]?).map (·.type) = some t ∧ W.var? Tryz.prog "math/bits.deBruijn32tab" = some cs ∧ DataW.trod (fun _ => ()) Tryz.prog W 0 (fun _ => true) false f t cs.toList = some (Rows.laid_math_bits_deBruijn32tab, p)) : DeAt W := by
  obtain ⟨g0, t0, cs0, f0, p0, hg0, ht0, hv0, hd0⟩ := h
  obtain rfl := Option.some.inj (gDe.symm.trans hg0)
  obtain rfl := Option.some.inj (tDe.symm.trans ht0)
  obtain ⟨xs, m, _, hx, hl, hxl, hel⟩ := DataW.trod_array Tryz.underlying295 hd0
  rw [cDe] at hl
  rw [deTab_lits] at hx
  simp only [Prod.mk.injEq, DataW.agg.injEq] at hx
  obtain ⟨t, f, hb⟩ := blk_of_var gDe hv0
  refine ⟨t, f, ?_⟩
  rw [hb]
  congr 2
  apply Array.ext'
  apply List.ext_getElem?
  intro i
  simp only [List.getElem?_map]
  by_cases hi : i < 32
  · have h1 := hel i hi
    rw [cU8, Nat.mul_one, List.getElem?_eq_getElem (show i < xs.length by omega)] at h1
    obtain ⟨n, e1, e2, _⟩ := DataW.trod_int Tryz.underlying5 h1
    have h2 := congrArg (fun l : List (DataW Unit) => l[i]?) hx.1
    simp only [List.getElem?_map, List.getElem?_eq_getElem (show i < xs.length by omega), Option.map_some] at h2
    have hdl : i < deTab.length := hi
    rw [List.getElem?_eq_getElem hdl, Option.map_some] at h2 ⊢
    rw [e2] at h2
    simp only [Option.some.injEq, DataW.lit.injEq, Lit.int.injEq] at h2
    have h3 : cs0.toList[i]? = some (.int .u8 n) := by
      have := congrArg (fun l : List Value => l[0]?) e1
      simpa [List.getElem?_take, List.getElem?_drop] using this
    rw [h3, ← h2.2]
  · rw [List.getElem?_eq_none (by omega), List.getElem?_eq_none (show deTab.length ≤ i by show 32 ≤ i; omega)]; rfl
def ks : List Nat := [1, 2, 4, 6, 7, 8, 9, 10, 17]
theorem ks_at (k : Nat) (h : k ∈ ks) : Tryz.prog.globalNamed (errG k) = some (gErr k) ∧ (Tryz.prog.globals[gErr k]?).map (·.type) = some 27 := by
  simp only [ks, List.mem_cons, List.not_mem_nil, or_false] at h
  rcases h with rfl | rfl | rfl | rfl | rfl | rfl | rfl | rfl | rfl <;> exact ⟨by kernel_rfl, by kernel_rfl⟩
theorem laid_of {W : World} (h : laidMetH Tryz.prog Rows.ordersFewRow.laid W) : (∃ S, LaidP (· ∈ ks) S W) ∧ DeAt W :=
  ⟨laidP_ofG ks ((Rows.ordersFewRow.laid.drop 3).map sentOf) (by kernel_rfl) (by rfl) (by rfl) ks_at (by decide) h,
    deAt_of (laidD_of (by kernel_rfl) (fun x => x.1 == "math/bits.deBruijn32tab") _ _ (by rfl) h)⟩
theorem i64_of {n : Int} (h : (Lit.int .i64 n).wf = true) : I64 n := i64_wf h
theorem c3 : Tryz.prog.cellsOf 3 = 1 := by kernel_rfl
theorem cOrd : Tryz.prog.cellsOf 69 = 4 := by kernel_rfl
theorem cActO : Tryz.prog.cellsOf 71 = 5 := by kernel_rfl
/-- A command, read. -/
theorem ord_of {w : World} {n : Nat} {cs : List Value} (h : Rd Tryz.prog w (n + 2) 69 cs) : ∃ x : OrdM, x.ok ∧ x.cells = cs := by
  obtain ⟨hl, hf⟩ := rd_struct Tryz.underlying69 h
  rw [cOrd] at hl
  match cs, hl with
  | [a0, a1, a2, a3], _ =>
    simp only [RdF] at hf
    obtain ⟨h0, h1, h2, h3, _⟩ := hf
    simp only [c3, cMask] at h0 h1 h2 h3
    obtain ⟨i0, e0, g0⟩ := rd_int Tryz.underlying3 h0
    obtain ⟨i1, e1, g1⟩ := rd_int Tryz.underlying3 h1
    obtain ⟨i2, e2, g2⟩ := rd_int Tryz.underlying43 h2
    obtain ⟨i3, e3, g3⟩ := rd_int Tryz.underlying3 h3
    obtain ⟨u0, u1⟩ := u32_wf g2
    simp at e0 e1 e2 e3
    subst e0 e1 e2 e3
    refine ⟨⟨i0, i1, i2.toNat, i3⟩, ⟨i64_of g0, i64_of g1, by show i2.toNat < 4294967296; omega, i64_of g3⟩, ?_⟩
    show [Value.int .i64 i0, .int .i64 i1, .int .u32 (i2.toNat : Int), .int .i64 i3] = _
    rw [Int.toNat_of_nonneg u0]
theorem actO_of {w : World} {n : Nat} {cs : List Value} (h : Rd Tryz.prog w (n + 3) 71 cs) : ∃ x : ActO, x.x.ok ∧ x.cells = cs := by
  obtain ⟨hl, hf⟩ := rd_struct Tryz.underlying71 h
  rw [cActO] at hl
  match cs, hl with
  | [a0, a1, a2, a3, a4], _ =>
    simp only [RdF] at hf
    obtain ⟨h0, h1, _⟩ := hf
    simp only [c3, cOrd] at h0 h1
    obtain ⟨i0, e0, g0⟩ := rd_int Tryz.underlying3 h0
    obtain ⟨x, hx, e1⟩ := ord_of h1
    simp at e0 e1
    subst e0
    refine ⟨⟨i0, x⟩, hx, ?_⟩
    show Value.int .i64 i0 :: x.cells = _
    rw [e1]
theorem actsO_of {W : World} {cs : List Value} (h : Rd Tryz.prog W 9 61 cs) : ∃ (a : Option Addr) (l : List ActO) (c : Nat), cs = [.slice a l.length c] ∧ (∀ x ∈ l, x.x.ok) ∧ SlIs W a l.length 5 (l.flatMap ActO.cells) := by
  obtain ⟨a, l, c, e, h1, _, _, h2⟩ := slIs_of_rd (F := ActO.cells) (sz := 5) (ok := fun x => x.x.ok) (fun _ => rfl) (by omega) Tryz.underlying61 cActO (fun ec h => actO_of h) h
  exact ⟨a, l, c, e, h1, h2⟩
end ST
end Go.Proofs.YtmidldeaapdjoaaGreatDoor
end
section
set_option linter.unusedSimpArgs false
set_option linter.unusedVariables false
namespace Go.Proofs.YtmidldeaapdjoaaGreatDoor
open Go Go.Ev Go.RowKit Go.ChangeShapes Go.WideShapes Go.ChangeAt
set_option linter.unusedVariables false
set_option maxRecDepth 100000
namespace ST
/-- The door's own heap meets the condition. -/
theorem door_met (os : Os) (args : Array Value) : laidMetH Tryz.prog Rows.ordersFewRow.laid ((World.doorLaid Tryz.prog 195 os).forCall (fun _ _ => 0) ⟨#[], args, []⟩).memory :=
  laidMetH_of_parts3 (fuel := 8) (laidMet_of_run' 8 (by kernel_rfl) (by kernel_rfl)) (by kernel_rfl) (by kernel_rfl)
theorem lifted (os : Os) (started : os.Started) (H : Type) (enc : TypeId × Value → H) :
    ReturnsInHanded {} Tryz.checked os 4 .any (fun w args => (Rows.ordersFewSpec.pre enc Tryz.prog Tryz.f4 [] false w args ∧ laidMetH Tryz.prog Rows.ordersFewRow.laid w) ∧ sizedMet enc Tryz.prog Tryz.f4 (OpenSpec.ofChange Rows.ordersFewSpec) false w args)
      (Rows.ordersFewSpec.post enc Tryz.prog Tryz.f4 false true false false) := by
  refine returnsInHanded_of_change_and (C := Tryz.checked) (X := fun w _ => laidMetH Tryz.prog Rows.ordersFewRow.laid w) (fun _ _ _ hh h => h.of_heap hh) own started (by kernel_rfl) Tryz.func4
    (ChangeSpec.witness_shaped (enc := enc) (C := Tryz.checked) (os := os) (X := fun w _ => laidMetH Tryz.prog Rows.ordersFewRow.laid w) false (World.doorLaid Tryz.prog 195 os) #[.int .i64 0, .slice none 0 0] 8 rfl (World.shaped_of_RefB (by kernel_rfl) (by kernel_rfl)) (by kernel_rfl) (by kernel_rfl) (by kernel_rfl) (door_met os _)) ?_
  intro W base args ds gs before hval0 hW _ _ hL _
  have hval : ∀ (j : Nat) t v, Tryz.f4.params[j]? = some t → args[j]? = some v → Value.okWide Tryz.prog W .any base t v := hval0
  have hW' := hW
  obtain ⟨p, q, hA0, hV, rfl, hfz, hnd⟩ := hW
  have hA : DataW.TrodAll enc Tryz.prog W 0 (fun _ => true) true Tryz.f4.params.toList args.toList ds p := hA0
  rw [Tryz.params4] at hA hval
  obtain ⟨v0, vs0, d0, ds0, p0, q0, hargs, rfl, rfl, h0, r0⟩ := trodAll_cons hA
  obtain ⟨v1, vs1, d1, ds1, p1, q1, rfl, rfl, rfl, h1, r1⟩ := trodAll_cons r0
  obtain ⟨rfl, rfl, rfl⟩ := trodAll_nil r1
  obtain rfl : args = #[v0, v1] := by cases args; simp_all
  obtain ⟨rfl, rfl⟩ := trodVars_none hV
  have hlt : ∀ x ∈ p0 ++ (p1 ++ []) ++ [], x.block < W.heap.size := fun x hx => hW'.lt x hx
  obtain ⟨x, rfl, rfl, rfl, w0⟩ := open_int Tryz.underlying3 (hval 0 3 v0 rfl rfl) h0
  obtain ⟨a4, n4, c4', e4⟩ := okWide_slice Tryz.underlying61 (hval 1 61 v1 rfl rfl)
  obtain ⟨ta, la, ca, ea, hok, hap⟩ := actsO_of (rd_of_Trod h1 9)
  obtain rfl : v1 = .slice ta la.length ca := by
    subst e4
    simpa [Value.cells] using ea
  obtain ⟨⟨S, hS⟩, hD⟩ := laid_of hL
  have hmet := few_spec hD hS (by decide) (by decide) (by decide) (by decide) (by decide) x (cp := ca) hap hok
  refine hmet.2.mono fun e W' he => ?_
  obtain ⟨v, rfl, rfl, hsame⟩ := he
  have bel := hsame.below
  exact ⟨_, rfl, _, _, _, [], _, [], hW', trodAll_mk1 (shut_bool Tryz.underlying4 _),
    trodAll_cons_mk (shut_int Tryz.underlying3 w0)
      (trodAll_cons_mk (Below.trod laidOut (by kernel_rfl) (of_decide_eq_true (by kernel_rfl)) h1 bel fun x hx => hlt x (by simp [hx])) trodAll_mk0), rfl, bel.frame _, fun h => by cases h⟩
end ST
end Go.Proofs.YtmidldeaapdjoaaGreatDoor
end
