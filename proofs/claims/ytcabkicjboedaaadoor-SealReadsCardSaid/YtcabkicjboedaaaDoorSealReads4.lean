/-
SealReads returns true for every string and leaves it as it was; and that is the given, tied card.
Conditions: the package variables that the row lists hold what the program's text lays (the card ties them to that text); nothing else is asked of the input.
Part 4 of 4 of the texts.
-/
import Derived.Test.YtcabkicjboedaaaDoorSealReads3
import Derived.Test.YtcabkicjboedaaaDoorChecked
import Derived.Test.YtcabkicjboedaaaDoorTie
import Derived.Test.YtcabkicjboedaaaDoorCards
import Derived.SevenTiedAt
section
namespace Go.Proofs.YtcabkicjboedaaaDoor
open Go Go.Ev
set_option linter.unusedVariables false
set_option linter.unusedSimpArgs false
set_option maxRecDepth 100000

/-- 'x[i].f[j]' of a slice of records with an array. -/
theorem kixarr_of {α : Type} {F : α → List Value} {sz : Nat} (hF : ∀ x, (F x).length = sz) {w w' : World} {a : Option Addr} {l : List α} {c : Nat} {e e2 : TypeId} {k k2 : IntKind} {i f m x : Nat} {K : Value → Prop} {v : Value}
    (h : SlIs w a l.length sz (l.flatMap F)) (hi : i < l.length) (hx : x < m) (hv : (F l[i])[f + x]? = some v) (hw : w'.heap = w.heap) (hK : K v) :
    kix (some (.slice e)) (some sz) (.slice a l.length c) (.int k i) fun v1 => kfld f v1 fun v2 => kix (some (.array m e2)) (some 1) v2 (.int k2 x) fun v3 => kld v3 w' K := by
  have hj : f + x < sz := by rw [← hF l[i]]; exact (List.getElem?_eq_some_iff.1 hv).1
  obtain ⟨b, o, cs, t, ff, rfl, hb, hc⟩ := h.cell hi hj
  rw [flat_cell hF hi hj, hv] at hc
  rw [kix_slice]
  refine kG_of (by omega) ?_
  rw [add_mk]
  refine kfld_of ?_
  rw [kix_array]
  refine kG_of (by omega) ?_
  rw [add_mk]
  refine kld_of (c := cs) (t := t) (f := ff) (v := v) (by unfold blk at *; rw [hw]; exact hb) ?_ hK
  rw [← hc]
  congr 1
  have : (i : Int).toNat = i := by omega
  have : (x : Int).toNat = x := by omega
  simp only [*, Nat.mul_one]
  omega
theorem numsB_len {l : List Int} (h : ∀ z ∈ l, I64 z) : (numsB l).length ≤ 10 * l.length := by
  induction l with
  | nil => simp [numsB]
  | cons x l ih =>
    have h1 := groupsF_len64 (zz_lt (h x (by simp)))
    have h2 := ih (fun z hz => h z (by simp [hz]))
    have e : numsB (x :: l) = groupsF (zz x) ++ numsB l := by simp [numsB]
    rw [e, List.length_append, List.length_cons]; omega
theorem partB_len {p : Part} (hp : p.ok) (ht : 0 ≤ p.tick) : (partB p).length ≤ 51 := by
  have h1 := numsB_len (l := p.vals.take (trimN p)) (fun z hz => by
    obtain ⟨j, hj, rfl⟩ := List.mem_iff_getElem.1 (List.mem_of_mem_take hz)
    exact part_val_ok hp (List.getElem?_eq_getElem hj))
  have h2 : (p.vals.take (trimN p)).length ≤ 4 := by rw [List.length_take]; simp [Part.vals]; omega
  have h3 := groupsF_len64 (n := p.tick.toNat) (by have := hp.2.2.2.2.2.2; omega)
  unfold partB
  rw [List.length_cons, List.length_append]; omega
theorem partsB_len {l : List Part} (h : ∀ p ∈ l, p.ok ∧ 0 ≤ p.tick) : (l.flatMap partB).length ≤ 51 * l.length := by
  induction l with
  | nil => simp
  | cons x l ih =>
    have h1 := partB_len (h x (by simp)).1 (h x (by simp)).2
    have h2 := ih (fun z hz => h z (by simp [hz]))
    rw [List.flatMap_cons, List.length_append, List.length_cons]; omega
theorem beingB_len {b : BM} {last : Int} (h : ∀ p ∈ b.parts, p.ok ∧ 0 ≤ p.tick) (hl : b.parts.length ≤ 16) (h1 : b.id - last ≤ 9223372036854775807) : (beingB last b).length ≤ 836 := by
  have g1 := groupsF_len64 (n := (b.id - last).toNat) (by omega)
  have g2 := groupsF_len64 (n := hasF b.parts) (by have := hasF_lt b.parts; omega)
  have g3 := partsB_len h
  unfold beingB
  rw [List.length_append, List.length_append]; omega

def RA (l : List Int) (pre : List UInt8) (w : World) (b1 : Nat) (cs : List Value) (x3 x4 : Value) (wr : World) : Prop :=
  ∃ i : Nat, i ≤ l.length ∧ x4 = .int .i64 i ∧ x3 = .string (bs (pre ++ numsB (l.take i))) ∧ Same w wr ∧ blk wr b1 = some (.cells cs.toArray 55)
def RB (l : List BM) (pre : List UInt8) (w : World) (b1 : Nat) (cs : List Value) (x3 x5 x6 : Value) (wr : World) : Prop :=
  ∃ i : Nat, i ≤ l.length ∧ x6 = .int .i64 i ∧ x5 = .int .i64 (lastId 0 (l.take i)) ∧ x3 = .string (bs (pre ++ beingsB 0 (l.take i))) ∧ (beingsB 0 (l.take i)).length ≤ 836 * i ∧ Same w wr ∧ blk wr b1 = some (.cells cs.toArray 55)
def RC (l : List Part) (pre : List UInt8) (w : World) (b1 : Nat) (cs : List Value) (x3 x8 : Value) (wr : World) : Prop :=
  ∃ i : Nat, i ≤ l.length ∧ x8 = .int .i64 i ∧ x3 = .string (bs (pre ++ (l.take i).flatMap partB)) ∧ Same w wr ∧ blk wr b1 = some (.cells cs.toArray 85)
def RE (l : List Int) (pre : List UInt8) (w : World) (x3 x10 : Value) (wr : World) : Prop :=
  ∃ i : Nat, i ≤ l.length ∧ x10 = .int .i64 i ∧ x3 = .string (bs (pre ++ numsB (l.take i))) ∧ Same w wr

/-- One part's bytes. -/
theorem refPart {w : World} {q : BV} {bQ : Nat} (hbQ : blk w bQ = some (.cells q.cells.toArray 85)) (hsl : SlIs w q.pa q.parts.length 6 (q.parts.flatMap Part.cells)) (hpok : ∀ p ∈ q.parts, p.ok ∧ 0 ≤ p.tick) {k : Nat} (hk : k < q.parts.length) (hq16 : q.parts.length ≤ 16)
    (pre : List UInt8) (hpre : pre.length ≤ 1000000) (x1 x5 x6 : Value) (J15 : Value → Value → World → Prop) (J9 : Value → Value → Value → World → Prop) (Q : Value → World → Prop)
    (hJ : ∀ w', Same w w' → J15 (.string (bs (pre ++ partB q.parts[k]))) (.int .i64 ((k + 1 : Nat) : Int)) w') :
    f20_7 x1 (.string (bs pre)) x5 x6 (.pointer (some ⟨bQ, 0, none⟩)) (.int .i64 k) J15 J9 Q w := by
  obtain ⟨hp, ht⟩ := hpok q.parts[k] (List.getElem_mem hk)
  obtain ⟨p, hpe⟩ : ∃ p, p = q.parts[k] := ⟨_, rfl⟩
  rw [← hpe] at hp ht hJ
  have hle4 := trimN_le p
  unfold f20_7
  refine kL_of (TrInv p w) (fun x _ => (RowKit.intOf x).toNat) ⟨⟨4, hle4, by omega, rfl, rfl⟩, ?_⟩
  rintro x wr ⟨n, hn1, hn2, rfl, rfl⟩
  have done : n = trimN p → f20_11 x1 (.string (bs pre)) x5 x6 (.pointer (some ⟨bQ, 0, none⟩)) (.int .i64 k) (.int .i64 n) J15 J9 Q wr := by
    rintro rfl
    unfold f20_11
    rw [kcnv_int, wrap_u8 (by omega) (by omega)]
    have eb : (.int .u8 ((trimN p : Nat) : Int) : Value) = u8V (UInt8.ofNat (trimN p)) := by
      unfold u8V
      have : (UInt8.ofNat (trimN p)).toNat = trimN p := by simp; omega
      rw [this]
    rw [eb]
    refine kbldS_of (cs := [u8V (UInt8.ofNat (trimN p))]) rfl fun w5 h5 hs5 hb5 => ?_
    refine ksem_bytes (l := [UInt8.ofNat (trimN p)]) (SlIs.blk hb5 rfl) ?_
    rw [kstr_add, bs_size, bs_size, bs_append]
    refine kG_of (by simp; omega) ?_
    have hvl : (p.vals.take (trimN p)).length = trimN p := by rw [List.length_take]; simp [Part.vals]; omega
    have hvok : ∀ z ∈ p.vals.take (trimN p), I64 z := fun z hz => by
      obtain ⟨j, hj, rfl⟩ := List.mem_iff_getElem.1 (List.mem_of_mem_take hz)
      exact part_val_ok hp (List.getElem?_eq_getElem hj)
    refine kL_of (RE (p.vals.take (trimN p)) (pre ++ [UInt8.ofNat (trimN p)]) wr) (fun _ x _ => trimN p - (RowKit.intOf x).toNat) ⟨⟨0, by omega, rfl, by simp [numsB], h5⟩, ?_⟩
    rintro x3 x10 wq ⟨i, hi, rfl, rfl, hm⟩
    have hnl := numsB_len (l := (p.vals.take (trimN p)).take i) (fun z hz => hvok z (List.mem_of_mem_take hz))
    have hti : ((p.vals.take (trimN p)).take i).length ≤ 4 := by rw [List.length_take]; omega
    unfold f20_12
    rw [kint_lss, kB_bool]
    refine kIf_dec (fun hlt => ?_) (fun hge => ?_)
    · have hlt : i < trimN p := by omega
      obtain ⟨z, hz1, hz2⟩ := part_val p i (by omega)
      have htk : (p.vals.take (trimN p)).take (i + 1) = (p.vals.take (trimN p)).take i ++ [z] := by
        rw [List.take_succ_eq_append_getElem (by omega)]
        congr 2
        have hzi : (p.vals.take (trimN p))[i]? = some z := by rw [List.getElem?_take_of_lt hlt]; exact hz1
        rw [List.getElem?_eq_getElem (by omega)] at hzi
        exact Option.some.inj hzi
      have hz64 := part_val_ok hp hz1
      have hgl := groupsF_len64 (zz_lt hz64)
      unfold f20_13
      refine kfld_of ?_
      refine kld_of (v := .slice q.pa q.parts.length q.pc) (hm.get hbQ (fun h => h)) rfl ?_
      refine kixarr_of (F := Part.cells) (fun _ => rfl) (hsl.same hm) hk (show i < 4 by omega) (v := .int .i64 z) (by rw [← hpe]; exact hz2) rfl ?_
      refine kcall_of (refNum_spec z hz64 wq) ?_
      rintro v w102 ⟨rfl, h102⟩
      rw [kstr_add, bs_size, bs_size, bs_append]
      refine kG_of (by simp only [List.length_append, List.length_cons, List.length_nil]; omega) ?_
      unfold f20_14
      rw [kint_add, i64_succ (by omega)]
      exact ⟨⟨i + 1, by omega, rfl, by rw [htk, numsB_snoc, List.append_assoc], hm.trans h102⟩, by simp only [RowKit.intOf, Int.toNat_natCast]; omega⟩
    · have : i = trimN p := by omega
      subst this
      rw [List.take_of_length_le (by omega)] at hnl ⊢
      have hgl := groupsF_len64 (n := p.tick.toNat) (by have := hp.2.2.2.2.2.2; omega)
      unfold f20_15
      refine kfld_of ?_
      refine kld_of (v := .slice q.pa q.parts.length q.pc) (hm.get hbQ (fun h => h)) rfl ?_
      refine kixfld_of (F := Part.cells) (fun _ => rfl) (hsl.same hm) hk (v := .int .i64 p.tick) (by rw [← hpe]; rfl) rfl ?_
      refine kcall_of (refCount_spec p.tick ht hp.2.2.2.2.2.2 wq) ?_
      rintro v w111 ⟨rfl, h111⟩
      rw [kstr_add, bs_size, bs_size, bs_append]
      refine kG_of (by simp only [List.length_append, List.length_cons, List.length_nil]; omega) ?_
      unfold f20_16
      rw [kint_add, i64_succ (by omega)]
      have e : ((pre ++ [UInt8.ofNat (trimN p)]) ++ numsB (p.vals.take (trimN p))) ++ groupsF p.tick.toNat = pre ++ partB p := by unfold partB; simp
      rw [e]
      exact hJ _ (hm.trans h111)
  unfold f20_8
  rw [kint_gtr, kB_bool]
  refine kIf_dec (fun hgt => ?_) (fun hle => ?_)
  · have hgt : 0 < n := by omega
    obtain ⟨z, hz1, hz2⟩ := part_val p (n - 1) (by omega)
    refine kfld_of ?_
    refine kld_of (v := .slice q.pa q.parts.length q.pc) hbQ rfl ?_
    rw [kint_sub, wrap_i64 (by omega) (by omega), show (n : Int) - 1 = ((n - 1 : Nat) : Int) by omega]
    refine kixarr_of (F := Part.cells) (fun _ => rfl) hsl hk (show n - 1 < 4 by omega) (v := .int .i64 z) (by rw [← hpe]; exact hz2) rfl ?_
    rw [kint_eql]
    unfold f20_9
    rw [kB_bool]
    refine kIf_dec (fun h0 => ?_) (fun h0 => ?_)
    · have hne : trimN p ≠ n := fun e => by
        obtain ⟨z', h1, h2⟩ := trimN_last p (n - 1) (by omega)
        rw [hz1] at h1
        exact h2 (by rw [← Option.some.inj h1]; exact h0)
      unfold f20_10
      rw [kint_sub, wrap_i64 (by omega) (by omega)]
      exact ⟨⟨n - 1, by omega, by omega, by congr 1; omega, rfl⟩, by simp only [RowKit.intOf]; omega⟩
    · refine done ?_
      by_cases e : n = trimN p
      · exact e
      · have := trimN_zero p (n - 1) (by omega) (by omega)
        rw [hz1] at this
        exact absurd (Option.some.inj this) h0
  · unfold f20_9
    rw [kB_bool, kIf_false]
    exact done (by omega)

set_option maxHeartbeats 2000000 in
theorem refBytes_spec {w : World} (s : SV) (hs : s.ok w) (hg : goodF s.m = true) : Meets Tryd.prog 20 #[s.val] w fun v w' => v = .string (bs (bytesF s.m)) ∧ Same w w' := by
  obtain ⟨g1, g2, g3, g4, g5, g6, g7⟩ := goodF_of hg
  obtain ⟨hfr, hnx, hsd, hrl, hbl, hba, hra⟩ := hs
  have g1 : 0 ≤ s.frame := g1
  have g3 : 1 ≤ s.next := g3
  have g4 : s.next ≤ 1073741825 := g4
  have hml : (s.bl.map BV.m).length = s.bl.length := List.length_map ..
  have g5 : s.bl.length ≤ 64 := by have := g5; rwa [show s.m.beings.length = s.bl.length from hml] at this
  have g6 : s.rl.length ≤ 8 := g6
  have l1 := groupsF_len64 (n := s.frame.toNat) (by have := hfr.2; omega)
  have l2 := groupsF_len64 (n := s.next.toNat) (by omega)
  have l3 := groupsF_len64 (zz_lt hsd)
  have l4 := groupsF_len64 (n := s.rl.length) (by omega)
  have l5 := groupsF_len64 (n := s.bl.length) (by omega)
  refine f20_ok ?_
  unfold f20
  refine knew_of fun w2 h2 hs2 hb1 => ?_
  have h2 : Same w w2.drew := h2.drew
  have hb1 : blk w2.drew w.heap.size = some (.cells s.cells.toArray 55) := hb1
  generalize w2.drew = wd at *
  refine kfld_of ?_
  refine kld_of (v := .int .i64 s.frame) hb1 rfl ?_
  refine kG_of rfl ?_
  refine kcall_of (refCount_spec s.frame g1 hfr.2 wd) ?_
  rintro v w6 ⟨rfl, h6⟩
  have hb6 := h6.get hb1 (fun h => h)
  refine kfld_of ?_
  refine kld_of (v := .int .i64 s.next) hb6 rfl ?_
  refine kG_of rfl ?_
  refine kG_of (kld_of (v := .int .i64 s.next) hb1 rfl ⟨rfl, rfl⟩) ?_
  refine kcall_of (refCount_spec s.next (by omega) hnx.2 w6) ?_
  rintro v w10 ⟨rfl, h10⟩
  have hb10 := h10.get hb6 (fun h => h)
  rw [kstr_add, bs_size, bs_size, bs_append]
  refine kG_of (by omega) ?_
  refine kfld_of ?_
  refine kld_of (v := .int .i64 s.seed) hb10 rfl ?_
  refine kG_of rfl ?_
  refine kG_of (kld_of (v := .int .i64 s.seed) hb6 rfl ⟨rfl, rfl⟩) ?_
  refine kG_of (kld_of (v := .int .i64 s.seed) hb1 rfl ⟨rfl, rfl⟩) ?_
  refine kcall_of (refNum_spec s.seed hsd w10) ?_
  rintro v w15 ⟨rfl, h15⟩
  have hb15 := h15.get hb10 (fun h => h)
  rw [kstr_add, bs_size, bs_size, bs_append]
  refine kG_of (by rw [List.length_append]; omega) ?_
  refine kfld_of ?_
  refine kld_of (v := .slice s.ra s.rl.length s.rc) hb15 rfl ?_
  refine kG_of rfl ?_
  refine kG_of (kld_of (v := .slice s.ra s.rl.length s.rc) hb10 rfl ⟨rfl, rfl⟩) ?_
  refine kG_of (kld_of (v := .slice s.ra s.rl.length s.rc) hb6 rfl ⟨rfl, rfl⟩) ?_
  refine kG_of (kld_of (v := .slice s.ra s.rl.length s.rc) hb1 rfl ⟨rfl, rfl⟩) ?_
  rw [klen_slice]
  refine kcall_of (refCount_spec (s.rl.length : Int) (by omega) (by omega) w15) ?_
  rintro v w22 ⟨rfl, h22⟩
  rw [kstr_add, bs_size, bs_size, bs_append, Int.toNat_natCast]
  refine kG_of (by simp only [List.length_append]; omega) ?_
  have hb22 := h22.get hb15 (fun h => h)
  have m22 := h2.trans (h6.trans (h10.trans (h15.trans h22)))
  have hpl : (((groupsF s.frame.toNat ++ groupsF s.next.toNat) ++ groupsF (zz s.seed)) ++ groupsF s.rl.length).length ≤ 40 := by simp only [List.length_append]; omega
  generalize hpre : ((groupsF s.frame.toNat ++ groupsF s.next.toNat) ++ groupsF (zz s.seed)) ++ groupsF s.rl.length = pre at *
  refine kL_of (RA s.rl pre w w.heap.size s.cells) (fun _ x _ => s.rl.length - (RowKit.intOf x).toNat) ⟨⟨0, by omega, rfl, by simp [numsB], m22, hb22⟩, ?_⟩
  clear hb1 hb6 hb10 hb15 hb22
  rintro x3 x4 wr ⟨i, hi, rfl, rfl, hm, hb1⟩
  have hnl := numsB_len (l := s.rl.take i) (fun z hz => hrl z (List.mem_of_mem_take hz))
  have hti : (s.rl.take i).length ≤ 8 := by rw [List.length_take]; omega
  unfold f20_0
  refine kfld_of ?_
  refine kld_of (v := .slice s.ra s.rl.length s.rc) hb1 rfl ?_
  rw [klen_slice, kint_lss, kB_bool]
  refine kIf_dec (fun hlt => ?_) (fun hge => ?_)
  · have hlt : i < s.rl.length := by omega
    have htk : s.rl.take (i + 1) = s.rl.take i ++ [s.rl[i]] := List.take_succ_eq_append_getElem hlt
    have hri := hrl s.rl[i] (List.getElem_mem hlt)
    unfold f20_1
    refine kfld_of ?_
    refine kld_of (v := .slice s.ra s.rl.length s.rc) hb1 rfl ?_
    refine kixld_of (F := intV) (hra.same hm) hlt rfl ?_
    generalize s.rl[i] = z at *
    have hgl := groupsF_len64 (zz_lt hri)
    refine kcall_of (refNum_spec z hri wr) ?_
    rintro v w34 ⟨rfl, h34⟩
    rw [kstr_add, bs_size, bs_size, bs_append]
    refine kG_of (by simp only [List.length_append]; omega) ?_
    unfold f20_2
    rw [kint_add, i64_succ (by omega)]
    exact ⟨⟨i + 1, by omega, rfl, by rw [htk, numsB_snoc, List.append_assoc], hm.trans h34, h34.get hb1 (fun h => h)⟩, by simp [RowKit.intOf]; omega⟩
  · have : i = s.rl.length := by omega
    subst this
    rw [List.take_length] at hnl ⊢
    unfold f20_3
    refine kfld_of ?_
    refine kld_of (v := .slice s.ba s.bl.length s.bc) hb1 rfl ?_
    rw [klen_slice]
    refine kcall_of (refCount_spec (s.bl.length : Int) (by omega) (by omega) wr) ?_
    rintro v w42 ⟨rfl, h42⟩
    rw [kstr_add, bs_size, bs_size, bs_append, Int.toNat_natCast]
    refine kG_of (by simp only [List.length_append]; omega) ?_
    have hpl2 : ((pre ++ numsB s.rl) ++ groupsF s.bl.length).length ≤ 130 := by simp only [List.length_append]; omega
    have htot : ((pre ++ numsB s.rl) ++ groupsF s.bl.length) ++ beingsB 0 (s.bl.map BV.m) = bytesF s.m := by
      rw [← hpre]
      unfold bytesF SV.m
      simp only [List.append_assoc, List.length_map]
    generalize (pre ++ numsB s.rl) ++ groupsF s.bl.length = pre2 at *
    refine kL_of (RB (s.bl.map BV.m) pre2 w w.heap.size s.cells) (fun _ _ x _ => s.bl.length - (RowKit.intOf x).toNat) ⟨⟨0, by omega, rfl, rfl, by simp [beingsB], by simp [beingsB], hm.trans h42, h42.get hb1 (fun h => h)⟩, ?_⟩
    clear hb1 hm
    rintro x3 x5 x6 wl ⟨j, hj, rfl, rfl, rfl, hjl, hm, hb1⟩
    unfold f20_4
    refine kfld_of ?_
    refine kld_of (v := .slice s.ba s.bl.length s.bc) hb1 rfl ?_
    rw [klen_slice, kint_lss, kB_bool]
    refine kIf_dec (fun hlt => ?_) (fun hge => ?_)
    · have hlt : j < s.bl.length := by omega
      have htk : (s.bl.map BV.m).take (j + 1) = (s.bl.map BV.m).take j ++ [s.bl[j].m] := by rw [List.take_succ_eq_append_getElem (by omega)]; simp
      have hbj := hbl s.bl[j] (List.getElem_mem hlt)
      have hgj := beingsGood_at s.next (s.bl.map BV.m) 0 j (by omega) (by omega) g7
      rw [List.getElem_map] at hgj
      unfold f20_5
      refine kfld_of ?_
      refine kld_of (v := .slice s.ba s.bl.length s.bc) hb1 rfl ?_
      refine kixldN_of (F := BV.cells) (fun _ => rfl) (by omega) (hba.same hm) hlt rfl ?_
      generalize s.bl[j] = q at *
      obtain ⟨hid, hpok, hsl⟩ := hbj
      obtain ⟨k1, k2, k3, k4⟩ := hgj
      have k1 : lastId 0 ((s.bl.map BV.m).take j) < q.id := k1
      have k2 : q.id < s.next := k2
      have k3 : partsGood (-1) q.parts = true := k3
      have hall := partsGood_all q.parts (-1) k3
      have hplen := partsGood_len q.parts (-1) (by omega) (by omega) k3
      have hpk : ∀ p ∈ q.parts, p.ok ∧ 0 ≤ p.tick := fun p hp => ⟨hpok p hp, (hall p hp).2.2.1⟩
      have hbB := beingB_len (b := q.m) (last := lastId 0 ((s.bl.map BV.m).take j)) hpk (by show q.parts.length ≤ 16; omega) (by show q.id - _ ≤ _; omega)
      have hsn := beingsB_snoc ((s.bl.map BV.m).take j) 0 q.m
      rw [← htk] at hsn
      have hln := lastId_snoc ((s.bl.map BV.m).take j) 0 q.m
      rw [← htk] at hln
      generalize lastId 0 ((s.bl.map BV.m).take j) = last at *
      generalize beingsB 0 ((s.bl.map BV.m).take j) = bb at *
      refine knew_of fun w54 h54 hs54 hb54 => ?_
      refine kst_of (vs := q.cells) hb54 rfl rfl rfl (by simp) (by simp [BV.cells]) fun w55 h55 hs55 hb55 => ?_
      have h55' : Same wl w55.drew := (Mod.after h54 h55 (fun b hb => by omega)).drew
      have hb55 : blk w55.drew wl.heap.size = some (.cells q.cells.toArray 85) := hb55
      generalize w55.drew = we at *
      refine kfld_of ?_
      refine kld_of (v := .int .i64 q.id) hb55 rfl ?_
      refine kG_of rfl ?_
      rw [kint_sub, wrap_i64 (by omega) (by omega)]
      refine kcall_of (refCount_spec (q.id - last) (by omega) (by omega) we) ?_
      rintro v w60 ⟨rfl, h60⟩
      have q1 := groupsF_len64 (n := (q.id - last).toNat) (by omega)
      rw [kstr_add, bs_size, bs_size, bs_append]
      refine kG_of (by simp only [List.length_append]; omega) ?_
      have hb60 := h60.get hb55 (fun h => h)
      refine kfld_of ?_
      refine kld_of (v := .slice q.pa q.parts.length q.pc) hb60 rfl ?_
      refine kG_of rfl ?_
      refine kG_of (kld_of (v := .slice q.pa q.parts.length q.pc) hb55 rfl ⟨rfl, rfl⟩) ?_
      have m60 := hm.trans (h55'.trans h60)
      refine kcall_of (refMask_spec q.parts (fun p hp => by have := hall p hp; omega) (by omega) q.pa q.pc (hsl.same m60)) ?_
      rintro v w65 ⟨rfl, rfl⟩
      have hhas := hasF_lt q.parts
      rw [msk, kcnv_int, wrap_i64 (by omega) (by omega)]
      refine kcall_of (refCount_spec (hasF q.parts : Int) (by omega) (by omega) w65) ?_
      rintro v w68 ⟨rfl, h68⟩
      have q2 := groupsF_len64 (n := hasF q.parts) (by omega)
      rw [kstr_add, bs_size, bs_size, bs_append, Int.toNat_natCast]
      refine kG_of (by simp only [List.length_append]; omega) ?_
      have hb68 := h68.get hb60 (fun h => h)
      have m68 := m60.trans h68
      refine kfld_of ?_
      refine kld_of (v := .int .i64 q.id) hb68 rfl ?_
      have hpl3 : (((pre2 ++ bb) ++ groupsF (q.id - last).toNat) ++ groupsF (hasF q.parts)).length ≤ 100000 := by simp only [List.length_append]; omega
      have hfin : (((pre2 ++ bb) ++ groupsF (q.id - last).toNat) ++ groupsF (hasF q.parts)) ++ q.parts.flatMap partB = pre2 ++ beingsB 0 ((s.bl.map BV.m).take (j + 1)) := by
        rw [hsn]; unfold beingB BV.m; simp
      generalize ((pre2 ++ bb) ++ groupsF (q.id - last).toNat) ++ groupsF (hasF q.parts) = pre3 at *
      refine kL_of (RC q.parts pre3 w68 wl.heap.size q.cells) (fun _ x _ => q.parts.length - (RowKit.intOf x).toNat) ⟨⟨0, by omega, rfl, by simp, Mod.refl _ _, hb68⟩, ?_⟩
      rintro x3 x8 wk ⟨k, hk, rfl, rfl, hmk, hbQ⟩
      have hpkl := partsB_len (l := q.parts.take k) (fun p hp => hpk p (List.mem_of_mem_take hp))
      have htkl : (q.parts.take k).length ≤ 16 := by rw [List.length_take]; omega
      unfold f20_6
      refine kfld_of ?_
      refine kld_of (v := .slice q.pa q.parts.length q.pc) hbQ rfl ?_
      rw [klen_slice, kint_lss, kB_bool]
      refine kIf_dec (fun hlt2 => ?_) (fun hge2 => ?_)
      · have hlt2 : k < q.parts.length := by omega
        have htk2 : (q.parts.take (k + 1)).flatMap partB = (q.parts.take k).flatMap partB ++ partB q.parts[k] := by rw [List.take_succ_eq_append_getElem hlt2, List.flatMap_append, List.flatMap_cons, List.flatMap_nil, List.append_nil]
        refine refPart hbQ (hsl.same (m68.trans hmk)) hpk hlt2 (by omega) (pre3 ++ (q.parts.take k).flatMap partB) (by rw [List.length_append]; omega) _ _ _ _ _ _ fun w' hw' => ?_
        exact ⟨⟨k + 1, by omega, rfl, by rw [htk2, List.append_assoc], hmk.trans hw', hw'.get hbQ (fun h => h)⟩, by simp only [RowKit.intOf, Int.toNat_natCast]; omega⟩
      · have : k = q.parts.length := by omega
        subst this
        rw [List.take_length, hfin]
        unfold f20_17
        rw [kint_add, i64_succ (by omega)]
        refine ⟨⟨j + 1, by omega, rfl, ?_, rfl, ?_, m68.trans hmk, (h55'.trans (h60.trans (h68.trans hmk))).get hb1 (fun h => h)⟩, by simp only [RowKit.intOf, Int.toNat_natCast]; omega⟩
        · rw [hln]; rfl
        · rw [hsn, List.length_append]; omega
    · have : j = s.bl.length := by omega
      subst this
      rw [List.take_of_length_le (by omega), htot]
      unfold f20_18
      exact ⟨rfl, hm⟩
end Go.Proofs.YtcabkicjboedaaaDoor
end
section
namespace Go.Proofs.YtcabkicjboedaaaDoor
open Go Go.Ev
set_option linter.unusedVariables false
set_option linter.unusedSimpArgs false
set_option maxRecDepth 100000

/-! ### What is read is what is written -/
theorem numF_back {great : Nat} {r : RS} (h : (numF great r).2.bad = false) : r.bad = false ∧ r.rest = groupsF (numF great r).1 ++ (numF great r).2.rest ∧ (numF great r).1 < 18446744073709551616 := by
  unfold numF at h ⊢
  split at h
  · rename_i hb; rw [hb] at h; cases h
  · rename_i hb
    rw [if_neg hb]
    split at h
    · cases h
    · rename_i hc
      rw [if_neg hc]
      refine ⟨by simpa using hb, ?_⟩
      simp only
      unfold parseF at hc ⊢
      cases hp : parseGo r.rest 0 0 with
      | none => rw [hp] at hc; simp at hc
      | some p =>
        obtain ⟨m, k⟩ := p
        obtain ⟨n, h1, h2, h3, h4, h5, h6⟩ := groups_parse r.rest 0 0 m k hp
        simp only [Nat.mul_zero, Nat.pow_zero, Nat.mul_one, Nat.zero_add] at h1 h3
        subst h1
        simp only [Option.getD_some]
        exact ⟨by simpa using h5, h3⟩
theorem byteF_back {r : RS} (h : (byteF r).2.bad = false) : r.bad = false ∧ r.rest = UInt8.ofNat (byteF r).1 :: (byteF r).2.rest := by
  unfold byteF at h ⊢
  split at h
  · rename_i hb; rw [hb] at h; cases h
  · rename_i hb
    rw [if_neg hb]
    obtain ⟨rest, bad⟩ := r
    cases rest with
    | nil => cases h
    | cons b t => exact ⟨by simpa using hb, by simp⟩
def SC.good (s : SC) : Prop := s.bad = false ∧ s.r.bad = false
theorem scCount_back {most : Int} {s : SC} (h : (scCount most s).2.good) : s.good ∧ ((scCount most s).1 : Int) ≤ most ∧ s.r.rest = groupsF (scCount most s).1 ++ (scCount most s).2.r.rest := by
  obtain ⟨h1, h2⟩ := h
  have h1' : (s.bad || !decide (((numF M63 s.r).1 : Int) ≤ most)) = false := h1
  have h2' : (numF M63 s.r).2.bad = false := h2
  have hb := numF_back h2'
  simp only [Bool.or_eq_false_iff, Bool.not_eq_false', decide_eq_true_eq] at h1'
  have e : (scCount most s).1 = (numF M63 s.r).1 := by unfold scCount; simp only; rw [if_neg (by simp [h1'])]
  have e2 : (scCount most s).2.r = (numF M63 s.r).2 := rfl
  rw [e, e2]
  exact ⟨⟨h1'.1, hb.1⟩, h1'.2, hb.2.1⟩
theorem valsF_back (n : Int) (s : SC) : ∀ i, (valsF n s i).2.good → s.good ∧ s.r.rest = numsB (valsF n s i).1 ++ (valsF n s i).2.r.rest ∧ ∀ (j : Nat) (z : Int), (valsF n s i).1[j]? = some z → ((j : Int) < n - 1 ∨ z ≠ 0)
  | 0, h => ⟨h, by simp [valsF, numsB], by intro j z h; simp [valsF] at h⟩
  | i + 1, h => by
    obtain ⟨h1, h2⟩ := h
    have h1' : ((valsF n s i).2.bad || !(decide ((i : Int) < n - 1) || decide (unzz (numF M64 (valsF n s i).2.r).1 ≠ 0))) = false := h1
    have hb := numF_back (show (numF M64 (valsF n s i).2.r).2.bad = false from h2)
    simp only [Bool.or_eq_false_iff, Bool.not_eq_false', Bool.or_eq_true, decide_eq_true_eq] at h1'
    obtain ⟨i1, i2, i3⟩ := valsF_back n s i ⟨h1'.1, hb.1⟩
    refine ⟨i1, ?_, ?_⟩
    · show s.r.rest = numsB ((valsF n s i).1 ++ [unzz (numF M64 (valsF n s i).2.r).1]) ++ (numF M64 (valsF n s i).2.r).2.rest
      rw [numsB_snoc, zz_unzz, i2]
      conv => lhs; rw [hb.2.1]
      rw [List.append_assoc]
    · intro j z hz
      have hz : ((valsF n s i).1 ++ [unzz (numF M64 (valsF n s i).2.r).1])[j]? = some z := hz
      have hl := valsF_len1 n s i
      by_cases hj : j < i
      · rw [List.getElem?_append_left (by omega)] at hz
        exact i3 j z hz
      · rw [List.getElem?_append_right (by omega)] at hz
        have : j = i := by
          have := (List.getElem?_eq_some_iff.1 hz).1
          simp at this; omega
        subst this
        rw [hl, Nat.sub_self] at hz
        simp at hz
        rcases h1'.2 with h | h
        · exact .inl h
        · exact .inr (by rw [← hz]; exact h)
theorem trim_pad (comp tick : Int) (zs : List Int) (h4 : zs.length ≤ 4) (hz : ∀ (j : Nat) (z : Int), zs[j]? = some z → ((j : Int) < zs.length - 1 ∨ z ≠ 0)) :
    trimN ⟨comp, zs.getD 0 0, zs.getD 1 0, zs.getD 2 0, zs.getD 3 0, tick⟩ = zs.length ∧ (Part.vals ⟨comp, zs.getD 0 0, zs.getD 1 0, zs.getD 2 0, zs.getD 3 0, tick⟩).take zs.length = zs := by
  match zs, h4, hz with
  | [], _, _ => exact ⟨rfl, rfl⟩
  | [a], _, hz =>
    have := hz 0 a rfl
    have ha : a ≠ 0 := by simpa using this
    exact ⟨by simp [trimN, ha], rfl⟩
  | [a, b], _, hz =>
    have := hz 1 b rfl
    have ha : b ≠ 0 := by simpa using this
    exact ⟨by simp [trimN, ha], rfl⟩
  | [a, b, c], _, hz =>
    have := hz 2 c rfl
    have ha : c ≠ 0 := by simpa using this
    exact ⟨by simp [trimN, ha], rfl⟩
  | [a, b, c, d], _, hz =>
    have := hz 3 d rfl
    have ha : d ≠ 0 := by simpa using this
    exact ⟨by simp [trimN, ha], rfl⟩
theorem partF_back {comp : Int} {s : SC} (h : (partF comp s).2.good) : s.good ∧ s.r.rest = partB (partF comp s).1 ++ (partF comp s).2.r.rest ∧ (partF comp s).1.comp = comp := by
  obtain ⟨h1, h2⟩ := h
  have hn := numF_back (show (numF M63 (valsF (byteF s.r).1 ⟨(byteF s.r).2, s.bad || !decide (((byteF s.r).1 : Int) ≤ 4)⟩ (min (byteF s.r).1 4)).2.r).2.bad = false from h2)
  have hv := valsF_back (byteF s.r).1 ⟨(byteF s.r).2, s.bad || !decide (((byteF s.r).1 : Int) ≤ 4)⟩ (min (byteF s.r).1 4) ⟨h1, hn.1⟩
  obtain ⟨⟨v1, v2⟩, v3, v4⟩ := hv
  have v1' : (s.bad || !decide (((byteF s.r).1 : Int) ≤ 4)) = false := v1
  simp only [Bool.or_eq_false_iff, Bool.not_eq_false', decide_eq_true_eq] at v1'
  have hb := byteF_back (show (byteF s.r).2.bad = false from v2)
  refine ⟨⟨v1'.1, hb.1⟩, ?_, rfl⟩
  have hmin : min (byteF s.r).1 4 = (byteF s.r).1 := by omega
  have hlen := valsF_len1 (byteF s.r).1 ⟨(byteF s.r).2, s.bad || !decide (((byteF s.r).1 : Int) ≤ 4)⟩ (min (byteF s.r).1 4)
  have hF : partF comp s = (⟨comp, (valsF (byteF s.r).1 ⟨(byteF s.r).2, s.bad || !decide (((byteF s.r).1 : Int) ≤ 4)⟩ (min (byteF s.r).1 4)).1.getD 0 0, (valsF (byteF s.r).1 ⟨(byteF s.r).2, s.bad || !decide (((byteF s.r).1 : Int) ≤ 4)⟩ (min (byteF s.r).1 4)).1.getD 1 0, (valsF (byteF s.r).1 ⟨(byteF s.r).2, s.bad || !decide (((byteF s.r).1 : Int) ≤ 4)⟩ (min (byteF s.r).1 4)).1.getD 2 0, (valsF (byteF s.r).1 ⟨(byteF s.r).2, s.bad || !decide (((byteF s.r).1 : Int) ≤ 4)⟩ (min (byteF s.r).1 4)).1.getD 3 0, (numF M63 (valsF (byteF s.r).1 ⟨(byteF s.r).2, s.bad || !decide (((byteF s.r).1 : Int) ≤ 4)⟩ (min (byteF s.r).1 4)).2.r).1⟩, ⟨(numF M63 (valsF (byteF s.r).1 ⟨(byteF s.r).2, s.bad || !decide (((byteF s.r).1 : Int) ≤ 4)⟩ (min (byteF s.r).1 4)).2.r).2, (valsF (byteF s.r).1 ⟨(byteF s.r).2, s.bad || !decide (((byteF s.r).1 : Int) ≤ 4)⟩ (min (byteF s.r).1 4)).2.bad⟩) := rfl
  rw [hF]
  simp only at v3
  generalize hV : valsF (byteF s.r).1 ⟨(byteF s.r).2, s.bad || !decide (((byteF s.r).1 : Int) ≤ 4)⟩ (min (byteF s.r).1 4) = V at *
  rw [hmin] at hlen
  obtain ⟨t1, t2⟩ := trim_pad comp ((numF M63 V.2.r).1 : Int) V.1 (by omega) (fun j z hz => by have := v4 j z hz; omega)
  simp only
  unfold partB
  rw [t1, t2, hlen]
  conv => lhs; rw [hb.2, v3, hn.2.1]
  simp
theorem partsF_back : ∀ (comps : List Nat) (p : List Part × SC), (comps.foldl partsStep p).2.good →
    p.2.good ∧ ∃ new, (comps.foldl partsStep p).1 = p.1 ++ new ∧ p.2.r.rest = new.flatMap partB ++ (comps.foldl partsStep p).2.r.rest ∧ new.map (·.comp) = comps.map fun c : Nat => (c : Int)
  | [], p, h => ⟨h, [], by simp, by simp, rfl⟩
  | c :: comps, p, h => by
    obtain ⟨h1, new, h2, h3, h4⟩ := partsF_back comps (partsStep p c) h
    have e : (List.foldl partsStep p (c :: comps)) = List.foldl partsStep (partsStep p c) comps := rfl
    rw [e, h2]
    generalize hT : (List.foldl partsStep (partsStep p c) comps) = T at *
    unfold partsStep at h1 h3 ⊢
    by_cases hb : p.2.bad = true
    · rw [if_pos hb] at h1
      exact absurd h1.1 (by rw [hb]; decide)
    · rw [if_neg hb] at h1 h3 ⊢
      obtain ⟨g1, g2, g3⟩ := partF_back (comp := (c : Int)) h1
      refine ⟨g1, (partF c p.2).1 :: new, by simp, ?_, by simp [g3, h4]⟩
      rw [g2, List.flatMap_cons, List.append_assoc, ← h3]
theorem hasF_bits : ∀ (l : List Part), (∀ p ∈ l, 0 ≤ p.comp ∧ p.comp < 32) → ∀ i, (hasF l).testBit i = l.any (fun p => decide (p.comp = (i : Int))) := by
  intro l h i
  have key : ∀ (l : List Part) (m : Nat), (∀ p ∈ l, 0 ≤ p.comp ∧ p.comp < 32) → (l.foldl (fun m p => m ||| bitF p.comp) m).testBit i = (m.testBit i || l.any (fun p => decide (p.comp = (i : Int)))) := by
    intro l
    induction l with
    | nil => intro m _; simp
    | cons p l ih =>
      intro m hl
      obtain ⟨p0, p1⟩ := hl p (by simp)
      rw [List.foldl_cons, ih _ (fun q hq => hl q (by simp [hq])), Nat.testBit_or, List.any_cons]
      have e : (bitF p.comp).testBit i = decide (p.comp = (i : Int)) := by
        unfold bitF
        rw [if_neg (by omega), if_neg (by omega), Nat.testBit_two_pow]
        simp only [decide_eq_decide]; omega
      rw [e, Bool.or_assoc]
  have := key l 0 h
  simpa [hasF] using this
theorem hasF_listF {l : List Part} {m : Nat} (hm : m < 4294967296) (h : l.map (·.comp) = (listF m).map fun c : Nat => (c : Int)) : hasF l = m := by
  have hl : ∀ p ∈ l, 0 ≤ p.comp ∧ p.comp < 32 := by
    intro p hp
    have : p.comp ∈ (listF m).map fun c : Nat => (c : Int) := by rw [← h]; exact List.mem_map_of_mem hp
    obtain ⟨c, hc, e⟩ := List.mem_map.1 this
    have := listF_lt m c hc
    omega
  apply Nat.eq_of_testBit_eq
  intro i
  rw [hasF_bits l hl]
  have e : l.any (fun p => decide (p.comp = (i : Int))) = ((listF m).map fun c : Nat => (c : Int)).any (fun c => decide (c = (i : Int))) := by
    rw [← h, List.any_map]; rfl
  rw [e, List.any_map]
  by_cases hi : i < 32
  · cases hb : m.testBit i with
    | true =>
      rw [List.any_eq_true]
      exact ⟨i, by unfold listF; simp [hi, hb], by simp⟩
    | false =>
      rw [List.any_eq_false]
      intro c hc
      simp only [Function.comp, decide_eq_true_eq]
      intro e
      have : c = i := by omega
      subst this
      unfold listF at hc
      simp [hb] at hc
  · rw [Nat.testBit_lt_two_pow (Nat.lt_of_lt_of_le hm (show 2 ^ 32 ≤ 2 ^ i from Nat.pow_le_pow_right (by omega) (by omega))), List.any_eq_false]
    intro c hc
    have := listF_lt m c hc
    simp only [Function.comp, decide_eq_true_eq]
    omega
theorem beingF_back {last : Int} {s : SC} (h : (beingF last s).2.good) : s.good ∧ s.r.rest = beingB last (beingF last s).1 ++ (beingF last s).2.r.rest := by
  obtain ⟨h1, new, h2, h3, h4⟩ := partsF_back (listF (numF M32 (scCount 1073741824 s).2.r).1) ([], ⟨(numF M32 (scCount 1073741824 s).2.r).2, (scCount 1073741824 s).2.bad || !decide ((numF M32 (scCount 1073741824 s).2.r).1 / 65536 = 0)⟩) h
  obtain ⟨k1, k2⟩ := h1
  have k1' : ((scCount 1073741824 s).2.bad || !decide ((numF M32 (scCount 1073741824 s).2.r).1 / 65536 = 0)) = false := k1
  simp only [Bool.or_eq_false_iff, Bool.not_eq_false', decide_eq_true_eq] at k1'
  have hn := numF_back (show (numF M32 (scCount 1073741824 s).2.r).2.bad = false from k2)
  obtain ⟨c1, c2, c3⟩ := scCount_back (most := 1073741824) (s := s) ⟨k1'.1, hn.1⟩
  refine ⟨c1, ?_⟩
  have hhas := hasF_listF (l := new) (m := (numF M32 (scCount 1073741824 s).2.r).1) (by omega) h4
  have hB : (beingF last s).1 = ⟨last + (scCount 1073741824 s).1, new⟩ := by
    have : (beingF last s).1 = ⟨last + (scCount 1073741824 s).1, (partsF ⟨(numF M32 (scCount 1073741824 s).2.r).2, (scCount 1073741824 s).2.bad || !decide ((numF M32 (scCount 1073741824 s).2.r).1 / 65536 = 0)⟩ (listF (numF M32 (scCount 1073741824 s).2.r).1)).1⟩ := rfl
    rw [this]
    unfold partsF
    rw [h2]; simp
  have hT : (beingF last s).2 = (List.foldl partsStep ([], (⟨(numF M32 (scCount 1073741824 s).2.r).2, (scCount 1073741824 s).2.bad || !decide ((numF M32 (scCount 1073741824 s).2.r).1 / 65536 = 0)⟩ : SC)) (listF (numF M32 (scCount 1073741824 s).2.r).1)).2 := rfl
  rw [hB, hT]
  unfold beingB
  simp only [hhas]
  have e : (last + ((scCount 1073741824 s).1 : Int) - last).toNat = (scCount 1073741824 s).1 := by omega
  rw [e]
  conv => lhs; rw [c3, hn.2.1]
  simp only at h3
  rw [h3]
  simp
theorem resF_back (s : SC) : ∀ i, (resF s i).2.good → s.good ∧ s.r.rest = numsB (resF s i).1 ++ (resF s i).2.r.rest
  | 0, h => ⟨h, by simp [resF, numsB]⟩
  | i + 1, h => by
    have hb := numF_back (show (numF M64 (resF s i).2.r).2.bad = false from h.2)
    obtain ⟨i1, i2⟩ := resF_back s i ⟨h.1, hb.1⟩
    refine ⟨i1, ?_⟩
    show s.r.rest = numsB ((resF s i).1 ++ [unzz (numF M64 (resF s i).2.r).1]) ++ (numF M64 (resF s i).2.r).2.rest
    rw [numsB_snoc, zz_unzz, i2]
    conv => lhs; rw [hb.2.1]
    rw [List.append_assoc]
theorem bgsF_back (s : SC) : ∀ i, (bgsF s i).2.good → s.good ∧ s.r.rest = beingsB 0 (bgsF s i).1.1 ++ (bgsF s i).2.r.rest ∧ (bgsF s i).1.2 = lastId 0 (bgsF s i).1.1
  | 0, h => ⟨h, by simp [bgsF, beingsB], rfl⟩
  | i + 1, h => by
    obtain ⟨b1, b2⟩ := beingF_back (show (beingF (bgsF s i).1.2 (bgsF s i).2).2.good from h)
    obtain ⟨i1, i2, i3⟩ := bgsF_back s i b1
    refine ⟨i1, ?_, ?_⟩
    · show s.r.rest = beingsB 0 ((bgsF s i).1.1 ++ [(beingF (bgsF s i).1.2 (bgsF s i).2).1]) ++ (beingF (bgsF s i).1.2 (bgsF s i).2).2.r.rest
      rw [beingsB_snoc, ← i3, List.append_assoc, ← b2, i2]
    · show (beingF (bgsF s i).1.2 (bgsF s i).2).1.id = lastId 0 ((bgsF s i).1.1 ++ [(beingF (bgsF s i).1.2 (bgsF s i).2).1])
      rw [lastId_snoc]
/-- WHAT IS READ IS WHAT IS WRITTEN. -/
theorem read_law (l : List UInt8) (h : okEnd (readF l).1 (readF l).2 = true) : bytesF (readF l).1 = l ∧ goodF (readF l).1 = true := by
  unfold okEnd at h
  simp only [Bool.and_eq_true, Bool.not_eq_true', decide_eq_true_eq] at h
  obtain ⟨h1, h2, h3, h4⟩ := h
  refine ⟨?_, h4⟩
  have hq := bgsF_back (scCount 64 (resF (scCount 8 (head3 l).2).2 (scCount 8 (head3 l).2).1).2).2 (scCount 64 (resF (scCount 8 (head3 l).2).2 (scCount 8 (head3 l).2).1).2).1 ⟨h1, h2⟩
  obtain ⟨q1, q2, _⟩ := hq
  obtain ⟨n1, n2, n3⟩ := scCount_back q1
  obtain ⟨p1, p2⟩ := resF_back _ _ n1
  obtain ⟨k1, k2, k3⟩ := scCount_back p1
  have c0 := numF_back (show (numF M64 (numF M63 (numF M63 ⟨l, false⟩).2).2).2.bad = false from k1.2)
  have b0 := numF_back c0.1
  have a0 := numF_back b0.1
  have hm : (readF l).1 = ⟨((numF M63 ⟨l, false⟩).1 : Int), ((numF M63 (numF M63 ⟨l, false⟩).2).1 : Int), unzz (numF M64 (numF M63 (numF M63 ⟨l, false⟩).2).2).1,
    (bgsF (scCount 64 (resF (scCount 8 (head3 l).2).2 (scCount 8 (head3 l).2).1).2).2 (scCount 64 (resF (scCount 8 (head3 l).2).2 (scCount 8 (head3 l).2).1).2).1).1.1, (resF (scCount 8 (head3 l).2).2 (scCount 8 (head3 l).2).1).1⟩ := rfl
  have hr : (readF l).2 = (bgsF (scCount 64 (resF (scCount 8 (head3 l).2).2 (scCount 8 (head3 l).2).1).2).2 (scCount 64 (resF (scCount 8 (head3 l).2).2 (scCount 8 (head3 l).2).1).2).1).2 := rfl
  have hh : (head3 l).2.r = (numF M64 (numF M63 (numF M63 ⟨l, false⟩).2).2).2 := rfl
  rw [hr] at h3
  rw [hm]
  unfold bytesF
  simp only [Int.toNat_natCast, zz_unzz, resF_len, bgsF_len]
  have e1 : l = groupsF (numF M63 ⟨l, false⟩).1 ++ (numF M63 ⟨l, false⟩).2.rest := a0.2.1
  have e4 := k3
  rw [hh] at e4
  rw [h3, List.append_nil] at q2
  conv => rhs; rw [e1, b0.2.1, c0.2.1, e4, p2, n3, q2]
end Go.Proofs.YtcabkicjboedaaaDoor
end
section
namespace Go.Proofs.YtcabkicjboedaaaDoor
open Go Go.Ev
set_option linter.unusedVariables false
set_option maxRecDepth 100000

/-! pasodoble/pasodoblelaw22.awake -/
def f15 (Q : Value → World → Prop) (w : World) : Prop :=
  kbld [(.int .i64 0), (.int .i64 0), (.int .i64 0), (.slice none 0 0), (.slice none 0 0)] [(1, 1, (.int .i64 1))] fun v1 =>
  kcall Tryd.prog 22 #[v1] w fun v2 w3 =>
  kext v2 0 fun v4 =>
  kext v2 1 fun v5 =>
  kcall Tryd.prog 16 #[v4] w3 fun v6 w7 =>
  kext v6 0 fun v8 =>
  kext v6 1 fun v9 =>
  knew #[(.int .i64 0), (.int .i64 0), (.int .i64 0), (.slice none 0 0), (.slice none 0 0)] 55 w7 fun v10 w11 =>
  kst 5 v10 v8 w11 fun w12 =>
  kbld [(.int .i64 0), (.slice none 0 0)] [(0, 1, (.int .i64 3))] fun v13 =>
  kbldS [(.int .i64 0), (.slice none 0 0)] 1 [(0, 2, v13)] 85 w12 fun v14 w15 =>
  kbld [(.int .i64 0), (.int .i64 0), (.int .i64 0), (.slice none 0 0), (.slice none 0 0)] [(3, 1, v14)] fun v16 =>
  kbld [(.int .i64 0), (.int .i64 0), (.int .i64 0), (.int .i64 0), (.int .i64 0), (.int .i64 0)] [] fun v17 =>
  kbldS [(.int .i64 0), (.int .i64 0), (.int .i64 0), (.int .i64 0), (.int .i64 0), (.int .i64 0)] 1 [(0, 6, v17)] 73 w15 fun v18 w19 =>
  kbld [(.int .i64 0), (.slice none 0 0)] [(0, 1, (.int .i64 3)), (1, 1, v18)] fun v20 =>
  kbldS [(.int .i64 0), (.slice none 0 0)] 1 [(0, 2, v20)] 85 w19 fun v21 w22 =>
  kbld [(.int .i64 0), (.int .i64 0), (.int .i64 0), (.slice none 0 0), (.slice none 0 0)] [(3, 1, v21)] fun v23 =>
  kcall Tryd.prog 24 #[v16, v23] w22 fun v24 w25 =>
  kext v24 0 fun v26 =>
  kext v24 1 fun v27 =>
  kstr .add v4 (.string ⟨#[120]⟩) fun v28 =>
  kcall Tryd.prog 16 #[v28] w25 fun v29 w30 =>
  kext v29 0 fun v31 =>
  kext v29 1 fun v32 =>
  knew #[(.int .i64 0), (.int .i64 0), (.int .i64 0), (.slice none 0 0), (.slice none 0 0)] 55 w30 fun v33 w34 =>
  kst 5 v33 v31 w34 fun w35 =>
  keq Tryd.prog .eql 36 false true v5 .nilIface w35 fun v36 w37 =>
  kB v36 fun b38 => kIf b38
  (kstr .eql v4 (.string ⟨#[0, 1, 0, 0, 0]⟩) fun v39 =>
  kB v39 fun b40 => kIf b40
  (keq Tryd.prog .eql 36 false true v9 .nilIface w37 fun v41 w42 =>
  kB v41 fun b43 => kIf b43
  (kldN 5 v10 w42 fun v44 =>
  kbld [(.int .i64 0), (.int .i64 0), (.int .i64 0), (.slice none 0 0), (.slice none 0 0)] [(1, 1, (.int .i64 1))] fun v45 =>
  kcall Tryd.prog 18 #[v44, v45] w42 fun v46 w47 =>
  kB v46 fun b48 => kIf b48
  (kstr .eql v26 (.string ⟨#[98, 101, 105, 110, 103, 32, 51]⟩) fun v49 =>
  kB v49 fun b50 => kIf b50
  (kB v27 fun b51 => kIf b51
  (kld (.pointer (some ⟨0, 0, none⟩)) w47 fun v52 =>
  kcall Tryd.prog 17 #[v32, v52] w47 fun v53 w54 =>
  Q v53 w54)
  (Q (.bool false) w47))
  (Q (.bool false) w47))
  (Q (.bool false) w47))
  (Q (.bool false) w42))
  (Q (.bool false) w37))
  (Q (.bool false) w37)

theorem f15_eq (Q : Value → World → Prop) (w : World) : f15 Q w = fnVC Tryd.prog Tryd.f15 [] (Tryd.f15.body.get rfl) [] w Q := by kernel_rfl
theorem f15_ok {Q : Value → World → Prop} {w : World} (h : f15 Q w) : Meets Tryd.prog 15 #[] w Q :=
  sound (c := (Tryd.f15.body.get rfl)) [] Tryd.func15 rfl rfl (args := []) rfl (Eq.mp (f15_eq Q w) h)

/-! pasodoble/pasodoblelaw22.SealReads -/
def f5_2 (x0 : Value) (x3 : Value) (Q : Value → World → Prop) (w : World) : Prop :=
  kldN 5 x3 w fun v24 =>
  kcall Tryd.prog 19 #[v24] w fun v25 w26 =>
  kB v25 fun b27 => kIf b27
  (kldN 5 x3 w26 fun v28 =>
  kcall Tryd.prog 20 #[v28] w26 fun v29 w30 =>
  kstr .eql v29 x0 fun v31 =>
  Q v31 w30)
  (Q (.bool false) w26)

def f5_1 (x0 : Value) (Q : Value → World → Prop) (w : World) : Prop :=
  kcall Tryd.prog 16 #[x0] w fun v7 w8 =>
  kext v7 0 fun v9 =>
  kext v7 1 fun v10 =>
  knew #[(.int .i64 0), (.int .i64 0), (.int .i64 0), (.slice none 0 0), (.slice none 0 0)] 55 w8 fun v11 w12 =>
  kst 5 v11 v9 w12 fun w13 =>
  keq Tryd.prog .neq 36 false true v10 .nilIface w13 fun v14 w15 =>
  kB v14 fun b32 => kIf b32
  (kld (.pointer (some ⟨0, 0, none⟩)) w15 fun v16 =>
  kcall Tryd.prog 17 #[v10, v16] w15 fun v17 w18 =>
  kB v17 fun b19 => kIf b19
  (kldN 5 v11 w18 fun v20 =>
  kbld [(.int .i64 0), (.int .i64 0), (.int .i64 0), (.slice none 0 0), (.slice none 0 0)] [] fun v21 =>
  kcall Tryd.prog 18 #[v20, v21] w18 fun v22 w23 =>
  Q v22 w23)
  (Q (.bool false) w18))
  (f5_2 x0 v11 Q w15)

def f5_0 (x0 : Value) (Q : Value → World → Prop) (w : World) : Prop :=
  klenStr x0 fun v4 =>
  kint .i64 .gtr v4 (.int .i64 16384) fun v6 =>
  kB v6 fun b33 => kIf b33
  (Q (.bool true) w)
  (f5_1 x0 Q w)

def f5 (x0 : Value) (Q : Value → World → Prop) (w : World) : Prop :=
  kcall Tryd.prog 15 #[] w fun v1 w2 =>
  kun .not (some .bool) v1 fun v3 =>
  kB v3 fun b34 => kIf b34
  (Q (.bool false) w2)
  (f5_0 x0 Q w2)

theorem f5_eq (x0 : Value) (Q : Value → World → Prop) (w : World) : f5 x0 Q w = fnVC Tryd.prog Tryd.f5 [] (Tryd.f5.body.get rfl) [x0] w Q := by kernel_rfl
theorem f5_ok {x0 : Value} {Q : Value → World → Prop} {w : World} (h : f5 x0 Q w) : Meets Tryd.prog 5 #[x0] w Q :=
  sound (c := (Tryd.f5.body.get rfl)) [] Tryd.func5 rfl rfl (args := [x0]) rfl (Eq.mp (f5_eq x0 Q w) h)

/-! pasodoble/pasodoblelaw22.SealCuts -/
def f6_3 (x1 : Value) (x2 : Value) (x7 : Value) (Q : Value → World → Prop) (w : World) : Prop :=
  kcnv .u64 x1 fun v20 =>
  klenStr x7 fun v21 =>
  kcnv .u64 v21 fun v23 =>
  kint .u64 .rem v20 v23 fun v24 =>
  kcnv .i64 v24 fun v25 =>
  ksl (some .string) none x7 none (some v25) fun v26 =>
  kcall Tryd.prog 16 #[v26] w fun v27 w28 =>
  kext v27 0 fun v29 =>
  kext v27 1 fun v30 =>
  knew #[(.int .i64 0), (.int .i64 0), (.int .i64 0), (.slice none 0 0), (.slice none 0 0)] 55 w28 fun v31 w32 =>
  kst 5 v31 v29 w32 fun w33 =>
  kstr .add x7 x2 fun v34 =>
  kcall Tryd.prog 16 #[v34] w33 fun v35 w36 =>
  kext v35 0 fun v37 =>
  kext v35 1 fun v38 =>
  knew #[(.int .i64 0), (.int .i64 0), (.int .i64 0), (.slice none 0 0), (.slice none 0 0)] 55 w36 fun v39 w40 =>
  kst 5 v39 v37 w40 fun w41 =>
  keq Tryd.prog .neq 36 false true v30 .nilIface w41 fun v42 w43 =>
  kB v42 fun b44 => kIf b44
  (keq Tryd.prog .eql 36 false true v38 .nilIface w43 fun v45 w46 =>
  kstr .eql x2 (.string ⟨#[]⟩) fun v47 =>
  kbool .eql v45 v47 fun v48 =>
  Q v48 w46)
  (Q (.bool false) w43)

def f6_2 (x1 : Value) (x2 : Value) (x3 : Value) (Q : Value → World → Prop) (w : World) : Prop :=
  kldN 5 x3 w fun v13 =>
  kcall Tryd.prog 22 #[v13] w fun v14 w15 =>
  kext v14 0 fun v16 =>
  kext v14 1 fun v17 =>
  keq Tryd.prog .neq 36 false true v17 .nilIface w15 fun v18 w19 =>
  kB v18 fun b49 => kIf b49
  (Q (.bool true) w19)
  (f6_3 x1 x2 v16 Q w19)

def f6_1 (x1 : Value) (x2 : Value) (x3 : Value) (x21 : Value) (Q : Value → World → Prop) (w : World) : Prop :=
  kB x21 fun b50 => kIf b50
  (Q (.bool true) w)
  (f6_2 x1 x2 x3 Q w)

def f6_0 (x1 : Value) (x2 : Value) (x3 : Value) (Q : Value → World → Prop) (w : World) : Prop :=
  kldN 5 x3 w fun v6 =>
  kcall Tryd.prog 21 #[v6] w fun v7 w8 =>
  kB v7 fun b9 => kIf (!b9)
  (klenStr x2 fun v10 =>
  kint .i64 .gtr v10 (.int .i64 100) fun v12 =>
  f6_1 x1 x2 x3 v12 Q w8)
  (f6_1 x1 x2 x3 (.bool true) Q w8)

def f6 (x0 : Value) (x1 : Value) (x2 : Value) (Q : Value → World → Prop) (w : World) : Prop :=
  knew (Value.cells x0) 55 w fun v1 w2 =>
  kcall Tryd.prog 15 #[] w2 fun v3 w4 =>
  kun .not (some .bool) v3 fun v5 =>
  kB v5 fun b51 => kIf b51
  (Q (.bool false) w4)
  (f6_0 x1 x2 v1 Q w4)

theorem f6_eq (x0 : Value) (x1 : Value) (x2 : Value) (Q : Value → World → Prop) (w : World) : f6 x0 x1 x2 Q w = fnVC Tryd.prog Tryd.f6 [] (Tryd.f6.body.get rfl) [x0, x1, x2] w Q := by kernel_rfl
theorem f6_ok {x0 : Value} {x1 : Value} {x2 : Value} {Q : Value → World → Prop} {w : World} (h : f6 x0 x1 x2 Q w) : Meets Tryd.prog 6 #[x0, x1, x2] w Q :=
  sound (c := (Tryd.f6.body.get rfl)) [] Tryd.func6 rfl rfl (args := [x0, x1, x2]) rfl (Eq.mp (f6_eq x0 x1 x2 Q w) h)

/-! pasodoble/pasodoblelaw22.SealBack -/
def f7_5 (x2 : Value) (x5 : Value) (Q : Value → World → Prop) (w : World) : Prop :=
  kcall Tryd.prog 16 #[x5] w fun v65 w66 =>
  kext v65 0 fun v67 =>
  kext v65 1 fun v68 =>
  knew #[(.int .i64 0), (.int .i64 0), (.int .i64 0), (.slice none 0 0), (.slice none 0 0)] 55 w66 fun v69 w70 =>
  kst 5 v69 v67 w70 fun w71 =>
  keq Tryd.prog .eql 36 false true v68 .nilIface w71 fun v72 w73 =>
  kB v72 fun b74 => kIf b74
  (kldN 5 v69 w73 fun v75 =>
  kldN 5 x2 w73 fun v76 =>
  kcall Tryd.prog 23 #[v75, v76] w73 fun v77 w78 =>
  kB v77 fun b79 => kIf b79
  (kldN 5 v69 w78 fun v80 =>
  kcall Tryd.prog 26 #[v80] w78 fun v81 w82 =>
  Q v81 w82)
  (Q (.bool false) w78))
  (Q (.bool false) w73)

def f7_4 (x2 : Value) (x5 : Value) (x6 : Value) (Q : Value → World → Prop) (w : World) : Prop :=
  keq Tryd.prog .neq 36 false true x6 .nilIface w fun v62 w63 =>
  kB v62 fun b83 => kIf b83
  (kstr .eql x5 (.string ⟨#[]⟩) fun v64 =>
  Q v64 w63)
  (f7_5 x2 x5 Q w63)

def f7_3 (x2 : Value) (x5 : Value) (x6 : Value) (x81 : Value) (Q : Value → World → Prop) (w : World) : Prop :=
  kB x81 fun b84 => kIf b84
  (Q (.bool false) w)
  (f7_4 x2 x5 x6 Q w)

def f7_2 (x2 : Value) (x3 : Value) (Q : Value → World → Prop) (w : World) : Prop :=
  kldN 5 x2 w fun v15 =>
  kcall Tryd.prog 22 #[v15] w fun v16 w17 =>
  kext v16 0 fun v18 =>
  kext v16 1 fun v19 =>
  kldN 5 x3 w17 fun v20 =>
  kcall Tryd.prog 22 #[v20] w17 fun v21 w22 =>
  kext v21 0 fun v23 =>
  kext v21 1 fun v24 =>
  kldN 5 x2 w22 fun v25 =>
  kldN 5 x3 w22 fun v26 =>
  kcall Tryd.prog 23 #[v25, v26] w22 fun v27 w28 =>
  kldN 5 x2 w28 fun v29 =>
  kldN 5 x3 w28 fun v30 =>
  kcall Tryd.prog 24 #[v29, v30] w28 fun v31 w32 =>
  kext v31 0 fun v33 =>
  kext v31 1 fun v34 =>
  kldN 5 x3 w32 fun v35 =>
  kldN 5 x2 w32 fun v36 =>
  kcall Tryd.prog 24 #[v35, v36] w32 fun v37 w38 =>
  kext v37 0 fun v39 =>
  kext v37 1 fun v40 =>
  kbool .eql v34 v27 fun v41 =>
  kB v41 fun b42 => kIf (!b42)
  (kbool .neq v40 v34 fun v43 =>
  kB v43 fun b44 => kIf (!b44)
  (keq Tryd.prog .eql 36 false true v19 .nilIface w38.drew fun v45 w46 =>
  kG (w46 = w38.drew) <|
  kB v45 fun b47 => kIf b47
  (keq Tryd.prog .eql 36 false true v24 .nilIface w46 fun v48 w49 =>
  kG (w49 = w46) <|
  kB v48 fun b50 => kIf b50
  (kstr .eql v18 v23 fun v51 =>
  kbool .neq v51 v27 fun v52 =>
  kB v52 fun b53 => kIf (!b53)
  (kB v27 fun b54 => kIf b54
  (kldN 5 x2 w49 fun v55 =>
  kG (w49 = w49) <|
  kcall Tryd.prog 25 #[v55] w49 fun v56 w57 =>
  kldN 5 x3 w57 fun v58 =>
  kG (w57 = w57) <|
  kG (kldN 5 x3 w49 fun v85 =>
  v85 = v58 ∧ w49 = w49) <|
  kcall Tryd.prog 25 #[v58] w57 fun v59 w60 =>
  kint .u64 .neq v56 v59 fun v61 =>
  f7_3 x2 v18 v19 v61 Q w60)
  (f7_3 x2 v18 v19 (.bool false) Q w49))
  (f7_3 x2 v18 v19 (.bool true) Q w49))
  (kB v27 fun b86 => kIf b86
  (kldN 5 x2 w49 fun v87 =>
  kG (w49 = w49) <|
  kcall Tryd.prog 25 #[v87] w49 fun v88 w89 =>
  kldN 5 x3 w89 fun v90 =>
  kG (w89 = w89) <|
  kG (kldN 5 x3 w49 fun v94 =>
  v94 = v90 ∧ w49 = w49) <|
  kcall Tryd.prog 25 #[v90] w89 fun v91 w92 =>
  kint .u64 .neq v88 v91 fun v93 =>
  f7_3 x2 v18 v19 v93 Q w92)
  (f7_3 x2 v18 v19 (.bool false) Q w49)))
  (kB v27 fun b95 => kIf b95
  (kldN 5 x2 w46 fun v96 =>
  kG (w46 = w46) <|
  kcall Tryd.prog 25 #[v96] w46 fun v97 w98 =>
  kldN 5 x3 w98 fun v99 =>
  kG (w98 = w98) <|
  kG (kldN 5 x3 w46 fun v103 =>
  v103 = v99 ∧ w46 = w46) <|
  kcall Tryd.prog 25 #[v99] w98 fun v100 w101 =>
  kint .u64 .neq v97 v100 fun v102 =>
  f7_3 x2 v18 v19 v102 Q w101)
  (f7_3 x2 v18 v19 (.bool false) Q w46)))
  (f7_3 x2 v18 v19 (.bool true) Q w38.drew))
  (f7_3 x2 v18 v19 (.bool true) Q w38.drew)

def f7_1 (x2 : Value) (x3 : Value) (x23 : Value) (Q : Value → World → Prop) (w : World) : Prop :=
  kB x23 fun b104 => kIf b104
  (Q (.bool true) w)
  (f7_2 x2 x3 Q w)

def f7_0 (x2 : Value) (x3 : Value) (Q : Value → World → Prop) (w : World) : Prop :=
  kldN 5 x2 w fun v8 =>
  kcall Tryd.prog 21 #[v8] w fun v9 w10 =>
  kB v9 fun b11 => kIf (!b11)
  (kldN 5 x3 w10 fun v12 =>
  kcall Tryd.prog 21 #[v12] w10 fun v13 w14 =>
  f7_1 x2 x3 v13 Q w14)
  (f7_1 x2 x3 (.bool true) Q w10)

def f7 (x0 : Value) (x1 : Value) (Q : Value → World → Prop) (w : World) : Prop :=
  knew (Value.cells x0) 55 w fun v1 w2 =>
  knew (Value.cells x1) 55 w2 fun v3 w4 =>
  kcall Tryd.prog 15 #[] w4 fun v5 w6 =>
  kun .not (some .bool) v5 fun v7 =>
  kB v7 fun b105 => kIf b105
  (Q (.bool false) w6)
  (f7_0 v1 v3 Q w6)

theorem f7_eq (x0 : Value) (x1 : Value) (Q : Value → World → Prop) (w : World) : f7 x0 x1 Q w = fnVC Tryd.prog Tryd.f7 [] (Tryd.f7.body.get rfl) [x0, x1] w Q := by kernel_rfl
theorem f7_ok {x0 : Value} {x1 : Value} {Q : Value → World → Prop} {w : World} (h : f7 x0 x1 Q w) : Meets Tryd.prog 7 #[x0, x1] w Q :=
  sound (c := (Tryd.f7.body.get rfl)) [] Tryd.func7 rfl rfl (args := [x0, x1]) rfl (Eq.mp (f7_eq x0 x1 Q w) h)

/-! pasodoble/pasodoblelaw22.great -/
def f21_5 (x1 : Value) (x3 : Value) (J4 : Value → World → Prop) (Q : Value → World → Prop) (w : World) : Prop :=
  kint .i64 .add x3 (.int .i64 1) fun v34 =>
  J4 v34 w

def f21_4 (x1 : Value) (x3 : Value) (x37 : Value) (J4 : Value → World → Prop) (Q : Value → World → Prop) (w : World) : Prop :=
  kB x37 fun b35 => kIf b35
  (Q (.bool true) w)
  (f21_5 x1 x3 J4 Q w)

def f21_3 (x1 : Value) (x3 : Value) (J4 : Value → World → Prop) (Q : Value → World → Prop) (w : World) : Prop :=
  kfld 3 x1 fun v19 =>
  kld v19 w fun v20 =>
  kix (some (.slice 85)) (some 2) v20 x3 fun v21 =>
  kfld 1 v21 fun v22 =>
  kld v22 w fun v23 =>
  klen v23 fun v24 =>
  kint .i64 .gtr v24 (.int .i64 20) fun v26 =>
  kB v26 fun b27 => kIf (!b27)
  (kfld 3 x1 fun v28 =>
  kld v28 w fun v29 =>
  kix (some (.slice 85)) (some 2) v29 x3 fun v30 =>
  kfld 0 v30 fun v31 =>
  kld v31 w fun v32 =>
  kint .i64 .eql v32 (.int .i64 (-9223372036854775808)) fun v33 =>
  f21_4 x1 x3 v33 J4 Q w)
  (f21_4 x1 x3 (.bool true) J4 Q w)

def f21_6 (Q : Value → World → Prop) (w : World) : Prop :=
  Q (.bool false) w

def f21_2 (x3 : Value) (x1 : Value) (J4 : Value → World → Prop) (Q : Value → World → Prop) (w : World) : Prop :=
  kfld 3 x1 fun v14 =>
  kld v14 w fun v15 =>
  klen v15 fun v16 =>
  kint .i64 .lss x3 v16 fun v18 =>
  kB v18 fun b36 => kIf b36
  (f21_3 x1 x3 J4 Q w)
  (f21_6 Q w)

def f21_1 (x1 : Value) (Q : Value → World → Prop) (w : World) : Prop :=
  kL fun (I : Value → World → Prop) (μ : Value → World → Nat) => I (.int .i64 0) w ∧ ∀ (x3 : Value) (w1 : World), I x3 w1 →
  f21_2 x3 x1 (fun y3 w2 => I y3 w2 ∧ μ y3 w2 < μ x3 w1) Q w1

def f21_0 (x1 : Value) (x13 : Value) (Q : Value → World → Prop) (w : World) : Prop :=
  kB x13 fun b37 => kIf b37
  (Q (.bool true) w)
  (f21_1 x1 Q w)

def f21 (x0 : Value) (Q : Value → World → Prop) (w : World) : Prop :=
  knew (Value.cells x0) 55 w fun v1 w2 =>
  kfld 3 v1 fun v3 =>
  kld v3 w2 fun v4 =>
  klen v4 fun v5 =>
  kint .i64 .gtr v5 (.int .i64 80) fun v7 =>
  kB v7 fun b8 => kIf (!b8)
  (kfld 4 v1 fun v9 =>
  kld v9 w2 fun v10 =>
  klen v10 fun v11 =>
  kint .i64 .gtr v11 (.int .i64 40) fun v13 =>
  f21_0 v1 v13 Q w2)
  (f21_0 v1 (.bool true) Q w2)

theorem f21_eq (x0 : Value) (Q : Value → World → Prop) (w : World) : f21 x0 Q w = fnVC Tryd.prog Tryd.f21 [(4, [3])] (Tryd.f21.body.get rfl) [x0] w Q := by kernel_rfl
theorem f21_ok {x0 : Value} {Q : Value → World → Prop} {w : World} (h : f21 x0 Q w) : Meets Tryd.prog 21 #[x0] w Q :=
  sound (c := (Tryd.f21.body.get rfl)) [(4, [3])] Tryd.func21 rfl rfl (args := [x0]) rfl (Eq.mp (f21_eq x0 Q w) h)

/-! strconv.Itoa -/
def f85 (x0 : Value) (Q : Value → World → Prop) (w : World) : Prop :=
  kcall Tryd.prog 101 #[x0] w fun v1 w2 =>
  Q v1 w2

theorem f85_eq (x0 : Value) (Q : Value → World → Prop) (w : World) : f85 x0 Q w = fnVC Tryd.prog Tryd.f85 [] (Tryd.f85.body.get rfl) [x0] w Q := by kernel_rfl
theorem f85_ok {x0 : Value} {Q : Value → World → Prop} {w : World} (h : f85 x0 Q w) : Meets Tryd.prog 85 #[x0] w Q :=
  sound (c := (Tryd.f85.body.get rfl)) [] Tryd.func85 rfl rfl (args := [x0]) rfl (Eq.mp (f85_eq x0 Q w) h)

/-! internal/strconv.Itoa -/
def f101 (x0 : Value) (Q : Value → World → Prop) (w : World) : Prop :=
  kcall Tryd.prog 106 #[x0, (.int .i64 10)] w fun v1 w2 =>
  Q v1 w2

theorem f101_eq (x0 : Value) (Q : Value → World → Prop) (w : World) : f101 x0 Q w = fnVC Tryd.prog Tryd.f101 [] (Tryd.f101.body.get rfl) [x0] w Q := by kernel_rfl
theorem f101_ok {x0 : Value} {Q : Value → World → Prop} {w : World} (h : f101 x0 Q w) : Meets Tryd.prog 101 #[x0] w Q :=
  sound (c := (Tryd.f101.body.get rfl)) [] Tryd.func101 rfl rfl (args := [x0]) rfl (Eq.mp (f101_eq x0 Q w) h)

/-! internal/strconv.FormatInt -/
def f106_3 (x5 : Value) (x7 : Value) (Q : Value → World → Prop) (w : World) : Prop :=
  kint .i64 .add (.int .i64 1) x7 fun v25 =>
  ksl (some (.array 24 5)) (some 1) x5 (some (.int .i64 1)) (some v25) fun v26 =>
  ksem Tryd.prog (convert 104 9 v26) w fun v27 w28 =>
  Q v27 w28

def f106_2 (x0 : Value) (x5 : Value) (x6 : Value) (Q : Value → World → Prop) (w : World) : Prop :=
  kcall Tryd.prog 110 #[x6] w fun v12 w13 =>
  kint .i64 .add (.int .i64 1) v12 fun v14 =>
  ksl (some (.array 24 5)) (some 1) x5 (some (.int .i64 1)) (some v14) fun v15 =>
  kcall Tryd.prog 111 #[v15, x6] w13 fun v16 w17 =>
  kint .i64 .lss x0 (.int .i64 0) fun v18 =>
  kB v18 fun b29 => kIf b29
  (kix (some (.array 24 5)) (some 1) x5 (.int .i64 0) fun v19 =>
  kst 1 v19 (.int .u8 45) w17 fun w20 =>
  kint .i64 .add (.int .i64 1) v12 fun v21 =>
  ksl (some (.array 24 5)) (some 1) x5 none (some v21) fun v22 =>
  ksem Tryd.prog (convert 104 9 v22) w20 fun v23 w24 =>
  Q v23 w24)
  (f106_3 x5 v12 Q w17)

def f106_1 (x0 : Value) (Q : Value → World → Prop) (w : World) : Prop :=
  knew #[(.int .u8 0), (.int .u8 0), (.int .u8 0), (.int .u8 0), (.int .u8 0), (.int .u8 0), (.int .u8 0), (.int .u8 0), (.int .u8 0), (.int .u8 0), (.int .u8 0), (.int .u8 0), (.int .u8 0), (.int .u8 0), (.int .u8 0), (.int .u8 0), (.int .u8 0), (.int .u8 0), (.int .u8 0), (.int .u8 0), (.int .u8 0), (.int .u8 0), (.int .u8 0), (.int .u8 0)] 182 w fun v7 w8 =>
  kcnv .u64 x0 fun v9 =>
  kint .i64 .lss x0 (.int .i64 0) fun v10 =>
  kB v10 fun b30 => kIf b30
  (kun .neg (some (.int .u64)) v9 fun v11 =>
  f106_2 x0 v7 v11 Q w8)
  (f106_2 x0 v7 v9 Q w8)

def f106_0 (x0 : Value) (x17 : Value) (Q : Value → World → Prop) (w : World) : Prop :=
  kB x17 fun b31 => kIf b31
  (kcall Tryd.prog 109 #[x0] w fun v5 w6 =>
  Q v5 w6)
  (f106_1 x0 Q w)

def f106_4 (x0 : Value) (x1 : Value) (Q : Value → World → Prop) (w : World) : Prop :=
  kcnv .u64 x0 fun v32 =>
  kint .i64 .lss x0 (.int .i64 0) fun v33 =>
  kcall Tryd.prog 112 #[(.slice none 0 0), v32, x1, v33, (.bool false)] w fun v34 w35 =>
  kext v34 0 fun v36 =>
  kext v34 1 fun v37 =>
  Q v37 w35

def f106 (x0 : Value) (x1 : Value) (Q : Value → World → Prop) (w : World) : Prop :=
  kint .i64 .eql x1 (.int .i64 10) fun v1 =>
  kB v1 fun b38 => kIf b38
  (kint .i64 .leq (.int .i64 0) x0 fun v2 =>
  kB v2 fun b3 => kIf b3
  (kint .i64 .lss x0 (.int .i64 100) fun v4 =>
  f106_0 x0 v4 Q w)
  (f106_0 x0 (.bool false) Q w))
  (f106_4 x0 x1 Q w)

theorem f106_eq (x0 : Value) (x1 : Value) (Q : Value → World → Prop) (w : World) : f106 x0 x1 Q w = fnVC Tryd.prog Tryd.f106 [] (Tryd.f106.body.get rfl) [x0, x1] w Q := by kernel_rfl
theorem f106_ok {x0 : Value} {x1 : Value} {Q : Value → World → Prop} {w : World} (h : f106 x0 x1 Q w) : Meets Tryd.prog 106 #[x0, x1] w Q :=
  sound (c := (Tryd.f106.body.get rfl)) [] Tryd.func106 rfl rfl (args := [x0, x1]) rfl (Eq.mp (f106_eq x0 x1 Q w) h)

/-! internal/strconv.small -/
def f109_0 (x0 : Value) (Q : Value → World → Prop) (w : World) : Prop :=
  kint .i64 .mul x0 (.int .i64 2) fun v4 =>
  kint .i64 .mul x0 (.int .i64 2) fun v5 =>
  kint .i64 .add v5 (.int .i64 2) fun v6 =>
  ksl (some .string) none (.string ⟨#[48, 48, 48, 49, 48, 50, 48, 51, 48, 52, 48, 53, 48, 54, 48, 55, 48, 56, 48, 57, 49, 48, 49, 49, 49, 50, 49, 51, 49, 52, 49, 53, 49, 54, 49, 55, 49, 56, 49, 57, 50, 48, 50, 49, 50, 50, 50, 51, 50, 52, 50, 53, 50, 54, 50, 55, 50, 56, 50, 57, 51, 48, 51, 49, 51, 50, 51, 51, 51, 52, 51, 53, 51, 54, 51, 55, 51, 56, 51, 57, 52, 48, 52, 49, 52, 50, 52, 51, 52, 52, 52, 53, 52, 54, 52, 55, 52, 56, 52, 57, 53, 48, 53, 49, 53, 50, 53, 51, 53, 52, 53, 53, 53, 54, 53, 55, 53, 56, 53, 57, 54, 48, 54, 49, 54, 50, 54, 51, 54, 52, 54, 53, 54, 54, 54, 55, 54, 56, 54, 57, 55, 48, 55, 49, 55, 50, 55, 51, 55, 52, 55, 53, 55, 54, 55, 55, 55, 56, 55, 57, 56, 48, 56, 49, 56, 50, 56, 51, 56, 52, 56, 53, 56, 54, 56, 55, 56, 56, 56, 57, 57, 48, 57, 49, 57, 50, 57, 51, 57, 52, 57, 53, 57, 54, 57, 55, 57, 56, 57, 57]⟩) (some v4) (some v6) fun v7 =>
  Q v7 w

def f109 (x0 : Value) (Q : Value → World → Prop) (w : World) : Prop :=
  kint .i64 .lss x0 (.int .i64 10) fun v1 =>
  kB v1 fun b8 => kIf b8
  (kint .i64 .add x0 (.int .i64 1) fun v2 =>
  ksl (some .string) none (.string ⟨#[48, 49, 50, 51, 52, 53, 54, 55, 56, 57, 97, 98, 99, 100, 101, 102, 103, 104, 105, 106, 107, 108, 109, 110, 111, 112, 113, 114, 115, 116, 117, 118, 119, 120, 121, 122]⟩) (some x0) (some v2) fun v3 =>
  Q v3 w)
  (f109_0 x0 Q w)

theorem f109_eq (x0 : Value) (Q : Value → World → Prop) (w : World) : f109 x0 Q w = fnVC Tryd.prog Tryd.f109 [] (Tryd.f109.body.get rfl) [x0] w Q := by kernel_rfl
theorem f109_ok {x0 : Value} {Q : Value → World → Prop} {w : World} (h : f109 x0 Q w) : Meets Tryd.prog 109 #[x0] w Q :=
  sound (c := (Tryd.f109.body.get rfl)) [] Tryd.func109 rfl rfl (args := [x0]) rfl (Eq.mp (f109_eq x0 Q w) h)

end Go.Proofs.YtcabkicjboedaaaDoor
end
section
namespace Go.Proofs.YtcabkicjboedaaaDoor
open Go Go.Ev
set_option linter.unusedVariables false
set_option linter.unusedSimpArgs false
set_option maxRecDepth 100000

/-! ### errors.Is of an error that wraps a sentinel -/
theorem taIsB : taB Tryd.prog 120 145 = some false := by kernel_rfl
theorem taUnB : taB Tryd.prog 120 148 = some true := by kernel_rfl
theorem unwrapM (v : Value) (w : World) (K : Value → World → Prop) : kcallM Tryd.prog (.iface 120 v) "Unwrap" [] w K = kcall Tryd.prog 65 #[v] w K := by kernel_rfl
def IsInv (b : Nat) (S : Nat → Addr) (j : Nat) (w : World) (x : Value) (wr : World) : Prop := (x = .iface 120 (.pointer (some ⟨b, 0, none⟩)) ∨ x = errV S j) ∧ wr = w
def isM (x : Value) : Nat := match x with
  | .iface t _ => if t = 120 then 1 else 0
  | _ => 0
theorem isAt_spec {N : Nat} {S : Nat → Addr} {w : World} (hL : LaidN N S w) {b : Nat} {wh : ByteArray} (j : Nat) (j1 : 1 ≤ j) (j2 : j ≤ N) {t : TypeId} (hb : blk w b = some (.cells #[.string wh, errV S j] t)) :
    Meets Tryd.prog 17 #[.iface 120 (.pointer (some ⟨b, 0, none⟩)), errV S j] w fun v w' => v = .bool true ∧ w' = w := by
  refine f17_ok ?_
  unfold f17
  rw [keq_if_nil ifErr, kB_bool, Bool.not_false, kIf_true, errV, keq_if_nil ifErr]
  unfold f17_0
  rw [kB_bool, kIf_false, Is_cmp]
  have hin : Meets Tryd.prog 45 #[.iface 120 (.pointer (some ⟨b, 0, none⟩)), errV S j, .bool true] w fun v w' => v = .bool true ∧ w' = w := by
    refine f45_ok ?_
    unfold f45
    refine kL_of (IsInv b S j w) (fun x _ => isM x) ⟨⟨.inl rfl, rfl⟩, ?_⟩
    rintro x wr ⟨hx, rfl⟩
    unfold f45_0
    rw [kB_bool, kIf_true]
    rcases hx with rfl | rfl
    · rw [errV, keq_if_kind ifErr (by decide)]
      unfold f45_1
      rw [kB_bool, kIf_false]
      unfold f45_2
      rw [ksem_ta_no taIsB zIs]
      refine kext_of (v := .nilIface) rfl ?_
      refine kext_of (v := .bool false) rfl ?_
      rw [kB_bool, kIf_false]
      unfold f45_3
      rw [kB_bool, kIf_false]
      unfold f45_4
      rw [ksem_ta_yes taUnB]
      refine kext_of (v := .bool true) rfl ?_
      refine kext_of (v := .iface 120 (.pointer (some ⟨b, 0, none⟩))) rfl ?_
      rw [kB_bool, kIf_true, unwrapM]
      have hun : Meets Tryd.prog 65 #[.pointer (some ⟨b, 0, none⟩)] wr fun v w' => v = errV S j ∧ w' = wr := by
        refine f65_ok ?_
        unfold f65
        rw [keq_ptr_nil ptBla, kB_bool]
        refine kIf_of (fun h => by cases h) (fun _ => ?_)
        unfold f65_0
        rw [kN_ptr]
        refine kfld_of ?_
        refine kld_of (v := errV S j) hb rfl ?_
        exact ⟨rfl, rfl⟩
      refine kcall_of hun ?_
      rintro v w' ⟨rfl, rfl⟩
      rw [errV, keq_if_nil ifErr, kB_bool, kIf_false]
      exact ⟨⟨.inr rfl, rfl⟩, by simp [isM]⟩
    · rw [errV, keq_if_same ifErr cmpSen]
      unfold f45_1
      rw [kB_bool, kIf_true]
      exact ⟨rfl, rfl⟩
  refine kcall_of hin ?_
  rintro v w' h
  exact h

/-! ### Equality of states, as far as awake asks -/
theorem kcallV_of {f : FuncId} {args : List Value} {w : World} {K Q : Value → World → Prop} (h : Meets Tryd.prog f args.toArray w Q) (hk : ∀ v w', Q v w' → K v w') : kcallV Tryd.prog (.func (.func f) #[] #[]) args w K := by
  have : Meets Tryd.prog f (#[] ++ args.toArray ++ #[]) w K := by simpa using h.mono hk
  exact this
def EFInv (n : Nat) (r : Nat → Bool) (w : World) (x : Value) (wr : World) : Prop := ∃ i : Nat, i ≤ n ∧ x = .int .i64 i ∧ (∀ j, j < i → r j = true) ∧ Same w wr
theorem EqualFunc_spec {w : World} (l1 l2 : List BV) (a1 a2 : Option Addr) (c1 c2 : Nat) (h1 : SlIs w a1 l1.length 2 (l1.flatMap BV.cells)) (h2 : SlIs w a2 l2.length 2 (l2.flatMap BV.cells)) (hn : l1.length ≤ 1073741824) (f : FuncId) (r : Nat → Bool)
    (hf : ∀ i (i1 : i < l1.length) (i2 : i < l2.length) w', Same w w' → Meets Tryd.prog f #[.agg l1[i].cells.toArray, .agg l2[i].cells.toArray] w' fun v w'' => v = .bool (r i) ∧ Same w' w'') :
    Meets Tryd.prog 58 #[.slice a1 l1.length c1, .slice a2 l2.length c2, .func (.func f) #[] #[]] w fun v w' => v = .bool (decide (l1.length = l2.length) && (List.range l1.length).all r) ∧ Same w w' := by
  refine f58_ok ?_
  unfold f58
  rw [klen_slice, klen_slice, kint_neq, kB_bool]
  refine kIf_dec (fun hne => ?_) (fun heq => ?_)
  · exact ⟨by rw [decide_eq_false (by omega), Bool.false_and], Mod.refl _ _⟩
  have hl : l1.length = l2.length := by omega
  rw [decide_eq_true hl, Bool.true_and]
  unfold f58_0
  rw [klen_slice]
  refine kL_of (EFInv l1.length r w) (fun x _ => l1.length - (RowKit.intOf x).toNat) ⟨⟨0, by omega, rfl, by simp, Mod.refl _ _⟩, ?_⟩
  rintro x wr ⟨i, hi, rfl, hr, hm⟩
  unfold f58_1
  rw [kint_lss, kB_bool]
  refine kIf_dec (fun hlt => ?_) (fun hge => ?_)
  · have hlt : i < l1.length := by omega
    unfold f58_2
    refine kixldN_of (F := BV.cells) (fun _ => rfl) (by omega) (h1.same hm) hlt rfl ?_
    refine knew_of fun w12 h12 hs12 hb12 => ?_
    refine kst_of (vs := l1[i].cells) hb12 rfl rfl rfl (by simp) (by simp [BV.cells]) fun w13 h13 hs13 hb13 => ?_
    have hm13 : Same wr w13 := Mod.after h12 h13 (fun b hb => by omega)
    refine kixldN_of (F := BV.cells) (fun _ => rfl) (by omega) (h2.same (hm.trans hm13)) (show i < l2.length by omega) rfl ?_
    refine knew_of fun w17 h17 hs17 hb17 => ?_
    refine kst_of (vs := (l2[i]'(by omega)).cells) hb17 rfl rfl rfl (by simp) (by simp [BV.cells]) fun w18 h18 hs18 hb18 => ?_
    have hm18 : Same w13 w18 := Mod.after h17 h18 (fun b hb => by omega)
    have hb13' : blk w13 wr.heap.size = some (.cells l1[i].cells.toArray 85) := hb13
    have hb18' : blk w18 w13.heap.size = some (.cells (l2[i]'(by omega)).cells.toArray 85) := hb18
    refine kldN_of (cs := l1[i].cells) (hm18.get hb13' (fun h => h)) (by simp [BV.cells]) rfl (by omega) ?_
    refine kldN_of (cs := (l2[i]'(by omega)).cells) hb18' (by simp [BV.cells]) rfl (by omega) ?_
    have hmw := hm.trans (hm13.trans hm18)
    refine kcallV_of (hf i hlt (by omega) w18 hmw) ?_
    rintro v w22 ⟨rfl, h22⟩
    rw [kun_not, kB_bool]
    refine kIf_of (fun hb => ?_) (fun hb => ?_)
    · have hb : r i = false := by simpa using hb
      refine ⟨?_, hmw.trans h22⟩
      congr 1
      symm
      rw [List.all_eq_false]
      exact ⟨i, by simpa using hlt, by rw [hb]; decide⟩
    · have hb : r i = true := by simpa using hb
      unfold f58_3
      rw [kint_add, i64_succ (by omega)]
      refine ⟨⟨i + 1, by omega, rfl, fun j hj => ?_, hmw.trans h22⟩, by simp [RowKit.intOf]; omega⟩
      by_cases e : j = i
      · rw [e]; exact hb
      · exact hr j (by omega)
  · have : i = l1.length := by omega
    subst this
    unfold f58_4
    refine ⟨?_, hm⟩
    congr 1
    symm
    rw [List.all_eq_true]
    intro j hj
    exact hr j (by simpa using hj)
theorem eqParts_len {w : World} (a1 a2 : Option Addr) (n1 n2 c1 c2 : Nat) (hne : n1 ≠ n2) : Meets Tryd.prog 57 #[.slice a1 n1 c1, .slice a2 n2 c2] w fun v w' => v = .bool false ∧ w' = w := by
  refine f57_ok ?_
  unfold f57
  rw [klen_slice, klen_slice, kint_neq, kB_bool]
  refine kIf_dec (fun _ => ⟨rfl, rfl⟩) (fun h => absurd ?_ h)
  omega
theorem eqInts0 {w : World} (a1 a2 : Option Addr) (c1 c2 : Nat) : Meets Tryd.prog 59 #[.slice a1 0 c1, .slice a2 0 c2] w fun v w' => v = .bool true ∧ w' = w := by
  refine f59_ok ?_
  unfold f59
  rw [klen_slice, klen_slice, kint_neq, kB_bool]
  refine kIf_dec (fun h => absurd rfl h) (fun _ => ?_)
  unfold f59_0
  rw [klen_slice]
  refine kL_of (fun x wr => x = .int .i64 0 ∧ wr = w) (fun _ _ => 0) ⟨⟨rfl, rfl⟩, ?_⟩
  rintro x wr ⟨rfl, rfl⟩
  unfold f59_1
  rw [kint_lss, kB_bool]
  refine kIf_dec (fun h => absurd h (by omega)) (fun _ => ?_)
  unfold f59_4
  exact ⟨rfl, rfl⟩
theorem refSame_spec {w : World} (f n s : Int) (a1 a2 a3 a4 : Option Addr) (c1 c2 c3 c4 : Nat) : Meets Tryd.prog 18 #[.agg #[.int .i64 f, .int .i64 n, .int .i64 s, .slice a1 0 c1, .slice a2 0 c2], .agg #[.int .i64 f, .int .i64 n, .int .i64 s, .slice a3 0 c3, .slice a4 0 c4]] w fun v w' => v = .bool true ∧ Same w w' := by
  have hbe : ∀ (w : World) (a1 a2 : Option Addr) (c1 c2 : Nat), Meets Tryd.prog 46 #[.slice a1 0 c1, .slice a2 0 c2] w fun v w' => v = .bool true ∧ w' = w := by
    intro w a1 a2 c1 c2
    refine f46_ok ?_
    unfold f46
    rw [klen_slice, klen_slice, kint_neq, kB_bool]
    refine kIf_dec (fun h => absurd rfl h) (fun _ => ?_)
    unfold f46_0
    refine kL_of (fun x wr => x = .int .i64 0 ∧ wr = w) (fun _ _ => 0) ⟨⟨rfl, rfl⟩, ?_⟩
    rintro x wr ⟨rfl, rfl⟩
    unfold f46_1
    rw [klen_slice, kint_lss, kB_bool]
    refine kIf_dec (fun h => absurd h (by omega)) (fun _ => ?_)
    unfold f46_5
    exact ⟨rfl, rfl⟩
  have hin : ∀ (w : World) (a1 a2 : Option Addr) (c1 c2 : Nat), Meets Tryd.prog 47 #[.slice a1 0 c1, .slice a2 0 c2] w fun v w' => v = .bool true ∧ w' = w := by
    intro w a1 a2 c1 c2
    refine f47_ok ?_
    unfold f47
    rw [klen_slice, klen_slice, kint_neq, kB_bool]
    refine kIf_dec (fun h => absurd rfl h) (fun _ => ?_)
    unfold f47_0
    refine kL_of (fun x wr => x = .int .i64 0 ∧ wr = w) (fun _ _ => 0) ⟨⟨rfl, rfl⟩, ?_⟩
    rintro x wr ⟨rfl, rfl⟩
    unfold f47_1
    rw [klen_slice, kint_lss, kB_bool]
    refine kIf_dec (fun h => absurd h (by omega)) (fun _ => ?_)
    unfold f47_4
    exact ⟨rfl, rfl⟩
  refine f18_ok ?_
  unfold f18
  refine knew_of fun w2 h2 hs2 hb1 => ?_
  refine knew_of fun w4 h4 hs4 hb3 => ?_
  have hb1 := h4.get hb1 (fun h => h)
  refine kfld_of ?_
  refine kld_of (v := .int .i64 f) hb1 rfl ?_
  refine kfld_of ?_
  refine kld_of (v := .int .i64 f) hb3 rfl ?_
  rw [kint_eql, kB_bool]
  refine kIf_dec (fun _ => ?_) (fun h => absurd rfl h)
  refine kfld_of ?_
  refine kld_of (v := .int .i64 n) hb1 rfl ?_
  refine kfld_of ?_
  refine kld_of (v := .int .i64 n) hb3 rfl ?_
  rw [kint_eql, kB_bool]
  refine kIf_dec (fun _ => ?_) (fun h => absurd rfl h)
  refine kfld_of ?_
  refine kld_of (v := .int .i64 s) hb1 rfl ?_
  refine kfld_of ?_
  refine kld_of (v := .int .i64 s) hb3 rfl ?_
  rw [kint_eql, kB_bool]
  refine kIf_dec (fun _ => ?_) (fun h => absurd rfl h)
  refine kfld_of ?_
  refine kld_of (v := .slice a1 0 c1) hb1 rfl ?_
  refine kfld_of ?_
  refine kld_of (v := .slice a3 0 c3) hb3 rfl ?_
  refine kcall_of (hbe w4 a1 a3 c1 c3) ?_
  rintro v w' ⟨rfl, rfl⟩
  rw [kB_bool, kIf_true]
  refine kfld_of ?_
  refine kld_of (v := .slice a2 0 c2) hb1 rfl ?_
  refine kfld_of ?_
  refine kld_of (v := .slice a4 0 c4) hb3 rfl ?_
  refine kcall_of (hin w' a2 a4 c2 c4) ?_
  rintro v w'' ⟨rfl, rfl⟩
  exact ⟨rfl, h2.trans h4⟩
/-- strconv.Itoa(3). -/
theorem itoa3 (w : World) : Meets Tryd.prog 85 #[.int .i64 3] w fun v w' => v = .string (bs [51]) ∧ w' = w := by
  have h1 : Meets Tryd.prog 109 #[.int .i64 3] w fun v w' => v = .string (bs [51]) ∧ w' = w := by
    refine f109_ok ?_
    unfold f109
    rw [kint_lss, kB_bool]
    refine kIf_dec (fun _ => ?_) (fun h => absurd (by omega) h)
    rw [kint_add, wrap_i64 (by omega) (by omega), ksl_string rfl rfl]
    refine kG_of ⟨by decide, by decide, by decide⟩ ?_
    exact ⟨rfl, rfl⟩
  have h2 : Meets Tryd.prog 106 #[.int .i64 3, .int .i64 10] w fun v w' => v = .string (bs [51]) ∧ w' = w := by
    refine f106_ok ?_
    unfold f106
    rw [kint_eql, kB_bool]
    refine kIf_dec (fun _ => ?_) (fun h => absurd rfl h)
    rw [kint_leq, kB_bool]
    refine kIf_dec (fun _ => ?_) (fun h => absurd (by omega) h)
    rw [kint_lss]
    unfold f106_0
    rw [kB_bool]
    refine kIf_dec (fun _ => ?_) (fun h => absurd (by omega) h)
    refine kcall_of h1 ?_
    rintro v w' h
    exact h
  have h3 : Meets Tryd.prog 101 #[.int .i64 3] w fun v w' => v = .string (bs [51]) ∧ w' = w := by
    refine f101_ok ?_
    unfold f101
    refine kcall_of h2 ?_
    rintro v w' h
    exact h
  refine f85_ok ?_
  unfold f85
  refine kcall_of h3 ?_
  rintro v w' h
  exact h
end Go.Proofs.YtcabkicjboedaaaDoor
end
section
namespace Go.Proofs.YtcabkicjboedaaaDoor
open Go Go.Ev
set_option linter.unusedVariables false
set_option linter.unusedSimpArgs false
set_option maxRecDepth 100000

def qA : BV := ⟨3, none, 0, []⟩
def qP : Part := ⟨0, 0, 0, 0, 0, 0⟩
def qB (b : Nat) : BV := ⟨3, some ⟨b, 0, none⟩, 1, [qP]⟩
section
variable {w : World} {a1 a2 : Option Addr} {c1 c2 bp : Nat}
theorem same3 (h1 : SlIs w a1 1 2 ([qA].flatMap BV.cells)) (h2 : SlIs w a2 1 2 ([qB bp].flatMap BV.cells)) :
    Meets Tryd.prog 23 #[.agg #[.int .i64 0, .int .i64 0, .int .i64 0, .slice a1 1 c1, .slice none 0 0], .agg #[.int .i64 0, .int .i64 0, .int .i64 0, .slice a2 1 c2, .slice none 0 0]] w fun v w' => v = .bool false ∧ Same w w' := by
  refine f23_ok ?_
  unfold f23
  refine knew_of fun w2 h2' hs2 hb1 => ?_
  refine knew_of fun w4 h4 hs4 hb3 => ?_
  have hb1 := h4.get hb1 (fun h => h)
  have m4 := h2'.trans h4
  refine kfld_of ?_
  refine kld_of (v := .int .i64 0) hb1 rfl ?_
  refine kfld_of ?_
  refine kld_of (v := .int .i64 0) hb3 rfl ?_
  rw [kint_eql, kB_bool]
  refine kIf_dec (fun _ => ?_) (fun h => absurd rfl h)
  refine kfld_of ?_
  refine kld_of (v := .int .i64 0) hb1 rfl ?_
  refine kfld_of ?_
  refine kld_of (v := .int .i64 0) hb3 rfl ?_
  rw [kint_eql, kB_bool]
  refine kIf_dec (fun _ => ?_) (fun h => absurd rfl h)
  refine kfld_of ?_
  refine kld_of (v := .int .i64 0) hb1 rfl ?_
  refine kfld_of ?_
  refine kld_of (v := .int .i64 0) hb3 rfl ?_
  rw [kint_eql, kB_bool]
  refine kIf_dec (fun _ => ?_) (fun h => absurd rfl h)
  refine kfld_of ?_
  refine kld_of (v := .slice a1 1 c1) hb1 rfl ?_
  refine kfld_of ?_
  refine kld_of (v := .slice a2 1 c2) hb3 rfl ?_
  refine kcall_of (EqualFunc_spec [qA] [qB bp] a1 a2 c1 c2 (h1.same m4) (h2.same m4) (by simp) 56 (fun _ => false) ?_) ?_
  · intro i i1 i2 w' hw'
    have : i = 0 := by simp at i1; omega
    subst this
    refine f56_ok ?_
    unfold f56
    refine knew_of fun u2 g2 gs2 k1 => ?_
    refine knew_of fun u4 g4 gs4 k3 => ?_
    have k1 := g4.get k1 (fun h => h)
    refine kfld_of ?_
    refine kld_of (v := .int .i64 3) k1 rfl ?_
    refine kfld_of ?_
    refine kld_of (v := .int .i64 3) k3 rfl ?_
    rw [kint_eql, kB_bool]
    refine kIf_dec (fun _ => ?_) (fun h => absurd rfl h)
    refine kfld_of ?_
    refine kld_of (v := .slice none 0 0) k1 rfl ?_
    refine kfld_of ?_
    refine kld_of (v := .slice (some ⟨bp, 0, none⟩) 1 1) k3 rfl ?_
    refine kcall_of (eqParts_len _ _ 0 1 _ _ (by omega)) ?_
    rintro v w2 ⟨rfl, rfl⟩
    exact ⟨rfl, g2.trans g4⟩
  rintro v w28 ⟨rfl, h28⟩
  rw [kB_bool]
  refine kIf_of (fun h => by simp at h) (fun _ => ?_)
  exact ⟨rfl, m4.trans h28⟩
theorem beings3 (h1 : SlIs w a1 1 2 ([qA].flatMap BV.cells)) (h2 : SlIs w a2 1 2 ([qB bp].flatMap BV.cells)) :
    Meets Tryd.prog 60 #[.slice a1 1 c1, .slice a2 1 c2] w fun v w' => v = .tuple #[.string ⟨#[98, 101, 105, 110, 103, 32, 51]⟩, .bool true] ∧ Same w w' := by
  refine f60_ok ?_
  unfold f60
  refine kcall_of (EqualFunc_spec [qA] [qB bp] a1 a2 c1 c2 h1 h2 (by simp) 84 (fun _ => true) ?_) ?_
  · intro i i1 i2 w' hw'
    have : i = 0 := by simp at i1; omega
    subst this
    refine f84_ok ?_
    unfold f84
    refine knew_of fun u2 g2 gs2 k1 => ?_
    refine knew_of fun u4 g4 gs4 k3 => ?_
    have k1 := g4.get k1 (fun h => h)
    refine kfld_of ?_
    refine kld_of (v := .int .i64 3) k1 rfl ?_
    refine kfld_of ?_
    refine kld_of (v := .int .i64 3) k3 rfl ?_
    rw [kint_eql]
    exact ⟨rfl, g2.trans g4⟩
  rintro v w2 ⟨rfl, hm2⟩
  rw [kun_not, kB_bool]
  refine kIf_of (fun h => by simp at h) (fun _ => ?_)
  unfold f60_0
  rw [klen_slice]
  refine kL_of (fun x wr => x = .int .i64 0 ∧ Same w wr) (fun _ _ => 0) ⟨⟨rfl, hm2⟩, ?_⟩
  rintro x wr ⟨rfl, hm⟩
  unfold f60_1
  rw [kint_lss, kB_bool]
  refine kIf_dec (fun _ => ?_) (fun h => absurd (by omega) h)
  unfold f60_2
  refine kixldN_of (F := BV.cells) (l := [qA]) (i := 0) (fun _ => rfl) (by omega) (h1.same hm) (by simp) rfl ?_
  refine knew_of fun w12 h12 hs12 hb12 => ?_
  refine kst_of (vs := qA.cells) hb12 rfl rfl rfl (by simp) (by simp [BV.cells]) fun w13 h13 hs13 hb13 => ?_
  have hm13 : Same wr w13.drew := (Mod.after h12 h13 (fun b hb => by omega)).drew
  have hb13 : blk w13.drew wr.heap.size = some (.cells qA.cells.toArray 85) := hb13
  generalize w13.drew = wd at *
  refine kfld_of ?_
  refine kld_of (v := .slice none 0 0) hb13 rfl ?_
  refine kG_of rfl ?_
  refine kixfld_of (F := BV.cells) (l := [qB bp]) (i := 0) (fun _ => rfl) (h2.same (hm.trans hm13)) (by simp) (v := .slice (some ⟨bp, 0, none⟩) 1 1) rfl rfl ?_
  refine kG_of rfl ?_
  refine kcall_of (eqParts_len _ _ 0 1 _ _ (by omega)) ?_
  rintro v w18 ⟨rfl, rfl⟩
  rw [kun_not, kB_bool]
  refine kIf_of (fun _ => ?_) (fun h => by cases h)
  refine kfld_of ?_
  refine kld_of (v := .int .i64 3) hb13 rfl ?_
  refine kcall_of (itoa3 w18) ?_
  rintro v w23 ⟨rfl, rfl⟩
  rw [kstr_add]
  refine kG_of (show (6 + 1 : Nat) ≤ 9223372036854775807 by omega) ?_
  exact ⟨rfl, hm.trans hm13⟩
theorem differs3 (h1 : SlIs w a1 1 2 ([qA].flatMap BV.cells)) (h2 : SlIs w a2 1 2 ([qB bp].flatMap BV.cells)) :
    Meets Tryd.prog 24 #[.agg #[.int .i64 0, .int .i64 0, .int .i64 0, .slice a1 1 c1, .slice none 0 0], .agg #[.int .i64 0, .int .i64 0, .int .i64 0, .slice a2 1 c2, .slice none 0 0]] w fun v w' => v = .tuple #[.string ⟨#[98, 101, 105, 110, 103, 32, 51]⟩, .bool true] ∧ Same w w' := by
  refine f24_ok ?_
  unfold f24
  refine knew_of fun w2 h2' hs2 hb1 => ?_
  refine knew_of fun w4 h4 hs4 hb3 => ?_
  have hb1 := h4.get hb1 (fun h => h)
  have m4 := h2'.trans h4
  refine kldN_of (cs := [.int .i64 0, .int .i64 0, .int .i64 0, .slice a1 1 c1, .slice none 0 0]) hb1 (by simp [Value.cells]) rfl (by omega) ?_
  refine kldN_of (cs := [.int .i64 0, .int .i64 0, .int .i64 0, .slice a2 1 c2, .slice none 0 0]) hb3 (by simp [Value.cells]) rfl (by omega) ?_
  refine kcall_of (same3 (h1.same m4) (h2.same m4)) ?_
  rintro v w8 ⟨rfl, h8⟩
  have hb1 := h8.get hb1 (fun h => h)
  have hb3 := h8.get hb3 (fun h => h)
  have m8 := m4.trans h8
  rw [kB_bool, kIf_false]
  refine kfld_of ?_
  refine kld_of (v := .int .i64 0) hb1 rfl ?_
  refine kfld_of ?_
  refine kld_of (v := .int .i64 0) hb3 rfl ?_
  rw [kint_neq, kB_bool]
  refine kIf_dec (fun h => absurd rfl h) (fun _ => ?_)
  refine kfld_of ?_
  refine kld_of (v := .int .i64 0) hb1 rfl ?_
  refine kfld_of ?_
  refine kld_of (v := .int .i64 0) hb3 rfl ?_
  rw [kint_neq, kB_bool]
  refine kIf_dec (fun h => absurd rfl h) (fun _ => ?_)
  refine kfld_of ?_
  refine kld_of (v := .int .i64 0) hb1 rfl ?_
  refine kfld_of ?_
  refine kld_of (v := .int .i64 0) hb3 rfl ?_
  rw [kint_neq, kB_bool]
  refine kIf_dec (fun h => absurd rfl h) (fun _ => ?_)
  refine kfld_of ?_
  refine kld_of (v := .slice none 0 0) hb1 rfl ?_
  refine kfld_of ?_
  refine kld_of (v := .slice none 0 0) hb3 rfl ?_
  refine kcall_of (eqInts0 _ _ _ _) ?_
  rintro v w29 ⟨rfl, rfl⟩
  rw [kun_not, kB_bool]
  refine kIf_of (fun h => by cases h) (fun _ => ?_)
  unfold f24_0
  refine kfld_of ?_
  refine kld_of (v := .slice a1 1 c1) hb1 rfl ?_
  refine kfld_of ?_
  refine kld_of (v := .slice a2 1 c2) hb3 rfl ?_
  refine kcall_of (beings3 (h1.same m8) (h2.same m8)) ?_
  rintro v w36 ⟨rfl, h36⟩
  refine kext_of (v := .string ⟨#[98, 101, 105, 110, 103, 32, 51]⟩) rfl ?_
  refine kext_of (v := .bool true) rfl ?_
  exact ⟨rfl, m8.trans h36⟩
end
def sv0 : SV := ⟨0, 1, 0, none, 0, [], none, 0, []⟩
theorem sv0_ok (w : World) : sv0.ok w := ⟨by unfold I64; decide, by unfold I64; decide, by unfold I64; decide, by simp [sv0], by simp [sv0], SlIs.nil _ _ _, SlIs.nil _ _ _⟩
theorem bytes0 : bytesF sv0.m = [0, 1, 0, 0, 0] := by
  have g0 : groupsF 0 = [0] := by rw [groupsF, if_pos (by omega)]; rfl
  have g1 : groupsF 1 = [1] := by rw [groupsF, if_pos (by omega)]; rfl
  show groupsF 0 ++ (groupsF 1 ++ (groupsF 0 ++ (groupsF 0 ++ ([] ++ (groupsF 0 ++ []))))) = _
  rw [g0, g1]; rfl
theorem good0 : goodF sv0.m = true := by decide
theorem read0ok : okEnd (readF [0, 1, 0, 0, 0]).1 (readF [0, 1, 0, 0, 0]).2 = true := by decide
theorem read0bad : okEnd (readF [0, 1, 0, 0, 0, 120]).1 (readF [0, 1, 0, 0, 0, 120]).2 = false := by decide
theorem read0m : (readF [0, 1, 0, 0, 0]).1.frame = 0 ∧ (readF [0, 1, 0, 0, 0]).1.next = 1 ∧ (readF [0, 1, 0, 0, 0]).1.seed = 0 ∧ (readF [0, 1, 0, 0, 0]).1.beings.length = 0 ∧ (readF [0, 1, 0, 0, 0]).1.res.length = 0 := by decide

set_option maxHeartbeats 1000000 in
theorem awake22_spec {S : Nat → Addr} {w : World} (hL : LaidN 4 S w) (hd : DeAt w) : Meets Tryd.prog 15 #[] w fun v w' => v = .bool true ∧ Same w w' := by
  have hby := Bytes_spec hL sv0 (sv0_ok w) (by simp [sv0])
  have hrd := fun (w : World) (hL : LaidN 4 S w) (hd : DeAt w) => Read_spec hL hd [0, 1, 0, 0, 0] (by simp)
  have hrx := fun (w : World) (hL : LaidN 4 S w) (hd : DeAt w) => Read_spec hL hd [0, 1, 0, 0, 0, 120] (by simp)
  obtain ⟨l5, hl5⟩ : ∃ l : List UInt8, l = [0, 1, 0, 0, 0] := ⟨_, rfl⟩
  have hx : [0, 1, 0, 0, 0, 120] = l5 ++ ([120] : List UInt8) := by rw [hl5]; rfl
  have r1 := read0ok
  have r2 := read0bad
  have r3 := read0m
  rw [hx] at hrx r2
  rw [← hl5] at hrd r1 r3
  have hb0 := bytes0
  rw [← hl5] at hb0
  have hl5l : l5.length = 5 := by rw [hl5]; rfl
  have hl5b : bs l5 = ⟨#[0, 1, 0, 0, 0]⟩ := by rw [hl5]; rfl
  clear hl5 hx
  refine f15_ok ?_
  unfold f15
  refine kbld_of (cs := sv0.cells) rfl ?_
  refine kcall_of hby ?_
  rintro v w3 ⟨h3, hv⟩
  rcases hv with ⟨_, _, rfl⟩ | ⟨hbad, _⟩
  rotate_left
  · rcases hbad with h | h
    · rw [good0] at h; cases h
    · rw [hb0, hl5l] at h; omega
  rw [hb0]
  refine kext_of (v := .string (bs l5)) rfl ?_
  refine kext_of (v := .nilIface) rfl ?_
  refine kcall_of (hrd w3 (hL.same h3) (hd.same h3)) ?_
  rintro v w7 ⟨h7, hv⟩
  rcases hv with ⟨_, sv, rfl, hsm, hsok, _⟩ | ⟨hb, _⟩
  rotate_left
  · rw [r1] at hb; cases hb
  have m7 := h3.trans h7
  refine kext_of (v := sv.val) rfl ?_
  refine kext_of (v := .nilIface) rfl ?_
  rw [← hsm] at r3
  obtain ⟨e1, e2, e3, e4, e5⟩ := r3
  have e1 : sv.frame = 0 := e1
  have e2 : sv.next = 1 := e2
  have e3 : sv.seed = 0 := e3
  have e4 : sv.bl.length = 0 := by have := e4; rwa [show sv.m.beings.length = sv.bl.length from List.length_map ..] at this
  have e5 : sv.rl.length = 0 := e5
  have hcells : sv.cells = [.int .i64 0, .int .i64 1, .int .i64 0, .slice sv.ba 0 sv.bc, .slice sv.ra 0 sv.rc] := by unfold SV.cells; rw [e1, e2, e3, e4, e5]
  refine knew_of fun w11 h11 hs11 hb11 => ?_
  refine kst_of (vs := sv.cells) hb11 rfl rfl (by rw [hcells]; rfl) (by simp) (by simp [SV.cells]) fun w12 h12 hs12 hb12 => ?_
  have hb12 : blk w12 w7.heap.size = some (.cells sv.cells.toArray 55) := hb12
  have m12 := m7.trans (Mod.after h11 h12 (fun b hb => by omega))
  refine kbld_of (cs := qA.cells) rfl ?_
  refine kbldS_of (cs := qA.cells) rfl fun w15 h15 hs15 hb15 => ?_
  refine kbld_of (cs := [.int .i64 0, .int .i64 0, .int .i64 0, .slice (some ⟨w12.heap.size, 0, none⟩) 1 1, .slice none 0 0]) rfl ?_
  refine kbld_of (cs := qP.cells) rfl ?_
  refine kbldS_of (cs := qP.cells) rfl fun w19 h19 hs19 hb19 => ?_
  refine kbld_of (cs := (qB w15.heap.size).cells) rfl ?_
  refine kbldS_of (cs := (qB w15.heap.size).cells) rfl fun w22 h22 hs22 hb22 => ?_
  refine kbld_of (cs := [.int .i64 0, .int .i64 0, .int .i64 0, .slice (some ⟨w19.heap.size, 0, none⟩) 1 1, .slice none 0 0]) rfl ?_
  have hs1 : SlIs w22 (some ⟨w12.heap.size, 0, none⟩) 1 2 ([qA].flatMap BV.cells) := (show SlIs w15 _ 1 2 ([qA].flatMap BV.cells) from SlIs.blk hb15 rfl).same (h19.trans h22)
  have hs2 : SlIs w22 (some ⟨w19.heap.size, 0, none⟩) 1 2 ([qB w15.heap.size].flatMap BV.cells) := SlIs.blk hb22 rfl
  refine kcall_of (differs3 hs1 hs2) ?_
  rintro v w25 ⟨rfl, h25⟩
  have m25 := m12.trans (h15.trans (h19.trans (h22.trans h25)))
  have hb25 := (h15.trans (h19.trans (h22.trans h25))).get hb12 (fun h => h)
  refine kext_of (v := .string ⟨#[98, 101, 105, 110, 103, 32, 51]⟩) rfl ?_
  refine kext_of (v := .bool true) rfl ?_
  rw [show (⟨#[120]⟩ : ByteArray) = bs [120] from rfl, kstr_add, bs_append]
  refine kG_of (by rw [bs_size, bs_size, hl5l]; simp) ?_
  refine kcall_of (hrx w25 (hL.same m25) (hd.same m25)) ?_
  rintro v w30 ⟨h30, hv⟩
  rcases hv with ⟨hb, _⟩ | ⟨_, bE, wh, rfl, hbE⟩
  · rw [r2] at hb; cases hb
  refine kext_of (v := .agg #[.int .i64 0, .int .i64 0, .int .i64 0, .slice none 0 0, .slice none 0 0]) rfl ?_
  refine kext_of (v := .iface 120 (.pointer (some ⟨bE, 0, none⟩))) rfl ?_
  refine knew_of fun w34 h34 hs34 hb34 => ?_
  refine kst_of (vs := [.int .i64 0, .int .i64 0, .int .i64 0, .slice none 0 0, .slice none 0 0]) hb34 rfl rfl rfl (by simp) (by simp) fun w35 h35 hs35 hb35 => ?_
  have h35' : Same w30 w35 := Mod.after h34 h35 (fun b hb => by omega)
  have m35 := m25.trans (h30.trans h35')
  have hb35 := (h30.trans h35').get hb25 (fun h => h)
  have hbE := h35'.get hbE (fun h => h)
  rw [keq_nil_nil ifErr, kB_bool, kIf_true, kstr_eql, kB_bool]
  refine kIf_dec (fun _ => ?_) (fun h => absurd hl5b h)
  rw [keq_nil_nil ifErr, kB_bool, kIf_true]
  refine kldN_of (cs := [.int .i64 0, .int .i64 1, .int .i64 0, .slice sv.ba 0 sv.bc, .slice sv.ra 0 sv.rc]) hb35 (by simp [SV.cells]) (by rw [hcells]; rfl) (by omega) ?_
  refine kbld_of (cs := [.int .i64 0, .int .i64 1, .int .i64 0, .slice none 0 0, .slice none 0 0]) rfl ?_
  refine kcall_of (refSame_spec 0 1 0 _ _ _ _ _ _ _ _) ?_
  rintro v w47 ⟨rfl, h47⟩
  rw [kB_bool, kIf_true, kstr_eql, kB_bool]
  refine kIf_dec (fun _ => ?_) (fun h => absurd rfl h)
  rw [kB_bool, kIf_true]
  have m47 := m35.trans h47
  refine kld_err (hL.same m47) (k := 3) (by omega) (by omega) rfl rfl ?_
  refine kcall_of (isAt_spec (hL.same m47) 3 (by omega) (by omega) (h47.get hbE (fun h => h))) ?_
  rintro v w54 ⟨rfl, rfl⟩
  exact ⟨rfl, m47⟩

theorem SealReads_spec {S : Nat → Addr} {w : World} (hL : LaidN 4 S w) (hd : DeAt w) (s : ByteArray) : Meets Tryd.prog 5 #[.string s] w fun v w' => v = .bool true ∧ Same w w' := by
  rw [← bs_of s]
  generalize s.data.toList = l
  refine f5_ok ?_
  unfold f5
  refine kcall_of (awake22_spec hL hd) ?_
  rintro v w2 ⟨rfl, h2⟩
  rw [kun_not, kB_bool]
  refine kIf_of (fun h => by cases h) (fun _ => ?_)
  unfold f5_0
  rw [klenStr_string, bs_size, kint_gtr, kB_bool]
  refine kIf_dec (fun _ => ⟨rfl, h2⟩) (fun hle => ?_)
  have hle : l.length ≤ 16384 := by omega
  unfold f5_1
  refine kcall_of (Read_spec (hL.same h2) (hd.same h2) l (by omega)) ?_
  rintro v w8 ⟨h8, hv⟩
  have m8 := h2.trans h8
  rcases hv with ⟨hok, sv, rfl, hsm, hsok, _⟩ | ⟨hbad, bE, wh, rfl, hbE⟩
  · obtain ⟨hlaw, hg⟩ := read_law l hok
    rw [← hsm] at hlaw hg
    refine kext_of (v := sv.val) rfl ?_
    refine kext_of (v := .nilIface) rfl ?_
    refine knew_of fun w12 h12 hs12 hb12 => ?_
    refine kst_of (vs := sv.cells) hb12 rfl rfl rfl (by simp) (by simp [SV.cells]) fun w13 h13 hs13 hb13 => ?_
    have hb13 : blk w13 w8.heap.size = some (.cells sv.cells.toArray 55) := hb13
    have h13' : Same w8 w13 := Mod.after h12 h13 (fun b hb => by omega)
    rw [keq_nil_nil' ifErr, kB_bool, kIf_false]
    unfold f5_2
    refine kldN_of (cs := sv.cells) hb13 (by simp [SV.cells]) rfl (by omega) ?_
    refine kcall_of (refGood_spec sv (hsok.same h13') hg) ?_
    rintro v w26 ⟨rfl, h26⟩
    rw [kB_bool, kIf_true]
    refine kldN_of (cs := sv.cells) (h26.get hb13 (fun h => h)) (by simp [SV.cells]) rfl (by omega) ?_
    refine kcall_of (refBytes_spec sv (hsok.same (h13'.trans h26)) hg) ?_
    rintro v w30 ⟨rfl, h30⟩
    rw [kstr_eql, hlaw]
    exact ⟨by simp, m8.trans (h13'.trans (h26.trans h30))⟩
  · refine kext_of (v := .agg #[.int .i64 0, .int .i64 0, .int .i64 0, .slice none 0 0, .slice none 0 0]) rfl ?_
    refine kext_of (v := .iface 120 (.pointer (some ⟨bE, 0, none⟩))) rfl ?_
    refine knew_of fun w12 h12 hs12 hb12 => ?_
    refine kst_of (vs := [.int .i64 0, .int .i64 0, .int .i64 0, .slice none 0 0, .slice none 0 0]) hb12 rfl rfl rfl (by simp) (by simp) fun w13 h13 hs13 hb13 => ?_
    have hb13 : blk w13 w8.heap.size = some (.cells #[.int .i64 0, .int .i64 0, .int .i64 0, .slice none 0 0, .slice none 0 0] 55) := hb13
    have h13' : Same w8 w13 := Mod.after h12 h13 (fun b hb => by omega)
    have m13 := m8.trans h13'
    rw [keq_if_nil' ifErr, kB_bool, kIf_true]
    refine kld_err (hL.same m13) (k := 3) (by omega) (by omega) rfl rfl ?_
    refine kcall_of (isAt_spec (hL.same m13) 3 (by omega) (by omega) (h13'.get hbE (fun h => h))) ?_
    rintro v w18 ⟨rfl, rfl⟩
    rw [kB_bool, kIf_true]
    refine kldN_of (cs := [.int .i64 0, .int .i64 0, .int .i64 0, .slice none 0 0, .slice none 0 0]) hb13 (by simp) rfl (by omega) ?_
    refine kbld_of (cs := [.int .i64 0, .int .i64 0, .int .i64 0, .slice none 0 0, .slice none 0 0]) rfl ?_
    refine kcall_of (refSame_spec 0 0 0 _ _ _ _ _ _ _ _) ?_
    rintro v w23 ⟨rfl, h23⟩
    exact ⟨rfl, m13.trans h23⟩
end Go.Proofs.YtcabkicjboedaaaDoor
end
section
namespace Go.Proofs.YtcabkicjboedaaaDoor
open Go Go.Ev Go.RowKit Go.ChangeShapes Go.WideShapes Go.ChangeAt
open Go.ChangeMaps (open_string shut_string)
set_option linter.unusedVariables false
set_option maxRecDepth 100000
namespace SL
/-- The door's own heap meets the condition. -/
theorem door_met (os : Os) (args : Array Value) : laidMetH Tryd.prog Rows.sealReadsRow.laid ((World.doorLaid Tryd.prog 366 os).forCall (fun _ _ => 0) ⟨#[], args, []⟩).memory :=
  laidMetH_of_parts3 (fuel := 8) (laidMet_of_run' 8 (by kernel_rfl) (by kernel_rfl)) (by kernel_rfl) (by kernel_rfl)

theorem lifted (os : Os) (started : os.Started) (H : Type) (enc : TypeId × Value → H) :
    ReturnsInHanded {} Tryd.checked os 5 .any (fun w args => (Rows.sealReadsSpec.pre enc Tryd.prog Tryd.f5 [] false w args ∧ laidMetH Tryd.prog Rows.sealReadsRow.laid w) ∧ sizedMet enc Tryd.prog Tryd.f5 (OpenSpec.ofChange Rows.sealReadsSpec) false w args)
      (Rows.sealReadsSpec.post enc Tryd.prog Tryd.f5 false true false false) := by
  refine returnsInHanded_of_change_and (C := Tryd.checked) (X := fun w _ => laidMetH Tryd.prog Rows.sealReadsRow.laid w) (fun _ _ _ hh h => h.of_heap hh) own started (by kernel_rfl) Tryd.func5
    (ChangeSpec.witness_shaped (enc := enc) (C := Tryd.checked) (os := os) (X := fun w _ => laidMetH Tryd.prog Rows.sealReadsRow.laid w) false (World.doorLaid Tryd.prog 366 os) #[.string ByteArray.empty] 8 rfl (World.shaped_of_RefB (by kernel_rfl) (by kernel_rfl)) (by kernel_rfl) (by kernel_rfl) (by kernel_rfl) (door_met os _)) ?_
  intro W base args ds gs before hval0 hW _ _ hL _
  have hval : ∀ (j : Nat) t v, Tryd.f5.params[j]? = some t → args[j]? = some v → Value.okWide Tryd.prog W .any base t v := hval0
  have hW' := hW
  obtain ⟨p, q, hA0, hV, rfl, hfz, hnd⟩ := hW
  have hA : DataW.TrodAll enc Tryd.prog W 0 (fun _ => true) true Tryd.f5.params.toList args.toList ds p := hA0
  rw [Tryd.params5] at hA hval
  obtain ⟨v0, vs0, d0, ds0, p0, q0, hargs, rfl, rfl, h0, r0⟩ := trodAll_cons hA
  obtain ⟨rfl, rfl, rfl⟩ := trodAll_nil r0
  obtain rfl : args = #[v0] := by cases args; simp_all
  obtain ⟨rfl, rfl⟩ := trodVars_none hV
  obtain ⟨s, rfl, rfl, rfl, y0⟩ := open_string Tryd.underlying9 (hval 0 9 v0 rfl rfl) h0
  obtain ⟨⟨S, hS⟩, hD⟩ := laid_of hL
  refine (SealReads_spec hS hD s).2.mono fun e W' he => ?_
  obtain ⟨v, rfl, rfl, hsame⟩ := he
  have bel := hsame.below
  exact ⟨_, rfl, _, _, _, [], _, [], hW', trodAll_mk1 (shut_bool Tryd.underlying4 _), trodAll_cons_mk (shut_string Tryd.underlying9 y0) trodAll_mk0, rfl, bel.frame _, fun h => by cases h⟩
end SL
theorem sealReads_holds : Rows.SealReadsSaid :=
  OpenClaim.holds_of_wide 5 Tryd.f5 rfl rfl rfl rfl rfl rfl rfl ⟨rfl, rfl, rfl, rfl, rfl⟩ rfl rfl rfl rfl rfl (by kernel_rfl) Tryd.func5 (by kernel_rfl)
    (of_decide_eq_true (by kernel_rfl)) (by unfold Func.isWrapper; first | (rw [if_pos (by decide +kernel)]; kernel_rfl) | (rw [if_neg (by decide +kernel)]; exact ⟨rfl, rfl⟩))
    (fun os started H enc _ => SL.lifted os started H enc)
#print axioms sealReads_holds
end Go.Proofs.YtcabkicjboedaaaDoor
end
section
namespace Go.Proofs.YtcabkicjboedaaaDoor
open Go
set_option maxRecDepth 100000

/-- THE TIED CARD OF SealReads. -/
theorem sealReads_card_holds : Rows.SealReadsCardSaid :=
  Claim7.holds_tied_plain_at .later [] [.data, .data, .data, .sentinel, .sentinel, .sentinel, .sentinel] true (true, "499b16567e00966c6c90c9f0da176cb3b8599253600dca4ba24c3317ac8734d5") true
    sealReads_holds (fun _ h => by cases h) (by kernel_rfl) (fun _ h => by cases h) sealReads_row_tie rfl ⟨rfl, rfl⟩ (by kernel_rfl) rfl
    (fun f fn hf hfn => by
      obtain rfl : f = 5 := Option.some.inj ((show Tryd.prog.funcNamed "pasodoble/pasodoblelaw22.SealReads" = some 5 by kernel_rfl).symm.trans hf) |>.symm
      obtain rfl : fn = Tryd.f5 := (Option.some.inj (Tryd.func5.symm.trans hfn)).symm
      exact ⟨by kernel_rfl, fun j t ht => by
        rw [Tryd.params5] at ht
        have hm : t ∈ [9] := by simpa using Array.mem_of_getElem? ht
        have hall : ([9].all fun u => !Tryd.prog.wantsStandIn u) = true := by kernel_rfl
        exact (show Tryd.prog.wantsStandIn t = false by simpa using List.all_eq_true.1 hall t hm)⟩)
    (by kernel_rfl)
#print axioms sealReads_card_holds
end Go.Proofs.YtcabkicjboedaaaDoor
end
