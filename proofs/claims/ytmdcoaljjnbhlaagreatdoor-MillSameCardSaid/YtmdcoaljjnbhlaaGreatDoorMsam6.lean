/-
Lemmas for the statements of this seat: no statement of the seat is proved in this part (6 of 7); the conditions stand in each theorem.
-/
import Derived.Test.YtmdcoaljjnbhlaaGreatDoorMsam5
import Derived.Test.YtmdcoaljjnbhlaaGreatDoorProg
set_option linter.unusedSimpArgs false
set_option linter.unusedVariables false
set_option maxRecDepth 100000
namespace Go.Proofs.YtmdcoaljjnbhlaaGreatDoor
open Go Go.Ev
section
attribute [local irreducible] kO kB kStr kInt kN kG kIf kfld kld kldN kst knew kmap kbld kbldS kext kcnv klenStr klen kcap kprt kprtN kbool kint kstr keq kun ksl kix kiv kta kmk kmm ksem ksemU kextf kcallV kcallM kcall kL
theorem cloneIn_spec {w : World} {a : Option Addr} {n c : Nat} {us : List Value} (hs : SlIs w a n 3 us) (h1 : oneCells us = true) (hn : us.length ≤ 1099511627776) :
  Meets Tryz.prog 51 #[.slice a n c] w fun v w' => Own w' v 3 us ∧ Same w w' ∧ (∀ b, vblk v b → w.heap.size ≤ b) := by
 refine f51_ok ?_
 unfold f51
 rw [keq_sl_nil slIns]
 refine kB_at ?_
 cases a with
 | none =>
  have : n = 0 := by rcases hs.2 with h | ⟨_, _, _, _, _, h, _⟩; exact h; cases h
  subst this
  have : us = [] := by simpa using hs.1
  subst this
  refine kIf_T rfl ?_
  exact ⟨Own.nil _ _, Mod.refl _ _, fun b hb => by obtain ⟨_, _, _, h⟩ := hb; cases h⟩
 | some a =>
  refine kIf_F rfl ?_
  unfold f51_0
  refine kbldS_of (cs := []) rfl fun w5 h5 hs5 hb5 => ?_
  refine ksem_append apIns (by omega) (vs := []) (Own.blk hb5 (n := 0) (by simp) (by simp [maxLen])) (Src.ofSlIs (hk := (slT_of (P := Tryz.prog) (t := 27) (by kernel_rfl)).choose_spec) c (hs.same h5) h1) (by simp; omega) (by simp; omega) ?_
  intro v' w' ho hm hf
  refine ⟨by simpa using ho, Mod.after h5 hm (fun b hb => by rw [vblk_new hb]; exact Nat.le_refl _), fun b hb => ?_⟩
  rcases hf b hb with h | h
  ·rw [vblk_new h]; exact Nat.le_refl _
  ·omega
theorem nvn (k : Nat) : ¬ vblk (.slice none 0 0) k := by rintro ⟨_, _, _, e⟩; cases e
theorem IN_ones : ∀ l : List IN, oneCells (l.flatMap IN.cells) = true
 | [] => rfl
 | x :: l => by
  rw [List.flatMap_cons]
  show oneCells (.int .i64 x.op :: .int .i64 x.a :: .int .i64 x.b :: l.flatMap IN.cells) = true
  simp only [oneCells, IN_ones l]; rfl
def fuel0 (fuel : Int) : Nat := (min (max fuel 0) 4096).toNat
def MS.first {σ : Type} (fuel : Int) (s : σ) : MS σ := ⟨0, [], fuel0 fuel, false, s⟩
theorem mlNew {w : World} (h : HC) (l : List IN) {a : Option Addr} {c : Nat} (hs : SlIs w a l.length 3 (l.flatMap IN.cells)) (hn : l.length ≤ 1000000) (fuel : Int) :
  Meets Tryz.prog 17 #[.agg h.cells.toArray, .slice a l.length c, .int .i64 fuel] w fun v w' =>
   ∃ bM : Nat, v = .pointer (some ⟨bM, 0, none⟩) ∧ w.heap.size ≤ bM ∧ Same w w' ∧ ∀ {σ : Type} (s : σ) (E X : Nat → Prop), (∀ k, E k → k < w.heap.size) → MlAt h l bM E (newB w w' X) w' (MS.first fuel s) := by
 refine f17_ok ?_
 unfold f17
 refine knew_of fun w2 h2 hs2 hb2 => ?_
 have hb2 : blk w2.drew w.heap.size = some (.cells h.cells.toArray 38) := hb2
 have m2 : Same w w2.drew := h2.drew
 generalize w2.drew = wd at *
 refine kldN_at hb2 rfl (by omega) ?_
 refine kG_of rfl ?_
 refine kcall_of (cloneIn_spec (hs.same m2) (IN_ones l) (by rw [flat_len IN.cells 3 (fun _ => rfl)]; omega)) ?_
 rintro v w5 ⟨ho, h5, hf⟩
 refine kG_of ?_ ?_
 ·refine kldN_at (h5.get hb2 (fun h => h)) rfl (by omega) ?_
  exact ⟨rfl, rfl⟩
 rw [kmm_max, kmm_min]
 obtain ⟨la, n, lc, e, hsl, _⟩ := ho.is
 subst e
 have hlen : n = l.length := by
  have := hsl.1
  rw [flat_len IN.cells 3 (fun _ => rfl)] at this
  omega
 subst hlen
 have hfu : (.int .i64 (min (max fuel 0) 4096) : Value) = natV (fuel0 fuel) := by
  unfold natV fuel0
  rw [Int.toNat_of_nonneg (by omega)]
 rw [hfu]
 refine kbld_of (cs := (millC h la l.length lc 0 (.slice none 0 0) (fuel0 fuel) false).toList) rfl ?_
 refine knew_of fun w12 h12 hs12 hb12 => ?_
 refine ⟨w5.heap.size, rfl, Nat.le_trans m2.size h5.size, m2.trans (h5.trans h12), fun {σ} s E X hE => ?_⟩
 have z5 := Nat.le_trans m2.size h5.size
 have zz := h12.size
 refine ⟨⟨la, lc, .slice none 0 0, hb12, hsl.same h12, Own.nil _ _, fun k f e => ?_, fun k hk => absurd hk (nvn k)⟩, .inr ⟨z5, by omega⟩, fun he => by have := hE _ he; omega⟩
 have hv : vblk (.slice la l.length lc) k := ⟨f, _, _, by rw [e]⟩
 have hlt := ho.vblk_lt hv
 have hlo := hf k hv
 have := m2.size
 exact ⟨⟨.inr ⟨by omega, by omega⟩, by omega, nvn k⟩, by omega⟩
theorem doN_cost {σ : Type} {H : HostM σ} {cost : σ → Nat} (cw : ∀ s x n, cost (H.wr s x n) ≤ cost s + 1) (cd : ∀ s n, cost (H.dr s n).1 ≤ cost s + 1) (m : MS σ) (x : IN) (a : List Int) : cost (doN H m x a).h ≤ cost m.h + 1 := by
 have h0 : ∀ z : MS σ, z.h = m.h → cost z.h ≤ cost m.h + 1 := fun z e => by rw [e]; omega
 unfold doN
 refine ite_at (P := fun z : MS σ => cost z.h ≤ cost m.h + 1) (fun h => h0 _ rfl) (fun h2 => ?_)
 refine ite_at (P := fun z : MS σ => cost z.h ≤ cost m.h + 1) (fun h => h0 _ rfl) (fun h4 => ?_)
 refine ite_at (P := fun z : MS σ => cost z.h ≤ cost m.h + 1) (fun h => h0 _ rfl) (fun h5 => ?_)
 refine ite_at (P := fun z : MS σ => cost z.h ≤ cost m.h + 1) (fun h => h0 _ rfl) (fun h11 => ?_)
 refine ite_at (P := fun z : MS σ => cost z.h ≤ cost m.h + 1) (fun h => h0 _ rfl) (fun h19 => ?_)
 refine ite_at (P := fun z : MS σ => cost z.h ≤ cost m.h + 1) (fun h => cd m.h _) (fun h28 => ?_)
 refine ite_at (P := fun z : MS σ => cost z.h ≤ cost m.h + 1) (fun h => h0 _ rfl) (fun h0' => ?_)
 refine ite_at (P := fun z : MS σ => cost z.h ≤ cost m.h + 1) (fun h => h0 _ rfl) (fun h3 => ?_)
 refine ite_at (P := fun z : MS σ => cost z.h ≤ cost m.h + 1) (fun h => h0 _ rfl) (fun h35 => ?_)
 refine ite_at (P := fun z : MS σ => cost z.h ≤ cost m.h + 1) (fun h => ite_at (P := fun z : MS σ => cost z.h ≤ cost m.h + 1) (fun _ => h0 _ rfl) (fun _ => h0 _ rfl)) (fun h21 => ?_)
 refine ite_at (P := fun z : MS σ => cost z.h ≤ cost m.h + 1) (fun h => h0 _ rfl) (fun h20 => ?_)
 refine ite_at (P := fun z : MS σ => cost z.h ≤ cost m.h + 1) (fun h => cw m.h _ _) (fun h23 => ?_)
 refine ite_at (P := fun z : MS σ => cost z.h ≤ cost m.h + 1) (fun h => cw m.h _ _) (fun h27 => ?_)
 refine ite_at (P := fun z : MS σ => cost z.h ≤ cost m.h + 1) (fun h => cw m.h _ _) (fun h31 => ?_)
 refine ite_at (P := fun z : MS σ => cost z.h ≤ cost m.h + 1) (fun h => cw m.h _ _) (fun h32 => ?_)
 refine ite_at (P := fun z : MS σ => cost z.h ≤ cost m.h + 1) (fun h => cw m.h _ _) (fun h33 => ?_)
 refine ite_at (P := fun z : MS σ => cost z.h ≤ cost m.h + 1) (fun h => cw m.h _ _) (fun h34 => ?_)
 exact h0 _ rfl
theorem flagF64 (b : Bool) : I64 (flagF b) := by unfold flagF I64; split <;> omega
theorem wrap64 (n : Int) : I64 (IntKind.i64.wrap n) := wrap_rng n
theorem calcG64 (op y x : Int) (hy : I64 y) : I64 (calcG op y x) := by
 unfold calcG
 refine ite_at (P := I64) (fun _ => wrap64 _) (fun _ => ?_)
 refine ite_at (P := I64) (fun _ => wrap64 _) (fun _ => ?_)
 refine ite_at (P := I64) (fun _ => wrap64 _) (fun _ => ?_)
 refine ite_at (P := I64) (fun _ => ite_at (P := I64) (fun _ => I64_0) (fun _ => wrap64 _)) (fun _ => ?_)
 refine ite_at (P := I64) (fun _ => ite_at (P := I64) (fun _ => I64_0) (fun _ => wrap64 _)) (fun _ => ?_)
 refine ite_at (P := I64) (fun _ => wrap64 _) (fun _ => ?_)
 refine ite_at (P := I64) (fun _ => wrap64 _) (fun _ => ?_)
 refine ite_at (P := I64) (fun _ => wrap64 _) (fun _ => ?_)
 refine ite_at (P := I64) (fun _ => wrap64 _) (fun _ => ?_)
 refine ite_at (P := I64) (fun _ => ?_) (fun _ => ?_)
 ·unfold shrF ishr
  generalize (min ((IntKind.u64.wrap x).tmod 64).toNat IntKind.i64.bits) = k
  have hp : (0 : Int) < 2 ^ k := Int.pow_pos (by decide)
  rw [Int.fdiv_eq_ediv_of_nonneg _ (by omega)]
  obtain ⟨h1, h2⟩ := hy
  refine ⟨?_, ?_⟩
  ·by_cases h0 : 0 ≤ y
   ·have := Int.ediv_nonneg h0 (by omega : (0 : Int) ≤ 2 ^ k); omega
   ·refine Int.le_ediv_of_mul_le hp ?_
    have : (-9223372036854775808 : Int) * 2 ^ k ≤ -9223372036854775808 * 1 := Int.mul_le_mul_of_nonpos_left (by decide) (by omega)
    omega
  ·by_cases h0 : 0 ≤ y
   ·have := Int.ediv_le_self (2 ^ k) h0; omega
   ·have := Int.ediv_neg_of_neg_of_pos (by omega : y < 0) hp; omega
 refine ite_at (P := I64) (fun _ => flagF64 _) (fun _ => flagF64 _)
theorem lays64 {σ : Type} {m : MS σ} {ns : List Int} (h : numL m.st) (hn : numL ns) : numL (m.lays ns).st := by
 intro v hv
 have hv : v ∈ m.st ++ ns := hv
 rcases List.mem_append.1 hv with hv | hv
 ·exact h v hv
 ·exact hn v hv
theorem num1 {a : Int} (h : I64 a) : numL [a] := fun v hv => by rw [List.mem_singleton.1 hv]; exact h
theorem numC {a : Int} {l : List Int} (h : I64 a) (hl : numL l) : numL (a :: l) := fun v hv => by
 rcases List.mem_cons.1 hv with e | e
 ·rw [e]; exact h
 ·exact hl v e
theorem doN_num {σ : Type} {H : HostM σ} (dr64 : ∀ s n, I64 (H.dr s n).2) {m : MS σ} (x : IN) {a : List Int} (h : numL m.st) (ha : numL a) : numL (doN H m x a).st := by
 have n0 := nthF64 ha 0
 have n1 := nthF64 ha 1
 unfold doN
 refine ite_at (P := fun z : MS σ => numL z.st) (fun _ => lays64 h (numC n0 (num1 n0))) (fun h2 => ?_)
 refine ite_at (P := fun z : MS σ => numL z.st) (fun _ => lays64 h (numC n1 (num1 n0))) (fun h4 => ?_)
 refine ite_at (P := fun z : MS σ => numL z.st) (fun _ => lays64 h (numC n0 (numC n1 (num1 n0)))) (fun h5 => ?_)
 refine ite_at (P := fun z : MS σ => numL z.st) (fun _ => lays64 h (num1 (wrap64 _))) (fun h11 => ?_)
 refine ite_at (P := fun z : MS σ => numL z.st) (fun _ => lays64 h (num1 (flagF64 _))) (fun h19 => ?_)
 refine ite_at (P := fun z : MS σ => numL z.st) (fun _ => lays64 (m := m.hosts _) h (num1 (dr64 _ _))) (fun h28 => ?_)
 refine ite_at (P := fun z : MS σ => numL z.st) (fun _ => h) (fun h0' => ?_)
 refine ite_at (P := fun z : MS σ => numL z.st) (fun _ => h) (fun h3 => ?_)
 refine ite_at (P := fun z : MS σ => numL z.st) (fun _ => h) (fun h35 => ?_)
 refine ite_at (P := fun z : MS σ => numL z.st) (fun _ => ite_at (P := fun z : MS σ => numL z.st) (fun _ => h) (fun _ => h)) (fun h21 => ?_)
 refine ite_at (P := fun z : MS σ => numL z.st) (fun _ => h) (fun h20 => ?_)
 refine ite_at (P := fun z : MS σ => numL z.st) (fun _ => h) (fun h23 => ?_)
 refine ite_at (P := fun z : MS σ => numL z.st) (fun _ => h) (fun h27 => ?_)
 refine ite_at (P := fun z : MS σ => numL z.st) (fun _ => h) (fun h31 => ?_)
 refine ite_at (P := fun z : MS σ => numL z.st) (fun _ => h) (fun h32 => ?_)
 refine ite_at (P := fun z : MS σ => numL z.st) (fun _ => h) (fun h33 => ?_)
 refine ite_at (P := fun z : MS σ => numL z.st) (fun _ => h) (fun h34 => ?_)
 exact lays64 h (num1 (calcG64 _ _ _ n0))
theorem stepF_num {σ : Type} {H : HostM σ} (dr64 : ∀ s n, I64 (H.dr s n).2) {l : List IN} {m : MS σ} (hrd : ∀ x ∈ l, ∀ v, H.rd m.h x = some v → I64 v) (h : numL m.st) : numL (stepF H l m).1.st := by
 by_cases ho : overF l.length m = true
 ·rw [stepF_over ho]; exact h
 ·cases hx : l[m.place]? with
  | none => rw [stepF_none ho hx]; exact h
  | some x =>
   rw [stepF_at ho hx]
   by_cases hc : chkF l.length m x ≠ 0
   ·rw [if_pos hc]; exact h
   ·rw [if_neg hc]
    have hp : numL (preF m x).st := fun v hv => h v (List.mem_of_mem_take hv)
    have ha : numL (m.st.drop (m.st.length - takesF x.op)) := fun v hv => h v (List.mem_of_mem_drop hv)
    show numL (doF H (preF m x) x _).st
    unfold doF
    cases hr : H.rd (preF m x).h x with
    | some v => exact lays64 hp (num1 (hrd x (List.mem_of_getElem? hx) v hr))
    | none => exact doN_num dr64 x hp ha
theorem stepF_cost {σ : Type} {H : HostM σ} {cost : σ → Nat} (cw : ∀ s x n, cost (H.wr s x n) ≤ cost s + 1) (cd : ∀ s n, cost (H.dr s n).1 ≤ cost s + 1) (l : List IN) (m : MS σ) : cost (stepF H l m).1.h ≤ cost m.h + 1 := by
 by_cases ho : overF l.length m = true
 ·rw [stepF_over ho]; exact Nat.le_succ _
 ·cases hx : l[m.place]? with
  | none => rw [stepF_none ho hx]; exact Nat.le_succ _
  | some x =>
   rw [stepF_at ho hx]
   by_cases hc : chkF l.length m x ≠ 0
   ·rw [if_pos hc]; exact Nat.le_succ _
   ·rw [if_neg hc]
    show cost (doF H (preF m x) x _).h ≤ cost m.h + 1
    unfold doF
    cases H.rd (preF m x).h x with
    | some v => exact Nat.le_succ _
    | none => exact doN_cost cw cd (preF m x) x _
section
variable {σ : Type} {H : HostM σ} {h : HC} {w0 : World} {ok : IN → Prop} {cost : σ → Nat} {I : (Nat → Prop) → World → σ → Prop} {l : List IN} {E X : Nat → Prop} {w : World} {p : Nat → Prop} {Sa : Nat → Addr}
def RunI (h : HC) (w0 : World) (H : HostM σ) (cost : σ → Nat) (I : (Nat → Prop) → World → σ → Prop) (l : List IN) (bM : Nat) (E : Nat → Prop) (w : World) (m0 : MS σ) (i : Nat) (w1 : World) : Prop :=
 ∃ X m, MI h l bM E I X w1 m ∧ m.good l.length ∧ m.fuel + i = m0.fuel ∧ cost m.h + m.fuel ≤ 4999 ∧ numL m.st ∧ runF H l (m.fuel + 1) m = runF H l (m0.fuel + 1) m0 ∧ Mod (fun k => w0.heap.size ≤ k ∧ ¬ E k) w w1
theorem mlRun (ht : Tld p Sa w0) (hh : HostI H h w0 ok cost I) {a : Option Addr} {c : Nat} (hs : SlIs w a l.length 3 (l.flatMap IN.cells)) (hl : l.length ≤ 1000000) (hok : ∀ x ∈ l, ok x) {s : σ} (hi : I X w s) (hE : ∀ k, E k → X k) (fuel : Int) (hc : cost s + fuel0 fuel ≤ 4999) :
  Meets Tryz.prog 10 #[.agg h.cells.toArray, .slice a l.length c, .int .i64 fuel] w fun v w' => (∃ e, v = .tuple #[natV (runF H l (fuel0 fuel + 1) (MS.first fuel s)).1.fuel, e] ∧ ErrN Sa (runF H l (fuel0 fuel + 1) (MS.first fuel s)).2 w.heap.size e w') ∧
   (∃ X', I X' w' (runF H l (fuel0 fuel + 1) (MS.first fuel s)).1.h ∧ ∀ k, E k → X' k) ∧ Mod (fun k => w0.heap.size ≤ k ∧ ¬ E k) w w' := by
 have hb0 := hh.base hi
 refine f10_ok ?_
 unfold f10
 refine knew_of fun w2 h2' hs2 hb2 => ?_
 have hb2 : blk w2 w.heap.size = some (.cells h.cells.toArray 38) := hb2
 refine kldN_at hb2 rfl (by omega) ?_
 have hf0 : fuel0 fuel ≤ 4096 := by unfold fuel0; omega
 refine kcall_of (mlNew h l (hs.same h2') hl fuel) ?_
 rintro v w5 ⟨bM, rfl, hbM, h5, hMl⟩
 have m5 := h2'.trans h5
 have hi5 := hh.grow (fp := fun _ => False) (hh.loc hi h2') h5 (fun k hk => hk.elim)
 have hM5 : MI h l bM E I (newB w2 w5 X) w5 (MS.first fuel s) := ⟨hMl s E X fun k hk => Nat.lt_of_lt_of_le (hh.lt hi k (hE k hk)).2 h2'.size, hi5, fun k hk => .inl (hE k hk)⟩
 refine kL0_of (fuel0 fuel) (RunI h w0 H cost I l bM E w (MS.first fuel s)) ⟨lI_0 ⟨_, _, hM5, ⟨Nat.zero_le _, Nat.zero_le _, hf0⟩, rfl, hc, (fun v hv => absurd hv List.not_mem_nil), rfl, Mod.of_same m5⟩, fun w1 hx => ?_⟩
 obtain ⟨i, hi', ⟨X1, m, hM, hg, hfu, hco, hnum, hrun, hmod⟩, hJ⟩ := lI_step hx
 unfold f10_0
 refine kcall_of (mlStep ht hh hM hg hl hok (by omega) hnum) ?_
 rintro v w7 ⟨⟨e, rfl, he⟩, ⟨X2, hM7⟩, hm7⟩
 obtain ⟨g1, g2, g3⟩ := stepF_good H hh.rdo l m hg
 have gc := stepF_cost (cost := cost) hh.costw hh.costd l m
 have hz : w.heap.size ≤ w1.heap.size := hmod.size
 have er : runF H l (m.fuel + 1) m = if (stepF H l m).2.1 = true then runF H l m.fuel (stepF H l m).1 else ((stepF H l m).1, (stepF H l m).2.2) := rfl
 refine kext_at rfl ?_
 refine kext_at rfl ?_
 refine not_at ?_
 refine kB_at ?_
 refine kIf_of (fun hb => ?_) (fun hb => ?_)
 ·have hb : (stepF H l m).2.1 = false := by simpa using hb
  rw [hb, if_neg Bool.false_ne_true] at er
  rw [er] at hrun
  refine kcall_of (mlFuel hM7.ml) ?_
  rintro v w12 ⟨rfl, rfl⟩
  show _ ∧ _ ∧ _
  have er2 : runF H l (fuel0 fuel + 1) (MS.first fuel s) = ((stepF H l m).1, (stepF H l m).2.2) := hrun.symm
  rw [er2]
  exact ⟨⟨e, rfl, he.mono hz⟩, ⟨X2, hM7.hi, hM7.e⟩, hmod.trans hm7⟩
 ·have hb : (stepF H l m).2.1 = true := by simpa using hb
  rw [hb, if_pos rfl] at er
  have g3 := g3 hb
  refine hJ _ (by have : (MS.first fuel s).fuel = fuel0 fuel := rfl; omega) ⟨X2, _, hM7, g1, by omega, by omega, stepF_num hh.dr64 (fun x hx v hv => hh.rd64 hM.hi (hok x hx) hv) hnum, ?_, hmod.trans hm7⟩
  rw [g3, ← er, hrun]
end
end
section
attribute [local irreducible] kO kB kStr kInt kN kG kIf kfld kld kldN kst knew kmap kbld kbldS kext kcnv klenStr klen kcap kprt kprtN kbool kint kstr keq kun ksl kix kiv kta kmk kmm ksem ksemU kextf kcallV kcallM kcall kL
def noneM : HostM Unit := ⟨fun _ x => if x.op = 1 then some x.a else none, fun _ _ _ => (), fun _ _ => ((), 0)⟩
def noneOk (x : IN) : Prop := (x.op = 1 ∨ x.op = 6 ∨ x.op = 7 ∨ x.op = 20 ∨ x.op = 35) ∧ I64 x.a
def noneI (w0 : World) (X : Nat → Prop) (w : World) (_ : Unit) : Prop := Same w0 w ∧ ∀ k, X k → w0.heap.size ≤ k ∧ k < w.heap.size
def nilH : HC := ⟨none, none, 0, 0, 0⟩
theorem none_host (w0 : World) : HostI noneM nilH w0 noneOk (fun _ => 0) (noneI w0) where
 base h := h.1
 lt h := h.2
 loc h m := ⟨h.1.trans m, fun k hk => ⟨(h.2 k hk).1, Nat.lt_of_lt_of_le (h.2 k hk).2 m.size⟩⟩
 less h hs := ⟨h.1, fun k hk => h.2 k (hs k hk)⟩
 grow h m hf := ⟨h.1.trans' (m.mono fun k _ hk => .inr (h.2 k (hf k hk)).1), fun k hk => hk.elim (fun hk => ⟨(h.2 k hk).1, Nat.lt_of_lt_of_le (h.2 k hk).2 m.size⟩) (fun hk => ⟨Nat.le_trans h.1.size hk.1, hk.2⟩)⟩
 rdo s x h := by
  unfold noneM at h
  by_cases h1 : x.op = 1
  ·exact .inl h1
  ·exact absurd (if_neg h1) h
 rdi s x h hr := by
  unfold noneOk at h
  unfold reads at hr
  have h1 : x.op = 1 := by omega
  show (if x.op = 1 then some x.a else none) ≠ none
  rw [if_pos h1]; exact fun e => by cases e
 read {X w s b x} h hb hok := by
  refine f90_ok ?_
  unfold f90
  refine knew_of fun w2 h2 hs2 hb2 => ?_
  have hb2 : blk w2 w.heap.size = some (.cells x.cells.toArray 88) := hb2
  refine kfld_of ?_
  refine kld_of (v := .int .i64 x.op) hb2 rfl ?_
  have e : noneM.rd s x = if x.op = 1 then some x.a else none := rfl
  rw [e]
  unfold noneOk at hok
  refine eql_at ?_
  refine kB_at ?_
  refine kIf_dec (fun h1 => ?_) (fun h1 => ?_)
  ·rw [if_pos h1]
   refine kfld_of ?_
   refine kld_of (v := .int .i64 x.a) hb2 rfl ?_
   exact ⟨rfl, h2⟩
  ·rw [if_neg h1]
   repeat (first | refine kN_at ?_ | refine kB_at ?_ | refine kfld_of ?_ | refine kext_at rfl ?_ | refine kG_of (by first | exact rfl | omega) ?_ | refine klen_at ?_ | refine eql_at ?_ | refine neq_at ?_ | refine lss_at ?_ | refine leq_at ?_ | refine gtr_at ?_ | refine geq_at ?_ | refine add_at (by omega) (by omega) ?_ | refine sub_at (by omega) (by omega) ?_ | refine not_at ?_ | refine kO_at ?_ | refine kprt_at rfl ?_ | refine kprtN_at rfl ?_ | refine kcap_at ?_ | refine klenStr_at ?_ | refine kN_iat ?_ | refine kN_fat ?_ | refine kIf_T (by first | exact rfl | exact decT (by omega) | exact notT (decF (by omega))) ?_ | refine kIf_F (by first | exact rfl | exact decF (by omega) | exact notF (decT (by omega))) ?_)
   exact ⟨rfl, h2⟩
 write h hb hX hok ho hc _ := by unfold noneOk at hok; exact absurd hok (by omega)
 draw h hb hX hok ho hc _ := by unfold noneOk at hok; exact absurd hok (by omega)
 rd64 {X w s x v} h hok hv := by
  have e : noneM.rd s x = if x.op = 1 then some x.a else none := rfl
  rw [e] at hv
  split at hv
  ·cases hv; exact hok.2
  ·cases hv
 dr64 s n := I64_0
 costw s x n := Nat.zero_le _
 costd s n := Nat.zero_le _
theorem nRun {p : Nat → Prop} {Sa : Nat → Addr} {w : World} (ht : Tld p Sa w) {l : List IN} {a : Option Addr} {c : Nat} (hs : SlIs w a l.length 3 (l.flatMap IN.cells)) (hl : l.length ≤ 1000000) (hok : ∀ x ∈ l, noneOk x) (fuel : Int) {n : Nat} {k : Nat} (h1 : (runF noneM l (fuel0 fuel + 1) (MS.first fuel ())).1.fuel = n) (h2 : (runF noneM l (fuel0 fuel + 1) (MS.first fuel ())).2 = k) :
  Meets Tryz.prog 10 #[.agg nilH.cells.toArray, .slice a l.length c, .int .i64 fuel] w fun v w' => (∃ e, v = .tuple #[natV n, e] ∧ ErrN Sa k w.heap.size e w') ∧ Same w w' :=
 (mlRun ht (none_host w) hs hl hok (s := ()) (X := fun _ => False) (E := fun _ => False) ⟨Mod.refl _ _, fun k hk => hk.elim⟩ (fun k hk => hk) fuel (by unfold fuel0; omega)).mono fun v w' ⟨⟨e, e1, e2⟩, ⟨X', hI, _⟩, _⟩ => ⟨⟨e, by rw [← h1]; exact e1, by rw [← h2]; exact e2⟩, hI.1⟩
theorem sameI_spec {w : World} {a b : Option Addr} {l1 l2 : List Int} {c1 c2 : Nat} (h1 : SlIs w a l1.length 1 (l1.map nV)) (h2 : SlIs w b l2.length 1 (l2.map nV)) (hl : l1.length ≤ 1099511627776) :
  Meets Tryz.prog 26 #[.slice a l1.length c1, .slice b l2.length c2] w fun v w' => v = .bool (decide (l1 = l2)) ∧ Same w w' := by
 refine f26_ok ?_
 unfold f26
 repeat (first | refine kN_at ?_ | refine kB_at ?_ | refine kfld_of ?_ | refine kext_at rfl ?_ | refine kG_of (by first | exact rfl | omega) ?_ | refine klen_at ?_ | refine eql_at ?_ | refine neq_at ?_ | refine lss_at ?_ | refine leq_at ?_ | refine gtr_at ?_ | refine geq_at ?_ | refine add_at (by omega) (by omega) ?_ | refine sub_at (by omega) (by omega) ?_ | refine not_at ?_ | refine kO_at ?_ | refine kprt_at rfl ?_ | refine kprtN_at rfl ?_ | refine kcap_at ?_ | refine klenStr_at ?_ | refine kN_iat ?_ | refine kN_fat ?_ | refine kIf_T (by first | exact rfl | exact decT (by omega) | exact notT (decF (by omega))) ?_ | refine kIf_F (by first | exact rfl | exact decF (by omega) | exact notF (decT (by omega))) ?_)
 refine kIf_dec (fun hne => ⟨?_, Mod.refl _ _⟩) (fun heq => ?_)
 ·rw [decide_eq_false]
  rintro rfl
  exact hne rfl
 have hlen : l1.length = l2.length := by omega
 unfold f26_0
 refine kL1_of l1.length (fun i x wr => x = .int .i64 i ∧ Same w wr ∧ l1.take i = l2.take i) ⟨lI1_0 ⟨rfl, Mod.refl _ _, by simp⟩, fun x wr hx => ?_⟩
 obtain ⟨i, hi, ⟨rfl, hm, ht⟩, hJ⟩ := lI1_step hx
 unfold f26_1
 refine klen_at ?_
 refine lss_at ?_
 refine kB_at ?_
 refine kIf_dec (fun hlt => ?_) (fun hge => ?_)
 ·have hlt : i < l1.length := by omega
  unfold f26_2
  refine kixld_of (F := nV) (h1.same hm) hlt rfl ?_
  refine kG_of rfl ?_
  refine kixld_of (F := nV) (h2.same hm) (by omega) rfl ?_
  refine kG_of rfl ?_
  refine neq_at ?_
  refine kB_at ?_
  have t1 := List.take_add_one (l := l1) (i := i)
  have t2 := List.take_add_one (l := l2) (i := i)
  rw [List.getElem?_eq_getElem hlt] at t1
  rw [List.getElem?_eq_getElem (show i < l2.length by omega)] at t2
  refine kIf_dec (fun hne => ⟨?_, hm.drew⟩) (fun heq => ?_)
  ·rw [decide_eq_false]
   rintro rfl
   exact hne rfl
  ·unfold f26_3
   repeat (first | refine kN_at ?_ | refine kB_at ?_ | refine kfld_of ?_ | refine kext_at rfl ?_ | refine kG_of (by first | exact rfl | omega) ?_ | refine klen_at ?_ | refine eql_at ?_ | refine neq_at ?_ | refine lss_at ?_ | refine leq_at ?_ | refine gtr_at ?_ | refine geq_at ?_ | refine add_at (by omega) (by omega) ?_ | refine sub_at (by omega) (by omega) ?_ | refine not_at ?_ | refine kO_at ?_ | refine kprt_at rfl ?_ | refine kprtN_at rfl ?_ | refine kcap_at ?_ | refine klenStr_at ?_ | refine kN_iat ?_ | refine kN_fat ?_ | refine kIf_T (by first | exact rfl | exact decT (by omega) | exact notT (decF (by omega))) ?_ | refine kIf_F (by first | exact rfl | exact decF (by omega) | exact notF (decT (by omega))) ?_)
   rw [cast_succ]
   refine hJ _ _ hlt ⟨rfl, hm.drew, ?_⟩
   rw [t1, t2, ht, Decidable.not_not.1 heq]
 ·unfold f26_4
  have hi' : i = l1.length := by omega
  subst hi'
  refine ⟨?_, hm⟩
  rw [List.take_length, hlen, List.take_length] at ht
  rw [decide_eq_true ht]
def subL : List IN := [⟨1, 7, 0⟩, ⟨1, 2, 0⟩, ⟨7, 0, 0⟩]
def subM : Nat → MS Unit
 | 0 => MS.first 10 ()
 | n + 1 => (stepF noneM subL (subM n)).1
theorem Tld.same {p : Nat → Prop} {Sa : Nat → Addr} {w w' : World} (h : Tld p Sa w) (m : Same w w') : Tld p Sa w' := ⟨h.hL.same m, h.hr.same m, h.k12, h.k13, h.k14, h.k15⟩
theorem subM_ok : ∀ i, i < 3 → (stepF noneM subL (subM i)).2 = (true, 0) ∧ (subM i).good 3
 | 0, _ => ⟨rfl, by unfold MS.good; decide⟩ | 1, _ => ⟨rfl, by unfold MS.good; decide⟩ | 2, _ => ⟨rfl, by unfold MS.good; decide⟩ | n + 3, h => by omega
theorem subM_num : ∀ i, i < 3 → numL (subM i).st
 | 0, _ => fun v hv => absurd hv List.not_mem_nil
 | 1, _ => fun v hv => by have hv : v ∈ [(7 : Int)] := hv; rw [List.mem_singleton.1 hv]; unfold I64; decide
 | 2, _ => fun v hv => by have hv : v ∈ [(7 : Int), 2] := hv; simp only [List.mem_cons, List.not_mem_nil, or_false] at hv; unfold I64; rcases hv with rfl | rfl <;> decide
 | n + 3, h => by omega
theorem awake17_spec {p : Nat → Prop} {Sa : Nat → Addr} {w : World} (ht : Tld p Sa w) : Meets Tryz.prog 7 #[] w fun v w' => v = .bool true ∧ Same w w' := by
 refine f7_ok ?_
 unfold f7
 refine kbld_of (cs := nilH.cells) rfl ?_
 refine kbld_of (cs := (⟨1, 7, 0⟩ : IN).cells) rfl ?_
 refine kbld_of (cs := (⟨1, 2, 0⟩ : IN).cells) rfl ?_
 refine kbld_of (cs := (⟨7, 0, 0⟩ : IN).cells) rfl ?_
 refine kbldS_of (cs := subL.flatMap IN.cells) rfl fun w6 h6 hs6 hb6 => ?_
 refine kcall_of (mlNew nilH subL (SlIs.blk hb6 rfl) (by decide) 10) ?_
 rintro v w8 ⟨bM, rfl, hbM, h8, hM⟩
 have m8 := h6.trans h8
 have hM8 : MI nilH subL bM (fun _ => False) (noneI w) (newB w6 w8 fun _ => False) w8 (subM 0) := ⟨hM () (fun _ => False) (fun _ => False) (fun k hk => hk.elim), ⟨m8, fun k hk => hk.elim (fun hk => hk.elim) (fun hk => ⟨Nat.le_trans h6.size hk.1, hk.2⟩)⟩, fun k hk => hk.elim⟩
 rw [keq_ptr_nil ptMill]
 refine kB_at ?_
 refine kIf_F rfl ?_
 unfold f7_0
 refine kL1_of 3 (fun i x wr => (∃ X, MI nilH subL bM (fun _ => False) (noneI w) X wr (subM i)) ∧ x = .int .i64 i) ⟨lI1_0 ⟨⟨_, hM8⟩, rfl⟩, fun x wr hx => ?_⟩
 obtain ⟨i, hi, ⟨⟨X, hMi⟩, rfl⟩, hJ⟩ := lI1_step hx
 unfold f7_1
 refine lss_at ?_
 refine kB_at ?_
 refine kIf_dec (fun hlt => ?_) (fun hge => ?_)
 ·have hlt : i < 3 := by omega
  obtain ⟨e1, e2⟩ := subM_ok i hlt
  unfold f7_2
  refine kcall_of (mlStep ht (none_host w) hMi e2 (by decide) (fun x hx => by simp only [subL, List.mem_cons, List.not_mem_nil, or_false] at hx; unfold noneOk I64; rcases hx with rfl | rfl | rfl <;> decide) (Nat.zero_le _) (subM_num i hlt)) ?_
  rintro v w13 ⟨⟨e, rfl, he⟩, ⟨X', hM'⟩, _⟩
  rw [e1] at he
  rw [e1]
  have he : e = .nilIface := he
  subst he
  refine kext_at rfl ?_
  refine kext_at rfl ?_
  refine not_at ?_
  refine kB_at ?_
  refine kIf_T rfl ?_
  rw [keq_nil_nil' ifErr]
  unfold f7_3
  refine kB_at ?_
  refine kIf_F rfl ?_
  unfold f7_4
  refine add_at (by omega) (by omega) ?_
  rw [cast_succ]
  exact hJ _ _ hlt ⟨⟨X', hM'⟩, rfl⟩
 ·have : i = 3 := by omega
  subst this
  have mr := hMi.hi.1
  clear hJ hx
  unfold f7_5
  refine kbld_of (cs := nilH.cells) rfl ?_
  refine kbld_of (cs := (⟨20, 0, 0⟩ : IN).cells) rfl ?_
  refine kbldS_of (cs := [(⟨20, 0, 0⟩ : IN)].flatMap IN.cells) rfl fun w25 h25 hs25 hb25 => ?_
  have m25 := mr.trans h25
  refine kcall_of (nRun (l := [⟨20, 0, 0⟩]) (ht.same m25) (SlIs.blk hb25 rfl) (by decide) (fun x hx => by rw [List.mem_singleton.1 hx]; unfold noneOk I64; decide) 10 (n := 0) (k := 15) rfl rfl) ?_
  rintro v w27 ⟨⟨x1, rfl, hx1⟩, h27⟩
  have m27 := m25.trans h27
  refine kext_at rfl ?_
  refine kext_at rfl ?_
  refine kbld_of (cs := nilH.cells) rfl ?_
  refine kbld_of (cs := (⟨1, 0, 0⟩ : IN).cells) rfl ?_
  refine kbld_of (cs := (⟨35, 0, 0⟩ : IN).cells) rfl ?_
  refine kbld_of (cs := (⟨6, 0, 0⟩ : IN).cells) rfl ?_
  refine kbldS_of (cs := [(⟨1, 0, 0⟩ : IN), ⟨35, 0, 0⟩, ⟨6, 0, 0⟩].flatMap IN.cells) rfl fun w35 h35 hs35 hb35 => ?_
  have m35 := m27.trans h35
  refine kcall_of (nRun (l := [⟨1, 0, 0⟩, ⟨35, 0, 0⟩, ⟨6, 0, 0⟩]) (ht.same m35) (SlIs.blk hb35 rfl) (by decide) (fun x hx => by simp only [List.mem_cons, List.not_mem_nil, or_false] at hx; unfold noneOk I64; rcases hx with rfl | rfl | rfl <;> decide) 10 (n := 8) (k := 0) rfl rfl) ?_
  rintro v w37 ⟨⟨x2, rfl, hx2⟩, h37⟩
  have hx2 : x2 = .nilIface := hx2
  subst hx2
  have m37 := m35.trans h37
  refine kext_at rfl ?_
  refine kext_at rfl ?_
  refine kbld_of (cs := nilH.cells) rfl ?_
  refine kbld_of (cs := (⟨6, 0, 0⟩ : IN).cells) rfl ?_
  refine kbldS_of (cs := [(⟨6, 0, 0⟩ : IN)].flatMap IN.cells) rfl fun w43 h43 hs43 hb43 => ?_
  have m43 := m37.trans h43
  refine kcall_of (nRun (l := [⟨6, 0, 0⟩]) (ht.same m43) (SlIs.blk hb43 rfl) (by decide) (fun x hx => by rw [List.mem_singleton.1 hx]; unfold noneOk I64; decide) 10 (n := 10) (k := 12) rfl rfl) ?_
  rintro v w45 ⟨⟨x3, rfl, hx3⟩, h45⟩
  have m45 := m43.trans h45
  refine kext_at rfl ?_
  refine kext_at rfl ?_
  have hr45 : Same wr w45 := h25.trans (h27.trans (h35.trans (h37.trans (h43.trans h45))))
  have hM45 := hMi.ml.same hr45
  refine kcall_of (mlStack hM45 (by decide)) ?_
  rintro v w49 ⟨ho, _, h49⟩
  obtain ⟨a, m, c, rfl, hsl, hm1⟩ := ho.is
  have hm1 : m = [(5 : Int)].length := hm1 rfl
  subst hm1
  refine kbldS_of (cs := [.int .i64 5]) rfl fun w51 h51 hs51 hb51 => ?_
  have hsl : SlIs w49 a [(5 : Int)].length 1 ([(5 : Int)].map nV) := hsl
  refine kcall_of (sameI_spec (l1 := [5]) (l2 := [5]) (hsl.same h51) (SlIs.blk hb51 rfl) (by decide)) ?_
  rintro v w53 ⟨rfl, h53⟩
  have h53' := (h49.trans h51).trans h53
  have m53 := m45.trans h53'
  have hM53 := hM45.same h53'
  rw [decide_eq_true rfl]
  refine kB_at ?_
  refine kIf_T rfl ?_
  refine kcall_of (mlFuel hM53) ?_
  rintro v w56 ⟨rfl, rfl⟩
  refine eql_at ?_
  refine kB_at ?_
  refine kIf_T (decT (show (((subM 3).fuel : Nat) : Int) = 7 from rfl)) ?_
  refine kcall_of (mlOver hM53) ?_
  rintro v w60 ⟨rfl, h60⟩
  have m60 := m53.trans h60
  refine kB_at ?_
  refine kIf_T (show overF subL.length (subM 3) = true from rfl) ?_
  refine eql_at ?_
  refine kB_at ?_
  refine kIf_T rfl ?_
  have h60' := (h35.trans (h37.trans (h43.trans h45))).trans (h53'.trans h60)
  refine kld_err (ht.hL.same m60) (k := 15) ht.k15 rfl rfl ?_
  have hx60 : ErrX Sa 15 _ x1 w60 := (show ErrX Sa 15 _ x1 w27 from hx1).same h60'
  refine kcall_of (isX_spec (ht.hL.same m60) ht.k15 ht.k15 hx60) ?_
  rintro v w66 ⟨rfl, rfl⟩
  refine kB_at ?_
  refine kIf_T rfl ?_
  refine eql_at ?_
  refine kB_at ?_
  refine kIf_T rfl ?_
  rw [keq_nil_nil ifErr]
  refine kB_at ?_
  refine kIf_T rfl ?_
  refine kld_err (ht.hL.same m60) (k := 12) ht.k12 rfl rfl ?_
  have hz60 : ErrX Sa 12 _ x3 w66 := (show ErrX Sa 12 _ x3 w45 from hx3).same (h53'.trans h60)
  refine kcall_of (isX_spec (ht.hL.same m60) ht.k12 ht.k12 hz60) ?_
  rintro v w75 ⟨rfl, rfl⟩
  exact ⟨rfl, m60⟩
end
section
attribute [local irreducible] kO kB kStr kInt kN kG kIf kfld kld kldN kst knew kmap kbld kbldS kext kcnv klenStr klen kcap kprt kprtN kbool kint kstr keq kun ksl kix kiv kta kmk kmm ksem ksemU kextf kcallV kcallM kcall kL
structure WM (σ : Type) where
 get : σ → Int → Option Part
 res : σ → Int → Option Int
 fr : σ → Int
 set : σ → Int → Int → Int → σ
 asg : σ → Int → Int → σ
 dr : σ → Int → σ × Int
 add : σ → OrdM → σ
def cellF (q : Part) (i : Int) : Int := if i = 0 then q.v0 else if i = 1 then q.v1 else if i = 2 then q.v2 else q.v3
def loadF (g : Option Part) (i : Int) : Int := match g with
 | some q => if i < 0 ∨ 4 ≤ i then 0 else cellF q i
 | none => 0
def inpF (h : HC) (i : Int) : Int := if i < 0 ∨ 2 ≤ i then 0 else if i = 0 then h.i0 else h.i1
def ordF (h : HC) (x : IN) : OrdM :=
 if x.op = 31 then ⟨1, 0, (IntKind.u32.wrap x.a).toNat, 0⟩ else if x.op = 32 then ⟨2, h.who, 0, 0⟩ else if x.op = 33 then ⟨3, h.who, 0, x.a⟩ else ⟨4, h.who, 0, x.a⟩
def mkHost {σ : Type} (W : WM σ) (h : HC) : HostM σ where
 rd s x := if x.op = 1 then some x.a else if x.op = 22 then some (loadF (W.get s x.a) x.b) else if x.op = 24 then some (flagF (W.get s x.a).isSome)
  else if x.op = 25 then some (inpF h x.a) else if x.op = 26 then some ((W.res s x.a).getD 0) else if x.op = 29 then some h.who else if x.op = 30 then some (W.fr s) else none
 wr s x n := if x.op = 23 then W.set s x.a x.b n else if x.op = 27 then W.asg s x.a n else W.add s (ordF h x)
 dr := W.dr
structure WI {σ : Type} (W : WM σ) (h : HC) (w0 : World) (cost : σ → Nat) (I : (Nat → Prop) → World → σ → Prop) : Prop where
 base : ∀ {X w s}, I X w s → Same w0 w
 lt : ∀ {X w s}, I X w s → ∀ k, X k → w0.heap.size ≤ k ∧ k < w.heap.size
 loc : ∀ {X w w' s}, I X w s → Same w w' → I X w' s
 less : ∀ {X X' w s}, I X w s → (∀ k, X' k → X k) → I X' w s
 grow : ∀ {X fp w w' s}, I X w s → Mod fp w w' → (∀ k, fp k → X k) → I (newB w w' X) w' s
 get : ∀ {X w s} (c : Int), I X w s → I64 c → Meets Tryz.prog 185 #[.pointer h.wp, nV h.who, nV c] w fun v w' => (∃ q e, v = .tuple #[.agg q.cells.toArray, e] ∧ (W.get s c = some q ∧ e = .nilIface ∨ W.get s c = none ∧ ErrI e)) ∧ Same w w'
 res : ∀ {X w s} (i : Int), I X w s → Meets Tryz.prog 139 #[.pointer h.wp, nV i] w fun v w' => (∃ b : Bool, v = .tuple #[nV ((W.res s i).getD 0), .bool b]) ∧ Same w w'
 fr : ∀ {X w s}, I X w s → Meets Tryz.prog 140 #[.pointer h.wp] w fun v w' => v = nV (W.fr s) ∧ Same w w'
 set : ∀ {X w s} (c i n : Int), I X w s → I64 c → cost s ≤ 5000 → I64 n → Meets Tryz.prog 142 #[.pointer h.wp, nV h.who, nV c, nV i, nV n] w fun v w' => I X w' (W.set s c i n) ∧ Mod (fun k => w0.heap.size ≤ k ∧ ¬ X k) w w'
 asg : ∀ {X w s} (i n : Int), I X w s → cost s ≤ 5000 → I64 n → Meets Tryz.prog 143 #[.pointer h.wp, nV i, nV n] w fun v w' => I X w' (W.asg s i n) ∧ Mod (fun k => w0.heap.size ≤ k ∧ ¬ X k) w w'
 dr : ∀ {X w s} (n : Int), I X w s → cost s ≤ 5000 → I64 n → Meets Tryz.prog 141 #[.pointer h.wp, nV n] w fun v w' => (∃ e, v = .tuple #[nV (W.dr s n).2, e]) ∧ I X w' (W.dr s n).1 ∧ Mod (fun k => w0.heap.size ≤ k ∧ ¬ X k) w w'
 add : ∀ {X w s} (x : OrdM), I X w s → x.ok → cost s ≤ 5000 → Meets Tryz.prog 144 #[.pointer h.op, x.val] w fun v w' => I X w' (W.add s x) ∧ Mod (fun k => w0.heap.size ≤ k ∧ ¬ X k) w w'
 get64 : ∀ {X w s c q}, I X w s → W.get s c = some q → q.ok
 res64 : ∀ {X w s i v}, I X w s → W.res s i = some v → I64 v
 fr64 : ∀ {X w s}, I X w s → I64 (W.fr s)
 dr64 : ∀ s n, I64 (W.dr s n).2
 in64 : I64 h.i0 ∧ I64 h.i1 ∧ I64 h.who
 cset : ∀ s c i n, cost (W.set s c i n) ≤ cost s + 1
 casg : ∀ s i n, cost (W.asg s i n) ≤ cost s + 1
 cdr : ∀ s n, cost (W.dr s n).1 ≤ cost s + 1
 cadd : ∀ s x, cost (W.add s x) ≤ cost s + 1
def okIN (x : IN) : Prop := I64 x.a
section
variable {σ : Type} {W : WM σ} {h : HC} {w0 : World} {cost : σ → Nat} {I : (Nat → Prop) → World → σ → Prop} {X : Nat → Prop} {w : World} {s : σ} {b : Nat}
theorem HAt.same {w' : World} (hb : HAt h b w) (m : Same w w') : HAt h b w' := by
 obtain ⟨la, n, lc, pl, sv, fu, ov, hb⟩ := hb
 exact ⟨la, n, lc, pl, sv, fu, ov, m.get hb fun h => h⟩
theorem hPart (hW : WI W h w0 cost I) (hi : I X w s) (hb : HAt h b w) {c : Int} (hc : I64 c) : Meets Tryz.prog 138 #[.pointer (some ⟨b, 0, none⟩), nV c] w fun v w' => (∃ q, v = .tuple #[.agg q.cells.toArray, .bool (W.get s c).isSome] ∧ (W.get s c = some q ∨ W.get s c = none)) ∧ Same w w' := by
 refine f138_ok ?_
 unfold f138
 refine knew_of fun w2 h2 hs2 hb2 => ?_
 have m2 : Same w w2.drew := h2.drew
 have hb2 : blk w2.drew w.heap.size = _ := hb2
 generalize w2.drew = wd at *
 have hbd := hb.same m2
 obtain ⟨la, n, lc, pl, sv, fu, ov, hbd⟩ := hbd
 have hz2 : w.heap.size < wd.heap.size := lt_of_blk hb2
 have tail : ∀ (w1 : World) (bp : Nat) (q : Part) (e : Value), Same wd w1 → bp ≠ w.heap.size → blk w1 bp = some (.cells q.cells.toArray 49) → (W.get s c = some q ∧ e = .nilIface ∨ W.get s c = none ∧ ErrI e) → f138_0 (.pointer (some ⟨w.heap.size, 0, none⟩)) (.pointer (some ⟨bp, 0, none⟩)) e (fun v w' => (∃ q, v = .tuple #[.agg q.cells.toArray, .bool (W.get s c).isSome] ∧ (W.get s c = some q ∨ W.get s c = none)) ∧ Same w w') w1 := by
  intro w1 bp q e m hne hbp he
  unfold f138_0
  have md : Same w1 w1.drew := (Mod.refl (fun _ => False) _).drew
  have mm := m2.trans (m.trans md)
  have hbp := md.get hbp (fun h => h)
  have hb2 := (m.trans md).get hb2 (fun h => h)
  generalize w1.drew = wz at *
  refine kldN_at hbp rfl (by omega) ?_
  refine kG_of rfl ?_
  have keq : ∀ (wy : World) (K : Value → World → Prop), K (.bool (W.get s c).isSome) wy → keq Tryz.prog .eql 41 false true e .nilIface wy K := by
   intro wy K hK
   rcases he with ⟨hg, rfl⟩ | ⟨hg, ty, y, rfl⟩
   ·rw [keq_nil_nil ifErr]; rw [hg] at hK; exact hK
   ·rw [keq_if_nil ifErr]; rw [hg] at hK; exact hK
  refine keq _ _ ?_
  refine kG_of rfl ?_
  refine kst_of (vs := q.cells) hb2 rfl rfl rfl (by simp) (by simp [Part.cells]) fun w33 h33 hs33 hb33 => ?_
  have hb33 : blk w33 w.heap.size = some (.cells q.cells.toArray 49) := hb33
  refine kG_of (keq _ _ ⟨rfl, rfl⟩) ?_
  refine kldN_at hb33 rfl (by omega) ?_
  exact ⟨⟨q, rfl, he.imp (fun h => h.1) (fun h => h.1)⟩, mm.trans' (h33.mono fun k _ e => .inr (by omega))⟩
 refine ⟨?_, ?_⟩
 ·repeat (first | refine kN_at ?_ | refine kB_at ?_ | refine kfld_of ?_ | refine kext_at rfl ?_ | refine kld_at hbd rfl ?_ | refine kldN_at hbd rfl (by omega) ?_ | refine kG_of (by first | exact rfl | omega) ?_ | refine klen_at ?_ | refine eql_at ?_ | refine neq_at ?_ | refine lss_at ?_ | refine leq_at ?_ | refine gtr_at ?_ | refine geq_at ?_ | refine add_at (by omega) (by omega) ?_ | refine sub_at (by omega) (by omega) ?_ | refine not_at ?_ | refine kO_at ?_ | refine kprt_at rfl ?_ | refine kprtN_at rfl ?_ | refine kcap_at ?_ | refine klenStr_at ?_ | refine kN_iat ?_ | refine kN_fat ?_ | refine kIf_T (by first | exact rfl | exact decT (by omega) | exact notT (decF (by omega))) ?_ | refine kIf_F (by first | exact rfl | exact decF (by omega) | exact notF (decT (by omega))) ?_)
  refine kcall_of (hW.get c (hW.loc hi m2) hc) ?_
  rintro v w8 ⟨⟨q, e, rfl, he⟩, h8⟩
  refine knew_of fun w10 h10 hs10 hb10 => ?_
  have hb10' := (h8.trans h10).get hbd (fun h => h)
  refine kG_of (kld_at hb10' rfl ⟨rfl, rfl⟩) ?_
  refine kG_of (kld_at hb10' rfl ⟨rfl, rfl⟩) ?_
  refine kext_at rfl ?_
  refine kst_of (vs := q.cells) hb10 rfl rfl rfl (by simp) (by simp [Part.cells]) fun w12 h12 hs12 hb12 => ?_
  have hb12 : blk w12 w8.heap.size = some (.cells q.cells.toArray 49) := hb12
  refine kext_at rfl ?_
  have hz8 := h8.size
  exact tail _ _ q e (h8.trans (h10.trans' (h12.mono fun k _ e => .inr (by omega)))) (by omega) hb12 he
 ·refine knew_of fun w24 h24 hs24 hb24 => ?_
  have hb24' := h24.get hbd (fun h => h)
  refine kN_at ?_
  refine kfld_of ?_
  refine kld_at hb24' rfl ?_
  refine kG_of rfl ?_
  refine kG_of (kld_at hbd rfl ⟨rfl, rfl⟩) ?_
  refine kN_at ?_
  refine kfld_of ?_
  refine kld_at hb24' rfl ?_
  refine kG_of rfl ?_
  refine kG_of (kld_at hbd rfl ⟨rfl, rfl⟩) ?_
  refine kcall_of (hW.get c (hW.loc hi (m2.trans h24)) hc) ?_
  rintro v w30 ⟨⟨q, e, rfl, he⟩, h30⟩
  refine kext_at rfl ?_
  refine kst_of (vs := q.cells) (h30.get hb24 (fun h => h)) rfl rfl rfl (by simp) (by simp [Part.cells]) fun w12 h12 hs12 hb12 => ?_
  have hb12 : blk w12 wd.heap.size = some (.cells q.cells.toArray 49) := hb12
  refine kext_at rfl ?_
  exact tail _ _ q e ((h24.trans h30).trans' (h12.mono fun k _ e => .inr (by omega))) (by omega) hb12 he
theorem hLoad (hW : WI W h w0 cost I) (hi : I X w s) (hb : HAt h b w) {c : Int} (hc : I64 c) (i : Int) : Meets Tryz.prog 137 #[.pointer (some ⟨b, 0, none⟩), nV c, nV i] w fun v w' => v = nV (loadF (W.get s c) i) ∧ Same w w' := by
 refine f137_ok ?_
 unfold f137
 refine kcall_of (hPart hW hi hb hc) ?_
 rintro v w2 ⟨⟨q, rfl, hq⟩, h2⟩
 refine kext_at rfl ?_
 refine kext_at rfl ?_
 refine knew_of fun w6 h6 hs6 hb6 => ?_
 refine kst_of (vs := q.cells) hb6 rfl rfl rfl (by simp) (by simp [Part.cells]) fun w7 h7 hs7 hb7 => ?_
 have hb7 : blk w7 w2.heap.size = some (.cells q.cells.toArray 49) := hb7
 have m7 : Same w w7 := h2.trans (h6.trans' (h7.mono fun k _ e => .inr (by omega)))
 have zero : ∀ Q : PQ, Q (nV 0) w7 → f137_0 (nV i) (.pointer (some ⟨w2.heap.size, 0, none⟩)) (.bool true) Q w7 := by
  intro Q hQ
  unfold f137_0
  refine kB_at ?_
  exact kIf_T rfl hQ
 refine not_at ?_
 refine kB_at ?_
 rcases hq with hq | hq
 ·rw [hq]
  refine kIf_T rfl ?_
  have el : loadF (some q) i = if i < 0 ∨ 4 ≤ i then 0 else cellF q i := rfl
  rw [el]
  refine lss_at ?_
  refine kB_at ?_
  refine kIf_ndec (fun h0 => ?_) (fun h0 => zero _ ⟨by rw [if_pos (.inl h0)], m7⟩)
  refine geq_at ?_
  by_cases h4 : 4 ≤ i
  ·rw [decide_eq_true h4]
   exact zero _ ⟨by rw [if_pos (.inr h4)], m7⟩
  ·rw [decide_eq_false h4, if_neg (by omega)]
   unfold f137_0
   refine kB_at ?_
   refine kIf_F rfl ?_
   unfold f137_1
   refine kfld_of ?_
   unfold nV
   rw [kix_array]
   refine kG_of (by omega) ?_
   unfold cellF
   have hi4 : i = 0 ∨ i = 1 ∨ i = 2 ∨ i = 3 := by omega
   rcases hi4 with rfl | rfl | rfl | rfl
   ·exact kld_at hb7 rfl ⟨rfl, m7⟩
   ·exact kld_at hb7 rfl ⟨rfl, m7⟩
   ·exact kld_at hb7 rfl ⟨rfl, m7⟩
   ·exact kld_at hb7 rfl ⟨rfl, m7⟩
 ·rw [hq]
  refine kIf_F rfl ?_
  exact zero _ ⟨rfl, m7⟩
theorem hRead (hW : WI W h w0 cost I) (hi : I X w s) (hb : HAt h b w) {x : IN} (hx : okIN x) : Meets Tryz.prog 90 #[.pointer (some ⟨b, 0, none⟩), .agg x.cells.toArray] w fun v w' => v = .tuple #[nV (((mkHost W h).rd s x).getD 0), .bool ((mkHost W h).rd s x).isSome] ∧ Same w w' := by
 refine f90_ok ?_
 unfold f90
 refine knew_of fun w2 h2 hs2 hb2 => ?_
 have hb2 : blk w2 w.heap.size = some (.cells x.cells.toArray 88) := hb2
 have hi2 := hW.loc hi h2
 have hH2 := hb.same h2
 have er : (mkHost W h).rd s x = if x.op = 1 then some x.a else if x.op = 22 then some (loadF (W.get s x.a) x.b) else if x.op = 24 then some (flagF (W.get s x.a).isSome) else if x.op = 25 then some (inpF h x.a) else if x.op = 26 then some ((W.res s x.a).getD 0) else if x.op = 29 then some h.who else if x.op = 30 then some (W.fr s) else none := rfl
 rw [er]
 refine kfld_of ?_
 refine kld_of (v := .int .i64 x.op) hb2 rfl ?_
 refine eql_at ?_
 refine kB_at ?_
 refine kIf_dec (fun h1 => ?_) (fun h1 => ?_)
 ·rw [if_pos h1]
  refine kfld_of ?_
  refine kld_of (v := .int .i64 x.a) hb2 rfl ?_
  exact ⟨rfl, h2⟩
 rw [if_neg h1]
 refine eql_at ?_
 refine kB_at ?_
 refine kIf_dec (fun h1 => ?_) (fun h1 => ?_)
 ·rw [if_pos h1]
  refine kfld_of ?_
  refine kld_of (v := nV x.a) hb2 rfl ?_
  refine kfld_of ?_
  refine kld_of (v := nV x.b) hb2 rfl ?_
  refine kcall_of (hLoad hW hi2 hH2 hx x.b) ?_
  rintro v w6 ⟨rfl, h6⟩
  exact ⟨rfl, h2.trans h6⟩
 rw [if_neg h1]
 refine eql_at ?_
 refine kB_at ?_
 refine kIf_dec (fun h1 => ?_) (fun h1 => ?_)
 ·rw [if_pos h1]
  refine kfld_of ?_
  refine kld_of (v := nV x.a) hb2 rfl ?_
  refine kcall_of (hPart hW hi2 hH2 hx) ?_
  rintro v w6 ⟨⟨q, rfl, _⟩, h6⟩
  refine kext_at rfl ?_
  refine kext_at rfl ?_
  refine knew_of fun w8 h8 hs8 hb8 => ?_
  refine kst_of (vs := q.cells) hb8 rfl rfl rfl (by simp) (by simp [Part.cells]) fun w9 h9 hs9 hb9 => ?_
  refine kcall_of (flag_spec _ w9) ?_
  rintro v w10 ⟨rfl, rfl⟩
  exact ⟨rfl, h2.trans (h6.trans (h8.trans' (h9.mono fun k _ e => .inr (by omega))))⟩
 rw [if_neg h1]
 refine eql_at ?_
 refine kB_at ?_
 refine kIf_dec (fun h1 => ?_) (fun h1 => ?_)
 ·rw [if_pos h1]
  refine kfld_of ?_
  refine kld_of (v := .int .i64 x.a) hb2 rfl ?_
  refine lss_at ?_
  refine kB_at ?_
  refine kIf_ndec (fun h0 => ?_) (fun h0 => ?_)
  ·refine kfld_of ?_
   refine kld_of (v := .int .i64 x.a) hb2 rfl ?_
   refine geq_at ?_
   by_cases h4 : 2 ≤ x.a
   ·rw [decide_eq_true h4]
    unfold f90_0
    refine kB_at ?_
    refine kIf_T rfl ?_
    exact ⟨by unfold inpF; rw [if_pos (.inr h4)]; rfl, h2⟩
   ·rw [decide_eq_false h4]
    unfold f90_0
    refine kB_at ?_
    refine kIf_F rfl ?_
    unfold f90_1
    have m2 : Same w w2.drew := h2.drew
    obtain ⟨la, n, lc, pl, sv, fu, ov, hbd⟩ := hb.same m2
    have hb2 : blk w2.drew w.heap.size = some (.cells x.cells.toArray 88) := hb2
    generalize w2.drew = wd at *
    refine kfld_of ?_
    refine kld_of (v := .int .i64 x.a) hb2 rfl ?_
    refine kG_of rfl ?_
    refine kN_at ?_
    refine kfld_of ?_
    rw [kix_array]
    refine kG_of (by omega) ?_
    have ha : x.a = 0 ∨ x.a = 1 := by omega
    unfold inpF
    rw [if_neg (by omega)]
    rcases ha with ha | ha
    ·rw [ha]
     refine kld_at hbd rfl ?_
     refine kG_of rfl ?_
     exact ⟨rfl, m2⟩
    ·rw [ha]
     refine kld_at hbd rfl ?_
     refine kG_of rfl ?_
     exact ⟨rfl, m2⟩
  ·unfold f90_0
   refine kB_at ?_
   refine kIf_T rfl ?_
   exact ⟨by unfold inpF; rw [if_pos (.inl h0)]; rfl, h2⟩
 rw [if_neg h1]
 obtain ⟨la, n, lc, pl, sv, fu, ov, hbd⟩ := hH2
 refine eql_at ?_
 refine kB_at ?_
 refine kIf_dec (fun h1 => ?_) (fun h1 => ?_)
 ·rw [if_pos h1]
  have hbd' : blk w2.drew b = _ := hbd
  have hb2' : blk w2.drew w.heap.size = some (.cells x.cells.toArray 88) := hb2
  repeat (first | refine kN_at ?_ | refine kB_at ?_ | refine kfld_of ?_ | refine kext_at rfl ?_ | refine kld_at hbd' rfl ?_ | refine kldN_at hbd' rfl (by omega) ?_ | refine kG_of (by first | exact rfl | omega) ?_ | refine klen_at ?_ | refine eql_at ?_ | refine neq_at ?_ | refine lss_at ?_ | refine leq_at ?_ | refine gtr_at ?_ | refine geq_at ?_ | refine add_at (by omega) (by omega) ?_ | refine sub_at (by omega) (by omega) ?_ | refine not_at ?_ | refine kO_at ?_ | refine kprt_at rfl ?_ | refine kprtN_at rfl ?_ | refine kcap_at ?_ | refine klenStr_at ?_ | refine kN_iat ?_ | refine kN_fat ?_ | refine kIf_T (by first | exact rfl | exact decT (by omega) | exact notT (decF (by omega))) ?_ | refine kIf_F (by first | exact rfl | exact decF (by omega) | exact notF (decT (by omega))) ?_)
  refine kld_of (v := nV x.a) hb2' rfl ?_
  refine kG_of rfl ?_
  refine kcall_of (hW.res x.a (hW.loc hi h2.drew)) ?_
  rintro v w6 ⟨⟨bb, rfl⟩, h6⟩
  refine kext_at rfl ?_
  refine kext_at rfl ?_
  exact ⟨rfl, h2.drew.trans h6⟩
 rw [if_neg h1]
 refine eql_at ?_
 refine kB_at ?_
 refine kIf_dec (fun h1 => ?_) (fun h1 => ?_)
 ·rw [if_pos h1]
  refine kN_at ?_
  refine kfld_of ?_
  refine kld_at hbd rfl ?_
  exact ⟨rfl, h2⟩
 rw [if_neg h1]
 refine eql_at ?_
 refine kB_at ?_
 refine kIf_dec (fun h1 => ?_) (fun h1 => ?_)
 ·rw [if_pos h1]
  refine kN_at ?_
  refine kfld_of ?_
  refine kld_at hbd rfl ?_
  refine kcall_of (hW.fr hi2) ?_
  rintro v w6 ⟨rfl, h6⟩
  exact ⟨rfl, h2.trans h6⟩
 rw [if_neg h1]
 exact ⟨rfl, h2⟩
theorem hDraw (hW : WI W h w0 cost I) (hi : I X w s) (hb : HAt h b w) (hc : cost s ≤ 5000) (n : Int) (hn : I64 n) : Meets Tryz.prog 93 #[.pointer (some ⟨b, 0, none⟩), nV n] w fun v w' => v = nV (W.dr s n).2 ∧ I X w' (W.dr s n).1 ∧ Mod (fun k => w0.heap.size ≤ k ∧ ¬ X k) w w' := by
 obtain ⟨la, k, lc, pl, sv, fu, ov, hbd⟩ := hb
 refine f93_ok ?_
 unfold f93
 refine kN_at ?_
 refine kfld_of ?_
 refine kfld_of ?_
 refine kld_at hbd rfl ?_
 refine kcall_of (hW.dr n hi hc hn) ?_
 rintro v w6 ⟨⟨e, rfl⟩, h1, h2⟩
 refine kext_at rfl ?_
 refine kext_at rfl ?_
 exact ⟨rfl, h1, h2⟩
theorem ordF_ok (hwho : I64 h.who) {x : IN} (hx : okIN x) : (ordF h x).ok := by
 have z : I64 0 := by unfold I64; omega
 have u : ∀ n : Int, 0 ≤ n ∧ n ≤ 10 → I64 n := fun n hn => by unfold I64; omega
 unfold ordF OrdM.ok
 split
 ·refine ⟨u 1 (by omega), z, ?_, z⟩
  show (x.a % 4294967296).toNat < 4294967296
  omega
 ·split
  ·exact ⟨u 2 (by omega), hwho, by show (0 : Nat) < 4294967296; omega, z⟩
  ·split
   ·exact ⟨u 3 (by omega), hwho, by show (0 : Nat) < 4294967296; omega, hx⟩
   ·exact ⟨u 4 (by omega), hwho, by show (0 : Nat) < 4294967296; omega, hx⟩
theorem hWrite (hW : WI W h w0 cost I) (hi : I X w s) (hb : HAt h b w) {x : IN} (hx : okIN x) (ho : x.op = 23 ∨ x.op = 27 ∨ x.op = 31 ∨ x.op = 32 ∨ x.op = 33 ∨ x.op = 34) (hc : cost s ≤ 5000) (top : Int) (h64 : I64 top) :
  Meets Tryz.prog 94 #[.pointer (some ⟨b, 0, none⟩), .agg x.cells.toArray, nV top] w fun v w' => I X w' ((mkHost W h).wr s x top) ∧ Mod (fun k => w0.heap.size ≤ k ∧ ¬ X k) w w' := by
 have er : (mkHost W h).wr s x top = if x.op = 23 then W.set s x.a x.b top else if x.op = 27 then W.asg s x.a top else W.add s (ordF h x) := rfl
 rw [er]
 refine f94_ok ?_
 unfold f94
 refine knew_of fun w2 h2 hs2 hb2 => ?_
 obtain ⟨la, k, lc, pl, sv, fu, ov, hbd⟩ := hb.same h2
 refine kN_at ?_
 refine kfld_of ?_
 refine kld_at hbd rfl ?_
 refine kbld_of (cs := (⟨0, h.who, 0, 0⟩ : OrdM).cells) rfl ?_
 refine knew_of fun w7 h7 hs7 hb7 => ?_
 refine kst_of (vs := (⟨0, h.who, 0, 0⟩ : OrdM).cells) hb7 rfl rfl rfl (by simp) (by simp [OrdM.cells]) fun w8 h8 hs8 hb8 => ?_
 have hb8 : blk w8 w2.heap.size = some (.cells (⟨0, h.who, 0, 0⟩ : OrdM).cells.toArray 137) := hb8
 have h28 : Same w2 w8 := h7.trans' (h8.mono fun k _ e => .inr (by omega))
 have m8 := h2.trans h28
 have hb28 : blk w8 w.heap.size = some (.cells x.cells.toArray 88) := h28.get hb2 (fun h => h)
 have hz : w.heap.size ≠ w2.heap.size := by have := lt_of_blk hb2; omega
 have hbd8 := h28.get hbd (fun h => h)
 have m8d : Same w w8.drew := m8.drew
 have hb28d : blk w8.drew w.heap.size = some (.cells x.cells.toArray 88) := hb28
 have hbd8d : blk w8.drew b = _ := hbd8
 have hb8d : blk w8.drew w2.heap.size = some (.cells (⟨0, h.who, 0, 0⟩ : OrdM).cells.toArray 137) := hb8
 have md : Same w2 w8.drew := h28.drew
 clear h7 hb7 h8 hs8
 refine kfld_of ?_
 refine kld_of (v := .int .i64 x.op) hb28 rfl ?_
 refine eql_at ?_
 refine kB_at ?_
 refine kIf_dec (fun h1 => ?_) (fun h1 => ?_)
 ·rw [if_pos h1]
  generalize w8.drew = wd at *
  repeat (first | refine kN_at ?_ | refine kB_at ?_ | refine kfld_of ?_ | refine kext_at rfl ?_ | refine kld_at hbd8d rfl ?_ | refine kldN_at hbd8d rfl (by omega) ?_ | refine kG_of (by first | exact rfl | omega) ?_ | refine klen_at ?_ | refine eql_at ?_ | refine neq_at ?_ | refine lss_at ?_ | refine leq_at ?_ | refine gtr_at ?_ | refine geq_at ?_ | refine add_at (by omega) (by omega) ?_ | refine sub_at (by omega) (by omega) ?_ | refine not_at ?_ | refine kO_at ?_ | refine kprt_at rfl ?_ | refine kprtN_at rfl ?_ | refine kcap_at ?_ | refine klenStr_at ?_ | refine kN_iat ?_ | refine kN_fat ?_ | refine kIf_T (by first | exact rfl | exact decT (by omega) | exact notT (decF (by omega))) ?_ | refine kIf_F (by first | exact rfl | exact decF (by omega) | exact notF (decT (by omega))) ?_)
  refine kld_of (v := nV x.a) hb28d rfl ?_
  refine kG_of rfl ?_
  refine kfld_of ?_
  refine kld_of (v := nV x.b) hb28d rfl ?_
  refine kG_of rfl ?_
  refine kcall_of (hW.set x.a x.b top (hW.loc hi m8d) hx hc h64) ?_
  rintro v w6 ⟨h1, h2⟩
  exact ⟨h1, (Mod.of_same m8d).trans h2⟩
 rw [if_neg h1]
 refine eql_at ?_
 refine kB_at ?_
 refine kIf_dec (fun h2 => ?_) (fun h2 => ?_)
 ·rw [if_pos h2]
  generalize w8.drew = wd at *
  repeat (first | refine kN_at ?_ | refine kB_at ?_ | refine kfld_of ?_ | refine kext_at rfl ?_ | refine kld_at hbd8d rfl ?_ | refine kldN_at hbd8d rfl (by omega) ?_ | refine kG_of (by first | exact rfl | omega) ?_ | refine klen_at ?_ | refine eql_at ?_ | refine neq_at ?_ | refine lss_at ?_ | refine leq_at ?_ | refine gtr_at ?_ | refine geq_at ?_ | refine add_at (by omega) (by omega) ?_ | refine sub_at (by omega) (by omega) ?_ | refine not_at ?_ | refine kO_at ?_ | refine kprt_at rfl ?_ | refine kprtN_at rfl ?_ | refine kcap_at ?_ | refine klenStr_at ?_ | refine kN_iat ?_ | refine kN_fat ?_ | refine kIf_T (by first | exact rfl | exact decT (by omega) | exact notT (decF (by omega))) ?_ | refine kIf_F (by first | exact rfl | exact decF (by omega) | exact notF (decT (by omega))) ?_)
  refine kld_of (v := nV x.a) hb28d rfl ?_
  refine kG_of rfl ?_
  refine kcall_of (hW.asg x.a top (hW.loc hi m8d) hc h64) ?_
  rintro v w6 ⟨h1, h2⟩
  exact ⟨h1, (Mod.of_same m8d).trans h2⟩
 rw [if_neg h2]
 have hok := ordF_ok (h := h) hW.in64.2.2 hx
 have fin : ∀ wz : World, Same w2 wz ∨ Mod (fun k => k = w2.heap.size) w2 wz → blk wz w2.heap.size = some (.cells (ordF h x).cells.toArray 137) → f94_0 (.pointer (some ⟨b, 0, none⟩)) (.pointer (some ⟨w2.heap.size, 0, none⟩)) (fun v w' => I X w' (W.add s (ordF h x)) ∧ Mod (fun k => w0.heap.size ≤ k ∧ ¬ X k) w w') wz := by
  intro wz hm hbo
  have mz : Same w wz := by
   rcases hm with hm | hm
   ·exact ‹Same w w2›.trans hm
   ·exact ‹Same w w2›.trans' (hm.mono fun k _ e => .inr (by have := lt_of_blk hb2; omega))
  have mzd : Same w wz.drew := mz.drew
  obtain ⟨la, k, lc, pl, sv, fu, ov, hbz⟩ := hb.same mzd
  have hbo : blk wz.drew w2.heap.size = some (.cells (ordF h x).cells.toArray 137) := hbo
  unfold f94_0
  generalize wz.drew = wd at *
  repeat (first | refine kN_at ?_ | refine kB_at ?_ | refine kfld_of ?_ | refine kext_at rfl ?_ | refine kld_at hbz rfl ?_ | refine kldN_at hbz rfl (by omega) ?_ | refine kG_of (by first | exact rfl | omega) ?_ | refine klen_at ?_ | refine eql_at ?_ | refine neq_at ?_ | refine lss_at ?_ | refine leq_at ?_ | refine gtr_at ?_ | refine geq_at ?_ | refine add_at (by omega) (by omega) ?_ | refine sub_at (by omega) (by omega) ?_ | refine not_at ?_ | refine kO_at ?_ | refine kprt_at rfl ?_ | refine kprtN_at rfl ?_ | refine kcap_at ?_ | refine klenStr_at ?_ | refine kN_iat ?_ | refine kN_fat ?_ | refine kIf_T (by first | exact rfl | exact decT (by omega) | exact notT (decF (by omega))) ?_ | refine kIf_F (by first | exact rfl | exact decF (by omega) | exact notF (decT (by omega))) ?_)
  refine kldN_at hbo rfl (by omega) ?_
  refine kG_of rfl ?_
  refine kcall_of (hW.add (ordF h x) (hW.loc hi mzd) hok hc) ?_
  rintro v w6 ⟨h1, h2⟩
  exact ⟨h1, (Mod.of_same mzd).trans h2⟩
 have ofil : ∀ n : Int, (x.op = 33 ∧ n = 3 ∨ x.op = 34 ∧ n = 4) → ordF h x = ⟨n, h.who, 0, x.a⟩ := by
  intro n hn
  unfold ordF
  rw [if_neg (by omega), if_neg (by omega)]
  rcases hn with ⟨h, rfl⟩ | ⟨h, rfl⟩
  ·rw [if_pos h]
  ·rw [if_neg (by omega)]
 refine eql_at ?_
 refine kB_at ?_
 refine kIf_dec (fun h3 => ?_) (fun h3 => ?_)
 ·refine kfld_of ?_
  refine kld_of (v := .int .i64 x.a) hb28 rfl ?_
  rw [kcnv_int]
  have em : (.int .u32 (IntKind.u32.wrap x.a) : Value) = msk (IntKind.u32.wrap x.a).toNat := by
   have hp : 0 ≤ IntKind.u32.wrap x.a := by show 0 ≤ x.a % 4294967296; omega
   unfold msk
   rw [Int.toNat_of_nonneg hp]
  rw [em]
  have eo : ordF h x = ⟨1, 0, (IntKind.u32.wrap x.a).toNat, 0⟩ := by unfold ordF; rw [if_pos h3]
  refine kbld_of (cs := (ordF h x).cells) (by rw [eo]; rfl) ?_
  refine kst_of (vs := (ordF h x).cells) hb8 rfl rfl (by rw [eo]; rfl) (by simp [OrdM.cells]) (by simp [OrdM.cells]) fun w34 h34 hs34 hb34 => ?_
  exact fin w34 (.inr ((Mod.of_same h28).trans h34)) hb34
 refine eql_at ?_
 refine kB_at ?_
 refine kIf_dec (fun h3' => ?_) (fun h3' => ?_)
 ·have eo : ordF h x = ⟨2, h.who, 0, 0⟩ := by unfold ordF; rw [if_neg h3, if_pos h3']
  refine kfld_of ?_
  refine kst1_of hb8 rfl rfl (by simp [OrdM.cells]) fun w34 h34 hs34 hb34 => ?_
  exact fin w34 (.inr ((Mod.of_same h28).trans h34)) (by rw [eo]; exact hb34)
 have tl : ∀ n : Int, (x.op = 33 ∧ n = 3 ∨ x.op = 34 ∧ n = 4) → (kfld 1 (.pointer (some ⟨w.heap.size, 0, none⟩)) fun v44 => kld v44 w8.drew fun v45 => kG (w8.drew = w8.drew) <| kfld 0 (.pointer (some ⟨w2.heap.size, 0, none⟩)) fun v46 => kst 1 v46 (.int .i64 n) w8.drew fun w47 => kG (kld v44 w47 fun v50 => v50 = v45 ∧ w47 = w47) <| kfld 3 (.pointer (some ⟨w2.heap.size, 0, none⟩)) fun v48 => kst 1 v48 v45 w47 fun w49 => f94_0 (.pointer (some ⟨b, 0, none⟩)) (.pointer (some ⟨w2.heap.size, 0, none⟩)) (fun v w' => I X w' (W.add s (ordF h x)) ∧ Mod (fun k => w0.heap.size ≤ k ∧ ¬ X k) w w') w49) := by
  intro n hn
  have eo := ofil n hn
  generalize w8.drew = wd at *
  refine kfld_of ?_
  refine kld_of (v := .int .i64 x.a) hb28d rfl ?_
  refine kG_of rfl ?_
  refine kfld_of ?_
  refine kst1_of hb8d rfl rfl (by simp [OrdM.cells]) fun w47 h47 hs47 hb47 => ?_
  refine kG_of (kld_of (v := .int .i64 x.a) (h47.get hb28d hz) rfl ⟨rfl, rfl⟩) ?_
  refine kfld_of ?_
  refine kst1_of hb47 rfl rfl (by simp [OrdM.cells]) fun w49 h49 hs49 hb49 => ?_
  exact fin w49 (.inr ((Mod.of_same md).trans (h47.trans h49))) (by rw [eo]; exact hb49)
 refine eql_at ?_
 refine kB_at ?_
 refine kIf_dec (fun h3'' => ?_) (fun h3'' => ?_)
 ·exact tl 3 (.inl ⟨h3'', rfl⟩)
 refine eql_at ?_
 refine kB_at ?_
 refine kIf_T (decT (by omega)) ?_
 exact tl 4 (.inr ⟨by omega, rfl⟩)
theorem loadF64 {g : Option Part} (h : ∀ q, g = some q → q.ok) (i : Int) : I64 (loadF g i) := by
 cases g with
 | none => exact I64_0
 | some q =>
  obtain ⟨_, h0, h1, h2, h3, _⟩ := h q rfl
  exact ite_at (P := I64) (fun _ => I64_0) (fun _ => ite_at (P := I64) (fun _ => h0) (fun _ => ite_at (P := I64) (fun _ => h1) (fun _ => ite_at (P := I64) (fun _ => h2) (fun _ => h3))))
theorem host_of (hW : WI W h w0 cost I) : HostI (mkHost W h) h w0 okIN cost I where
 base := hW.base
 lt := hW.lt
 loc := hW.loc
 less := hW.less
 grow := hW.grow
 rdo s x hr := by
  unfold reads
  refine Classical.byContradiction fun hn => hr ?_
  show (if x.op = 1 then some x.a else if x.op = 22 then some (loadF (W.get s x.a) x.b) else if x.op = 24 then some (flagF (W.get s x.a).isSome) else if x.op = 25 then some (inpF h x.a) else if x.op = 26 then some ((W.res s x.a).getD 0) else if x.op = 29 then some h.who else if x.op = 30 then some (W.fr s) else none) = none
  rw [if_neg (by omega), if_neg (by omega), if_neg (by omega), if_neg (by omega), if_neg (by omega), if_neg (by omega), if_neg (by omega)]
 rdi s x _ hr := by
  unfold reads at hr
  show (if x.op = 1 then some x.a else if x.op = 22 then some (loadF (W.get s x.a) x.b) else if x.op = 24 then some (flagF (W.get s x.a).isSome) else if x.op = 25 then some (inpF h x.a) else if x.op = 26 then some ((W.res s x.a).getD 0) else if x.op = 29 then some h.who else if x.op = 30 then some (W.fr s) else none) ≠ none
  rcases hr with h | h | h | h | h | h | h <;> rw [h] <;> exact fun e => by cases e
 read hi hb hx := hRead hW hi hb hx
 write {_ _ _ _ _ top} hi hb _ hx ho hc h64 := hWrite hW hi hb hx ho hc top h64
 draw {_ _ _ _ _ n} hi hb _ _ _ hc hn := hDraw hW hi hb hc n hn
 rd64 {X w s x v} hi hok hv := by
  have hv : (if x.op = 1 then some x.a else if x.op = 22 then some (loadF (W.get s x.a) x.b) else if x.op = 24 then some (flagF (W.get s x.a).isSome) else if x.op = 25 then some (inpF h x.a) else if x.op = 26 then some ((W.res s x.a).getD 0) else if x.op = 29 then some h.who else if x.op = 30 then some (W.fr s) else none) = some v := hv
  have fin : ∀ {o : Option Int}, o = some v → (∀ u, o = some u → I64 u) → I64 v := fun e g => g v e
  refine fin hv ?_
  refine ite_at (P := fun o => ∀ u, o = some u → I64 u) (fun _ u e => by cases e; exact hok) (fun _ => ?_)
  refine ite_at (P := fun o => ∀ u, o = some u → I64 u) (fun _ u e => by cases e; exact loadF64 (fun q hq => hW.get64 hi hq) _) (fun _ => ?_)
  refine ite_at (P := fun o => ∀ u, o = some u → I64 u) (fun _ u e => by cases e; exact flagF64 _) (fun _ => ?_)
  refine ite_at (P := fun o => ∀ u, o = some u → I64 u) (fun _ u e => by cases e; exact ite_at (P := I64) (fun _ => I64_0) (fun _ => ite_at (P := I64) (fun _ => hW.in64.1) (fun _ => hW.in64.2.1))) (fun _ => ?_)
  refine ite_at (P := fun o => ∀ u, o = some u → I64 u) (fun _ u e => by
   cases e
   cases hr : W.res s x.a with
   | none => exact I64_0
   | some r => exact hW.res64 hi hr) (fun _ => ?_)
  refine ite_at (P := fun o => ∀ u, o = some u → I64 u) (fun _ u e => by cases e; exact hW.in64.2.2) (fun _ => ?_)
  refine ite_at (P := fun o => ∀ u, o = some u → I64 u) (fun _ u e => by cases e; exact hW.fr64 hi) (fun _ u e => by cases e)
 dr64 := hW.dr64
 costw s x n := by
  show cost (if x.op = 23 then W.set s x.a x.b n else if x.op = 27 then W.asg s x.a n else W.add s (ordF h x)) ≤ _
  split
  ·exact hW.cset _ _ _ _
  ·split
   ·exact hW.casg _ _ _
   ·exact hW.cadd _ _
 costd s n := hW.cdr s n
end
end
section
attribute [local irreducible] kO kB kStr kInt kN kG kIf kfld kld kldN kst knew kmap kbld kbldS kext kcnv klenStr klen kcap kprt kprtN kbool kint kstr keq kun ksl kix kiv kta kmk kmm ksem ksemU kextf kcallV kcallM kcall kL
def stepD (seed : Int) : Int := IntKind.i64.wrap (IntKind.u64.wrap (IntKind.u64.wrap seed + IntKind.u64.wrap (IntKind.u64.wrap 1 * 11400714819323198485)))
def mixD (z : Int) : Int :=
 let a := ixor .u64 z (ishr .u64 z 30)
 let b := IntKind.u64.wrap (a * 13787848793156543929)
 let c := ixor .u64 b (ishr .u64 b 27)
 let d := IntKind.u64.wrap (c * 10723151780598845931)
 ixor .u64 d (ishr .u64 d 31)
def drawD (seed n : Int) : Int × Int := (stepD seed, if n ≤ 0 then 0 else IntKind.i64.wrap ((mixD (IntKind.u64.wrap (stepD seed))).tmod (IntKind.u64.wrap n)))
theorem skip_spec (seed : Int) (w : World) : Meets Tryz.prog 234 #[nV seed, nV 1] w fun v w' => v = nV (stepD seed) ∧ w' = w := by
 refine f234_ok ?_
 unfold f234
 unfold nV
 rw [kcnv_int, kcnv_int, kint_mul, kint_add, kcnv_int]
 exact ⟨rfl, rfl⟩
theorem mix_spec (z : Int) (w : World) : Meets Tryz.prog 235 #[.int .u64 z] w fun v w' => v = .int .u64 (mixD z) ∧ w' = w := by
 refine f235_ok ?_
 unfold f235
 rw [kint_shr]
 refine kG_of (by decide) ?_
 rw [kint_xor, kint_mul, kint_shr]
 refine kG_of (by decide) ?_
 rw [kint_xor, kint_mul, kint_shr]
 refine kG_of (by decide) ?_
 rw [kint_xor]
 exact ⟨rfl, rfl⟩
theorem next_spec (seed : Int) (w : World) : Meets Tryz.prog 216 #[nV seed] w fun v w' => v = .tuple #[nV (stepD seed), .int .u64 (mixD (IntKind.u64.wrap (stepD seed)))] ∧ w' = w := by
 refine f216_ok ?_
 unfold f216
 refine kcall_of (skip_spec seed w) ?_
 rintro v w2 ⟨rfl, rfl⟩
 unfold nV
 rw [kcnv_int]
 refine kcall_of (mix_spec _ w2) ?_
 rintro v w2 ⟨rfl, rfl⟩
 exact ⟨rfl, rfl⟩
theorem drawD_spec (seed n : Int) (hn : I64 n) (w : World) : Meets Tryz.prog 187 #[nV seed, nV n] w fun v w' => v = .tuple #[nV (drawD seed n).1, nV (drawD seed n).2] ∧ Same w w' := by
 refine f187_ok ?_
 unfold f187
 refine kcall_of (next_spec seed w) ?_
 rintro v w2 ⟨rfl, rfl⟩
 unfold drawD
 refine kext_at rfl ?_
 refine kext_at rfl ?_
 unfold nV
 refine leq_at ?_
 refine kB_at ?_
 refine kIf_dec (fun h => ?_) (fun h => ?_)
 ·rw [if_pos h]
  exact ⟨rfl, Mod.refl _ _⟩
 ·unfold f187_0
  rw [if_neg h, kcnv_int, kint_rem]
  refine kG_of ?_ ?_
  ·have : IntKind.u64.wrap n = n := by
    show n % 18446744073709551616 = n
    have := hn.2
    omega
   omega
  rw [kcnv_int]
  exact ⟨rfl, (Mod.refl (fun _ => False) _).drew⟩
section
variable {c : WC} {w0 : World} {fx : Nat → Prop} {w : World} {S : SM} {t : Nat} {B : BdM}
theorem gLen (h : WdAt c w0 fx w S t B) : Meets Tryz.prog 215 #[.pointer (some ⟨c.bg, 0, none⟩)] w fun v w' => v = natV c.R.length ∧ w' = w := by
 have hb := h.gh
 obtain ⟨a, n, cc, e, hs, hn⟩ := h.go.is
 have hn : n = c.R.length := by simpa using hn rfl
 rw [e] at hb
 refine f215_ok ?_
 unfold f215
 rw [keq_ptr_nil ptGoo]
 refine kB_at ?_
 refine kIf_F rfl ?_
 unfold f215_0
 refine kN_at ?_
 refine kfld_of ?_
 refine kld_at hb rfl ?_
 refine klen_at ?_
 exact ⟨by rw [hn]; rfl, rfl⟩
def getR (R : List Int) (i : Int) : Option Int := if i < 0 ∨ (R.length : Int) ≤ i then none else R[i.toNat]?
theorem getR_in {R : List Int} {i : Int} (h0 : 0 ≤ i) (h1 : i < R.length) : getR R i = some (R[i.toNat]'(by omega)) := by
 unfold getR
 rw [if_neg (by omega), List.getElem?_eq_getElem (by omega)]
theorem gGet (h : WdAt c w0 fx w S t B) (i : Int) : Meets Tryz.prog 186 #[.pointer (some ⟨c.bg, 0, none⟩), nV i] w fun v w' => v = .tuple #[nV ((getR c.R i).getD 0), .bool (getR c.R i).isSome] ∧ w' = w := by
 refine f186_ok ?_
 unfold f186
 have out : ∀ Q : PQ, (i < 0 ∨ (c.R.length : Int) ≤ i) → Q (.tuple #[nV ((getR c.R i).getD 0), .bool (getR c.R i).isSome]) w → f186_0 (.pointer (some ⟨c.bg, 0, none⟩)) (nV i) (.bool true) Q w := by
  intro Q ho hQ
  have e : getR c.R i = none := if_pos ho
  rw [e] at hQ
  unfold f186_0
  refine kB_at ?_
  exact kIf_T rfl hQ
 refine lss_at ?_
 refine kB_at ?_
 refine kIf_ndec (fun h0 => ?_) (fun h0 => out _ (.inl h0) ⟨rfl, rfl⟩)
 refine kcall_of (gLen h) ?_
 rintro v w2 ⟨rfl, rfl⟩
 refine geq_at ?_
 by_cases h1 : (c.R.length : Int) ≤ i
 ·rw [decide_eq_true h1]
  exact out _ (.inr h1) ⟨rfl, rfl⟩
 ·rw [decide_eq_false h1]
  have e := getR_in (R := c.R) (i := i) (by omega) (by omega)
  rw [e]
  have hb := h.gh
  obtain ⟨a, n, cc, e, hs, hn⟩ := h.go.is
  have hn : n = c.R.length := by simpa using hn rfl
  subst hn
  rw [e] at hb
  unfold f186_0
  refine kB_at ?_
  refine kIf_F rfl ?_
  unfold f186_1
  refine kN_at ?_
  refine kfld_of ?_
  refine kld_at hb rfl ?_
  obtain ⟨k, rfl⟩ : ∃ k : Nat, i = (k : Int) := ⟨i.toNat, by omega⟩
  refine kixld_of (F := Value.int .i64) hs (by omega) rfl ?_
  exact ⟨rfl, rfl⟩
theorem wResource (h : WdAt c w0 fx w S t B) (i : Int) : Meets Tryz.prog 139 #[.pointer (some ⟨c.bw, 0, none⟩), nV i] w fun v w' => v = .tuple #[nV ((getR c.R i).getD 0), .bool (getR c.R i).isSome] ∧ w' = w := by
 refine f139_ok ?_
 unfold f139
 rw [keq_ptr_nil ptWor]
 refine kB_at ?_
 refine kIf_F rfl ?_
 unfold f139_0
 refine kN_at ?_
 refine kfld_of ?_
 refine kld_at h.here rfl ?_
 refine kcall_of (gGet h i) ?_
 rintro v w2 ⟨rfl, rfl⟩
 refine kext_at rfl ?_
 refine kext_at rfl ?_
 exact ⟨rfl, rfl⟩
theorem WdAt.tune (h : WdAt c w0 fx w S t B) {w' : World} {R : List Int} {frame seed : Int} {gn : Value} (hgn : ∃ n : Int, gn = .int .i64 n) {fp : Nat → Prop} (m : Mod fp w w') (hf : ∀ k, fp k → k = c.bw ∨ k = c.bg ∨ vblk c.gs k)
  (hb : blk w' c.bw = some (.cells ({ c with R := R, frame := frame, seed := seed, gn := gn } : WC).cells 106)) (hg : blk w' c.bg = some (.cells #[c.gm, c.gs, gn] 202)) (ho : Own w' c.gs 1 (R.map (Value.int .i64))) :
  WdAt { c with R := R, frame := frame, seed := seed, gn := gn } w0 fx w' S t B ∧ Mod (fun k => w0.heap.size ≤ k ∧ c.mine k) w w' := by
 have hm : ∀ k, fp k → c.mine k := fun k hk => by
  rcases hf k hk with e | e | e
  ·exact .inl e
  ·exact .inr (.inr (.inl e))
  ·exact .inr (.inr (.inr e))
 have hA := (h.A.other m (fun k hk => h.fm k (hm k hk))).less (fx' := fx) (fun k hk => .inl hk)
 obtain ⟨a1, a2, a3⟩ := h.ap
 refine ⟨⟨hb, h.fm, h.comps.mod m (fun k f e hk => ?_), hg, ho, h.rvc, h.good, h.rl, hA, h.link, h.cs, hgn, h.ap⟩, m.mono fun k _ hk => ⟨(h.A.lt (h.fm k (hm k hk))).1, hm k hk⟩⟩
 rcases hf k hk with hk | hk | hk
 ·exact (a3 k f e).2 hk
 ·exact (a3 k f e).1 hk
 ·exact (a1 k hk).2.2 f e
def WC.tune (c : WC) (R : List Int) (frame seed : Int) (gn : Value) : WC := { c with R := R, frame := frame, seed := seed, gn := gn }
theorem wDraw (h : WdAt c w0 fx w S t B) (n : Int) (hn : I64 n) : Meets Tryz.prog 141 #[.pointer (some ⟨c.bw, 0, none⟩), nV n] w fun v w' => v = .tuple #[nV (drawD c.seed n).2, .nilIface] ∧ WdAt (c.tune c.R c.frame (drawD c.seed n).1 c.gn) w0 fx w' S t B ∧ Mod (fun k => w0.heap.size ≤ k ∧ c.mine k) w w' := by
 refine f141_ok ?_
 unfold f141
 rw [keq_ptr_nil ptWor]
 refine kB_at ?_
 refine kIf_F rfl ?_
 unfold f141_0
 refine kN_at ?_
 refine kfld_of ?_
 refine kld_at h.here rfl ?_
 refine kbld_of (cs := [.int .i64 8, .int .i64 0, .int .i64 0, .int .i64 0, .int .i64 0, .int .i64 0, .int .i64 0, .int .i64 0, .slice none 0 0, .int .i64 0, .int .i64 c.seed]) rfl ?_
 refine kcall_of (wNote h.here _) ?_
 rintro v w10 ⟨rfl, h10⟩
 have hb10 := h10.get h.here (fun h => h)
 refine kN_at ?_
 refine kfld_of ?_
 refine kld_at hb10 rfl ?_
 refine kcall_of (drawD_spec c.seed n hn w10) ?_
 rintro v w14 ⟨rfl, h14⟩
 refine kext_at rfl ?_
 refine kext_at rfl ?_
 have m14 := h10.trans h14
 have h' := h.loc m14
 unfold nV
 refine kN_at ?_
 refine kfld_of ?_
 refine kst1_of h'.here rfl rfl (by show 7 < 9; omega) fun w18 h18 hs18 hb18 => ?_
 obtain ⟨a1, a2, a3⟩ := h.ap
 have hw := h'.tune (R := c.R) (frame := c.frame) (seed := (drawD c.seed n).1) (gn := c.gn) h.gi h18 (fun k hk => .inl hk) hb18 (h18.get h'.gh a2) (h'.go.mod h18 fun k hk e => (a1 k hk).2.1 e)
 exact ⟨rfl, hw.1, (Mod.of_same m14).trans hw.2⟩
theorem wTick (h : WdAt c w0 fx w S t B) (hf : 0 ≤ c.frame) (hlt : c.frame < 1073741824) : Meets Tryz.prog 37 #[.pointer (some ⟨c.bw, 0, none⟩)] w fun v w' => v = .nilIface ∧ WdAt (c.tune c.R (c.frame + 1) c.seed c.gn) w0 fx w' S t B ∧ Mod (fun k => w0.heap.size ≤ k ∧ c.mine k) w w' := by
 refine f37_ok ?_
 unfold f37
 rw [keq_ptr_nil ptWor]
 refine kB_at ?_
 refine kIf_F rfl ?_
 refine kN_at ?_
 refine kfld_of ?_
 refine kld_at h.here rfl ?_
 refine geq_at ?_
 refine kB_at ?_
 refine kIf_F (decF (by omega)) ?_
 unfold f37_0
 refine kN_at ?_
 refine kfld_of ?_
 refine kld_at h.here rfl ?_
 refine kbld_of (cs := [.int .i64 9, .int .i64 0, .int .i64 0, .int .i64 0, .int .i64 0, .int .i64 0, .int .i64 0, .int .i64 0, .slice none 0 0, .int .i64 0, .int .i64 c.frame]) rfl ?_
 refine kcall_of (wNote h.here _) ?_
 rintro v w10 ⟨rfl, h10⟩
 have h' := h.loc h10
 refine kN_at ?_
 refine kfld_of ?_
 refine kld_at h'.here rfl ?_
 refine add_at (by omega) (by omega) ?_
 refine kN_at ?_
 refine kfld_of ?_
 refine kst1_of h'.here rfl rfl (by show 6 < 9; omega) fun w18 h18 hs18 hb18 => ?_
 obtain ⟨a1, a2, a3⟩ := h.ap
 have hw := h'.tune (R := c.R) (frame := c.frame + 1) (seed := c.seed) (gn := c.gn) h.gi h18 (fun k hk => .inl hk) hb18 (h18.get h'.gh a2) (h'.go.mod h18 fun k hk e => (a1 k hk).2.1 e)
 exact ⟨rfl, hw.1, (Mod.of_same h10).trans hw.2⟩
end
end
section
attribute [local irreducible] kO kB kStr kInt kN kG kIf kfld kld kldN kst knew kmap kbld kbldS kext kcnv klenStr klen kcap kprt kprtN kbool kint kstr keq kun ksl kix kiv kta kmk kmm ksem ksemU kextf kcallV kcallM kcall kL
section
variable {pr : Nat → Prop} {Sa : Nat → Addr} {c : WC} {w0 : World} {fx : Nat → Prop} {w : World} {S : SM} {t : Nat} {B : BdM}
def setR (R : List Int) (i n : Int) : List Int := if i < 0 ∨ (R.length : Int) ≤ i then R else R.set i.toNat n
theorem gWrong {k lo : Nat} {x : Value} {w : World} (h : ErrX Sa k lo x w) (hlo : lo ≤ w.heap.size) : Meets Tryz.prog 110 #[x] w fun v w' => ErrX Sa k lo v w' ∧ Same w w' := by
 refine f110_ok ?_
 unfold f110
 refine kcall_of (atX_spec _ h hlo) ?_
 rintro v w' ⟨h1, h2⟩
 exact ⟨h1, h2⟩
theorem gSet_out (hL : LaidP pr Sa w0) (h7 : pr 7) (h : WdAt c w0 fx w S t B) {i : Int} (ho : i < 0 ∨ (c.R.length : Int) ≤ i) (n : Int) :
  Meets Tryz.prog 190 #[.pointer (some ⟨c.bg, 0, none⟩), nV i, nV n] w fun v w' => (∃ e, v = .tuple #[nV 0, e] ∧ ErrX Sa 7 w.heap.size e w') ∧ Same w w' := by
 have e : getR c.R i = none := if_pos ho
 refine f190_ok ?_
 unfold f190
 refine kcall_of (gGet h i) ?_
 rintro v w2 ⟨rfl, rfl⟩
 rw [e]
 refine kext_at rfl ?_
 refine kext_at rfl ?_
 rw [keq_ptr_nil ptGoo]
 refine kB_at ?_
 refine kIf_F rfl ?_
 refine not_at ?_
 refine kB_at ?_
 refine kIf_T rfl ?_
 refine kld_err (hL.same h.A.same0) h7 rfl rfl ?_
 refine kcall_of (gWrong (ErrX.sent Sa 7 w2.heap.size w2) (Nat.le_refl _)) ?_
 rintro v w4 ⟨hE, h4⟩
 exact ⟨⟨_, rfl, hE⟩, h4⟩
theorem gSet_in (h : WdAt c w0 fx w S t B) {k : Nat} (hk : k < c.R.length) (n : Int) :
  Meets Tryz.prog 190 #[.pointer (some ⟨c.bg, 0, none⟩), nV k, nV n] w fun v w' => (∃ was, v = .tuple #[nV was, .nilIface]) ∧ ∃ gn, (∃ z : Int, gn = .int .i64 z) ∧ Mod (fun j => j = c.bg ∨ vblk c.gs j) w w' ∧ blk w' c.bg = some (.cells #[c.gm, c.gs, gn] 202) ∧ Own w' c.gs 1 ((c.R.set k n).map (Value.int .i64)) := by
 have e := getR_in (R := c.R) (i := (k : Int)) (by omega) (by omega)
 obtain ⟨z, hz⟩ := h.gi
 obtain ⟨a1, a2, a3⟩ := h.ap
 have hb := h.gh
 obtain ⟨bc, m, cp, arr, ty, hgs, hbc, hl1, hl2, hl3, hl4, hl5⟩ := h.go.view (by intro e; have := congrArg List.length e; simp at this; rw [this] at hk; cases hk)
 have hm : m = c.R.length := by simpa using hl1.symm
 have hv : vblk c.gs bc := ⟨0, m, cp, hgs⟩
 refine f190_ok ?_
 unfold f190
 refine kcall_of (gGet h k) ?_
 rintro v w2 ⟨rfl, rfl⟩
 rw [e]
 refine kext_at rfl ?_
 refine kext_at rfl ?_
 rw [keq_ptr_nil ptGoo]
 refine kB_at ?_
 refine kIf_F rfl ?_
 refine not_at ?_
 refine kB_at ?_
 refine kIf_F rfl ?_
 unfold f190_0
 refine kN_at ?_
 refine kfld_of ?_
 rw [hgs] at hb
 refine kld_at hb rfl ?_
 unfold nV
 rw [kix_slice]
 refine kG_of (by omega) ?_
 rw [add_mk]
 refine kst_of (o := 0 + k * 1) (vs := [.int .i64 n]) hbc rfl rfl rfl (by simp; omega) (by simp) fun w17 h17 hs17 hb17 => ?_
 have hb17' := h17.get hb (fun e => (a1 bc hv).1 e.symm)
 rw [hz] at hb17'
 refine kN_at ?_
 refine kfld_of ?_
 refine kld_at hb17' rfl ?_
 rw [kint_add]
 refine kN_at ?_
 refine kfld_of ?_
 refine kst1_of hb17' rfl rfl (by show 2 < 3; omega) fun w22 h22 hs22 hb22 => ?_
 have hb22 : blk w22 c.bg = some (.cells #[c.gm, .slice (some ⟨bc, 0, none⟩) m cp, .int .i64 (IntKind.i64.wrap (z + 1))] 202) := hb22
 have ho := h.go
 rw [hgs] at ho
 rw [hgs]
 rw [Nat.zero_add, Nat.mul_one] at hb17
 refine ⟨⟨_, rfl⟩, _, ⟨_, rfl⟩, (h17.mono fun j _ e => .inr ⟨0, m, cp, by rw [e]⟩).trans (h22.mono fun j _ e => .inl e), hb22, ?_⟩
 have := (ho.set1 hbc hb17 (by simpa using hk)).mod h22 fun j hj e => (a1 j (hgs ▸ hj)).1 e
 rw [List.map_set]
 exact this
theorem wAssign (hL : LaidP pr Sa w0) (h7 : pr 7) (h : WdAt c w0 fx w S t B) (i n : Int) : Meets Tryz.prog 143 #[.pointer (some ⟨c.bw, 0, none⟩), nV i, nV n] w fun v w' => ∃ gn, WdAt (c.tune (setR c.R i n) c.frame c.seed gn) w0 fx w' S t B ∧ Mod (fun k => w0.heap.size ≤ k ∧ c.mine k) w w' := by
 unfold setR
 refine f143_ok ?_
 unfold f143
 rw [keq_ptr_nil ptWor]
 refine kB_at ?_
 refine kIf_F rfl ?_
 unfold f143_0
 refine kN_at ?_
 refine kfld_of ?_
 refine kld_at h.here rfl ?_
 by_cases ho : i < 0 ∨ (c.R.length : Int) ≤ i
 ·rw [if_pos ho]
  refine kcall_of (gSet_out hL h7 h ho n) ?_
  rintro v w9 ⟨⟨e, rfl, hE⟩, h9⟩
  refine kext_at rfl ?_
  refine kext_at rfl ?_
  obtain ⟨ty, y, rfl⟩ := hE.if
  rw [keq_if_nil' ifErr]
  refine kB_at ?_
  refine kIf_T rfl ?_
  refine kcall_of (wWrong hE h9.size) ?_
  rintro v w15 ⟨_, h15⟩
  exact ⟨c.gn, h.loc (h9.trans h15), Mod.of_same (h9.trans h15)⟩
 ·rw [if_neg ho]
  obtain ⟨k, rfl⟩ : ∃ k : Nat, i = (k : Int) := ⟨i.toNat, by omega⟩
  rw [Int.toNat_natCast]
  obtain ⟨a1, a2, a3⟩ := h.ap
  refine kcall_of (gSet_in h (k := k) (by omega) n) ?_
  rintro v w9 ⟨⟨was, rfl⟩, gn, hgn, h9, hb9, ho9⟩
  have hh9 := h9.get h.here (fun e => by
   rcases e with e | e
   ·exact a2 e.symm
   ·exact (a1 _ e).2.1 rfl)
  refine kext_at rfl ?_
  refine kext_at rfl ?_
  rw [keq_nil_nil' ifErr]
  refine kB_at ?_
  refine kIf_F rfl ?_
  unfold f143_1
  refine kbld_of (cs := [.int .i64 6, .int .i64 0, .int .i64 0, .int .i64 0, .int .i64 0, .int .i64 0, .int .i64 0, .int .i64 0, .slice none 0 0, .int .i64 k, nV was]) rfl ?_
  refine kcall_of (wNote hh9 _) ?_
  rintro v w18 ⟨rfl, h18⟩
  have hw := h.tune (R := c.R.set k n) (frame := c.frame) (seed := c.seed) (gn := gn) hgn (h9.trans (Mod.of_same h18)) (fun j hj => .inr hj) (h18.get hh9 (fun h => h)) (h18.get hb9 (fun h => h)) (ho9.same h18)
  exact ⟨gn, hw.1, hw.2⟩
theorem wGet_fail {k : Nat} {wp : Value} {x n : Value} (he : ∀ w2, Same w w2 → Meets Tryz.prog 84 #[wp, x] w2 fun v w' => (∃ e, v = .tuple #[entV 0 0, e] ∧ ErrX Sa k w2.heap.size e w') ∧ Same w2 w') :
  Meets Tryz.prog 185 #[wp, x, n] w fun v w' => (∃ e, v = .tuple #[.agg (⟨0, 0, 0, 0, 0, 0⟩ : Part).cells.toArray, e] ∧ ErrI e) ∧ Same w w' := by
 refine f185_ok ?_
 unfold f185
 refine knew_of fun w2 h2 hs2 hb2 => ?_
 refine kcall_of (he _ h2) ?_
 rintro v w4 ⟨⟨e, rfl, hE⟩, h4⟩
 unfold entV
 refine kext_at rfl ?_
 refine kext_at rfl ?_
 refine knew_of fun w8 h8 hs8 hb8 => ?_
 refine kst_of (vs := [.int .i64 0, .int .i64 0]) hb8 rfl rfl rfl (by simp) (by simp) fun w9 h9 hs9 hb9 => ?_
 have m9 : Same w4 w9 := h8.trans' (h9.mono fun k _ e => .inr (by omega))
 have m29 := h4.trans m9
 have hb29 := m29.get hb2 (fun h => h)
 obtain ⟨ty, y, rfl⟩ := hE.if
 rw [keq_if_nil' ifErr]
 refine kB_at ?_
 refine kIf_T rfl ?_
 refine kbld_of (cs := (⟨0, 0, 0, 0, 0, 0⟩ : Part).cells) rfl ?_
 refine kst_of (vs := (⟨0, 0, 0, 0, 0, 0⟩ : Part).cells) hb29 rfl rfl rfl (by simp [Part.cells]) (by simp [Part.cells]) fun w12 h12 hs12 hb12 => ?_
 have hb12 : blk w12 w.heap.size = some (.cells (⟨0, 0, 0, 0, 0, 0⟩ : Part).cells.toArray 49) := hb12
 refine kldN_at hb12 rfl (by omega) ?_
 exact ⟨⟨_, rfl, _, _, rfl⟩, (h2.trans m29).trans' (h12.mono fun k _ e => .inr (by omega))⟩
theorem wSet_fail {k : Nat} {wp : Value} {x a b d : Value} (he : Meets Tryz.prog 84 #[wp, x] w fun v w' => (∃ e, v = .tuple #[entV 0 0, e] ∧ ErrX Sa k w.heap.size e w') ∧ Same w w') :
  Meets Tryz.prog 142 #[wp, x, a, b, d] w fun v w' => Same w w' := by
 refine f142_ok ?_
 unfold f142
 refine kcall_of he ?_
 rintro v w4 ⟨⟨e, rfl, hE⟩, h4⟩
 unfold entV
 refine kext_at rfl ?_
 refine kext_at rfl ?_
 refine knew_of fun w8 h8 hs8 hb8 => ?_
 refine kst_of (vs := [.int .i64 0, .int .i64 0]) hb8 rfl rfl rfl (by simp) (by simp) fun w9 h9 hs9 hb9 => ?_
 have m9 : Same w4 w9 := h8.trans' (h9.mono fun k _ e => .inr (by omega))
 obtain ⟨ty, y, rfl⟩ := hE.if
 rw [keq_if_nil' ifErr]
 refine kB_at ?_
 refine kIf_T rfl ?_
 exact h4.trans m9
theorem wGet_dead (hL : LaidP pr Sa w0) (h17 : pr 17) (h : WdAt c w0 fx w S t B) {x : Int} (hf : B.l.find? (fun z => decide (((z.1 : Nat) : Int) = x)) = none) (n : Value) :
  Meets Tryz.prog 185 #[.pointer (some ⟨c.bw, 0, none⟩), .int .i64 x, n] w fun v w' => (∃ e, v = .tuple #[.agg (⟨0, 0, 0, 0, 0, 0⟩ : Part).cells.toArray, e] ∧ ErrI e) ∧ Same w w' :=
 wGet_fail fun w2 m => wEntity_no hL h17 (h.loc m) hf
theorem wSet_dead (hL : LaidP pr Sa w0) (h17 : pr 17) (h : WdAt c w0 fx w S t B) {x : Int} (hf : B.l.find? (fun z => decide (((z.1 : Nat) : Int) = x)) = none) (a b d : Value) :
  Meets Tryz.prog 142 #[.pointer (some ⟨c.bw, 0, none⟩), .int .i64 x, a, b, d] w fun v w' => Same w w' :=
 wSet_fail (wEntity_no hL h17 h hf)
end
end
section
attribute [local irreducible] kO kB kStr kInt kN kG kIf kfld kld kldN kst knew kmap kbld kbldS kext kcnv klenStr klen kcap kprt kprtN kbool kint kstr keq kun ksl kix kiv kta kmk kmm ksem ksemU kextf kcallV kcallM kcall kL
theorem oAdd_nobody {pr : Nat → Prop} {Sa : Nat → Addr} {w : World} (hL : LaidP pr Sa w) (h2 : pr 2) (x : OrdM) :
  Meets Tryz.prog 144 #[.pointer none, x.val] w fun v w' => ErrX Sa 2 w.heap.size v w' ∧ Same w w' := by
 unfold OrdM.val
 refine f144_ok ?_
 unfold f144
 refine knew_of fun w2 hm2 hs2 hb2 => ?_
 rw [keq_ptr_nil ptOrd]
 refine kB_at ?_
 refine kIf_T rfl ?_
 refine kld_err (hL.same hm2) h2 rfl rfl ?_
 refine kcall_of (oWrong (ErrX.sent Sa 2 w.heap.size w2) (by omega)) ?_
 rintro v w5 ⟨hE, h5⟩
 exact ⟨hE, hm2.trans h5⟩
structure NB where
 R : List Int
 seed : Int
 l : List OrdM
 gv : Nat
 dr : Nat
def nbAdd (og : Bool) (n most : Nat) (s : NB) (x : OrdM) : NB :=
 if og = true then (if x.fit n then (if most ≤ s.gv then { s with dr := s.dr + 1 } else { s with l := s.l ++ [x], gv := s.gv + 1 }) else s) else s
theorem Pair.tune {c c' : WC} {w0 : World} {o : OC} {X fx U : Nat → Prop} {w w' : World} {S : SM} {t : Nat} {B : BdM} {l : List OrdM} {gv dr : Nat} (h0 : 0 < o.L.length) (hO : OAt o U w l gv dr) (hU : ∀ k, U k → fx k ∧ ¬ X k ∧ ¬ c.mine k) (hX : ∀ k, X k → fx k) (hap : ∀ k, X k → ¬ c.mine k)
  (hmi : c'.mine = c.mine) (hW' : WdAt c' w0 fx w' S t B) (m : Mod (fun k => w0.heap.size ≤ k ∧ c.mine k) w w') : Pair c' w0 o X w' S t B l gv dr ∧ Mod (fun k => w0.heap.size ≤ k ∧ ¬ X k) w w' :=
 ⟨⟨⟨fx, U, hW', hO.mod m (fun k hk hn => (hU k hk).2.2 hn.2), by rw [hmi]; exact hU, hX⟩, h0⟩, m.mono fun k _ hk => ⟨hk.1, fun hx => hap k hx hk.2⟩⟩
theorem setR64 {R : List Int} (h : numL R) (i : Int) {n : Int} (hn : I64 n) : numL (setR R i n) := by
 unfold setR
 split
 ·exact h
 ·intro v hv
  rcases List.mem_or_eq_of_mem_set hv with hv | hv
  ·exact h v hv
  ·rw [hv]; exact hn
theorem drawD64 (seed n : Int) : I64 (drawD seed n).2 := ite_at (P := I64) (fun _ => I64_0) (fun _ => wrap64 _)
def nbH (c0 : WC) (o : OC) (og : Bool) (i0 i1 who : Int) : HC := ⟨some ⟨c0.bw, 0, none⟩, if og = true then some ⟨o.bo, 0, none⟩ else none, i0, i1, who⟩
def nbCost (s : NB) : Nat := s.dr + s.gv
end
section
def plainQ (i : Nat) : Comp := ⟨⟨#[UInt8.ofNat (97 + i)]⟩, ((1 + i : Nat) : Int), decide (i < 3), (i : Int), 0, 0, 0⟩
def plainC : List Comp := (List.range 4).map plainQ
def plainR : List ResM := [⟨⟨#[115]⟩, 5⟩, ⟨⟨#[116]⟩, 0⟩]
theorem plainQ_in {q : Comp} (h : q ∈ plainC) : ∃ i, i < 4 ∧ q = plainQ i := by
 obtain ⟨i, hi, rfl⟩ := List.mem_map.1 h
 exact ⟨i, by simpa using hi, rfl⟩
theorem one_ok {n : Nat} (h1 : 97 ≤ n) (h2 : n ≤ 122) : NameOk ⟨#[UInt8.ofNat n]⟩ :=
 ⟨by show 1 ≤ 1; omega, by show 1 ≤ 8; omega, fun x hx => by
  have : x = UInt8.ofNat n := by
   have hx : x ∈ [UInt8.ofNat n] := hx
   simpa using hx
  subst this
  rw [UInt8.toNat_ofNat']
  omega⟩
theorem plainC_good : GoodSc plainC where
 len := by decide
 names q hq := by
  obtain ⟨i, hi, rfl⟩ := plainQ_in hq
  exact one_ok (by omega) (by omega)
 apart i j hi hj e := by
  have hi : i < 4 := hi
  have hj : j < 4 := hj
  simp only [plainC, List.getElem_map, List.getElem_range, plainQ] at e
  have e2 : [UInt8.ofNat (97 + i)] = [UInt8.ofNat (97 + j)] := congrArg (fun b : ByteArray => b.data.toList) e
  have e3 := congrArg UInt8.toNat (List.cons.inj e2).1
  rw [UInt8.toNat_ofNat', UInt8.toNat_ofNat'] at e3
  omega
 wide q hq := by
  obtain ⟨i, hi, rfl⟩ := plainQ_in hq
  exact ⟨1 + i, rfl, by omega, by omega⟩
 clean q hq := by
  obtain ⟨i, hi, rfl⟩ := plainQ_in hq
  exact ⟨fun _ => rfl, fun _ => rfl, fun _ => rfl⟩
theorem plainR_good : GoodR plainC plainR where
 len := by decide
 names r hr := by
  simp only [plainR, List.mem_cons, List.not_mem_nil, or_false] at hr
  rcases hr with rfl | rfl
  ·exact one_ok (n := 115) (by omega) (by omega)
  ·exact one_ok (n := 116) (by omega) (by omega)
 apart i j hi hj e := by
  have hi : i < 2 := hi
  have hj : j < 2 := hj
  have h1 : i = 0 ∨ i = 1 := by omega
  have h2 : j = 0 ∨ j = 1 := by omega
  rcases h1 with rfl | rfl <;> rcases h2 with rfl | rfl
  ·rfl
  ·exact absurd (congrArg (fun b : ByteArray => b.data.toList) e) (by simp [plainR])
  ·exact absurd (congrArg (fun b : ByteArray => b.data.toList) e) (by simp [plainR])
  ·rfl
 other r hr q hq e := by
  obtain ⟨i, hi, rfl⟩ := plainQ_in hq
  have e2 : [UInt8.ofNat (97 + i)] = r.name.data.toList := congrArg (fun b : ByteArray => b.data.toList) e
  simp only [plainR, List.mem_cons, List.not_mem_nil, or_false] at hr
  rcases hr with rfl | rfl
  ·have e3 := congrArg UInt8.toNat (List.cons.inj (e2 : [UInt8.ofNat (97 + i)] = [115])).1
   rw [UInt8.toNat_ofNat'] at e3
   have : (97 + i) % 2 ^ 8 = 115 := e3
   omega
  ·have e3 := congrArg UInt8.toNat (List.cons.inj (e2 : [UInt8.ofNat (97 + i)] = [116])).1
   rw [UInt8.toNat_ofNat'] at e3
   have : (97 + i) % 2 ^ 8 = 116 := e3
   omega
theorem plain_str : ∀ j, j < 4 → (⟨#[97, 98, 99, 100]⟩ : ByteArray).extract j (j + 1) = ⟨#[UInt8.ofNat (97 + j)]⟩
 | 0, _ => rfl | 1, _ => rfl | 2, _ => rfl | 3, _ => rfl
 | n + 4, h => by omega
end
section
def f35_4 (x3 x7 x8 : Value) (J5 : Value → World → Prop) (Q : PQ) (w : World) : Prop :=
 kint .i64 .add x8 (.int .i64 1) fun v35 =>
 J5 v35 w
def f35_3 (x3 x7 x8 : Value) (J5 : Value → World → Prop) (Q : PQ) (w : World) : Prop :=
 kN x7 <|
 kfld 7 x7 fun v22 =>
 kld v22 w.drew fun v23 =>
 kG (w.drew = w.drew) <|
 kfld 1 x3 fun v24 =>
 kld v24 w.drew fun v25 =>
 kG (w.drew = w.drew) <|
 kix (some (.slice 150)) (some 2) v25 x8 fun v26 =>
 kfld 1 v26 fun v27 =>
 kld v27 w.drew fun v28 =>
 kG (w.drew = w.drew) <|
 kbldS [.int .i64 0] 1 [(0, 1, v28)] 3 w.drew fun v29 w30 =>
 kG (kld v22 w30 fun v36 =>
 v36 = v23 ∧ w30 = w30) <|
 ksem Tryz.prog (Builtin.append_ #[55, 55] 0 #[v23, v29]) w30 fun v31 w32 =>
 kN x7 <|
 kfld 7 x7 fun v33 =>
 kst 1 v33 v31 w32 fun w34 =>
 f35_4 x3 x7 x8 J5 Q w34
def f35_5 (x7 : Value) (Q : PQ) (w : World) : Prop :=
 Q x7 w
def f35_2 (x8 x3 x7 : Value) (J5 : Value → World → Prop) (Q : PQ) (w : World) : Prop :=
 kfld 1 x3 fun v17 =>
 kld v17 w fun v18 =>
 klen v18 fun v19 =>
 kint .i64 .lss x8 v19 fun v21 =>
 kB v21 fun b37 => kIf b37
 (f35_3 x3 x7 x8 J5 Q w)
 (f35_5 x7 Q w)
def f35_1 (x1 x2 x3 : Value) (Q : PQ) (w : World) : Prop :=
 kldN 2 x3 w fun v13 =>
 kbld [.slice none 0 0, .slice none 0 0, .int .i64 0, .slice none 0 0, .int .i64 0, .int .i64 0, .int .i64 0, .slice none 0 0, .slice none 0 0, .bool false] [(0, 2, v13), (2, 1, x1), (5, 1, (.int .i64 1)), (6, 1, x2)] fun v14 =>
 knew (Value.cells v14) 81 w fun v15 w16 =>
 kL fun (I : Value → World → Prop) (μ : Value → World → Nat) => I (.int .i64 0) w16 ∧ ∀ (x8 : Value) (w1 : World), I x8 w1 →
 f35_2 x8 x3 v15 (fun y8 w2 => I y8 w2 ∧ μ y8 w2 < μ x8 w1) Q w1
def f35_0 (x1 x2 x3 x20 : Value) (Q : PQ) (w : World) : Prop :=
 kB x20 fun b38 => kIf b38
 (Q (.pointer none) w)
 (f35_1 x1 x2 x3 Q w)
def f35 (x0 x1 x2 : Value) (Q : PQ) (w : World) : Prop :=
 knew (Value.cells x0) 78 w fun v1 w2 =>
 kldN 2 v1 w2 fun v3 =>
 kcall Tryz.prog 76 #[v3] w2 fun v4 w5 =>
 klen v4 fun v6 =>
 kint .i64 .gtr v6 (.int .i64 0) fun v8 =>
 kB v8 fun b9 => kIf (!b9)
 (kint .i64 .lss x1 (.int .i64 0) fun v10 =>
 kB v10 fun b11 => kIf (!b11)
 (kint .i64 .gtr x1 (.int .i64 64) fun v12 =>
 f35_0 x1 x2 v1 v12 Q w5)
 (f35_0 x1 x2 v1 (.bool true) Q w5))
 (f35_0 x1 x2 v1 (.bool true) Q w5)
theorem f35_ok {x0 x1 x2 : Value} {Q : PQ} {w : World} (h : f35 x0 x1 x2 Q w) : Meets Tryz.prog 35 #[x0, x1, x2] w Q :=
 sound' (c := Tryz.f35.body.get rfl) [(5, [8])] Tryz.func35 rfl rfl (args := [x0, x1, x2]) rfl (by kernel_rfl) h
def f38_0 (x0 : Value) (Q : PQ) (w : World) : Prop :=
 kN x0 <|
 kfld 4 x0 fun v4 =>
 kld v4 w fun v5 =>
 kbld [.int .i64 0, .int .i64 0, .int .i64 0, .int .i64 0, .int .i64 0, .int .i64 0, .int .i64 0, .int .i64 0, .slice none 0 0, .int .i64 0, .int .i64 0] [(0, 1, (.int .i64 9)), (10, 1, v5)] fun v6 =>
 kcall Tryz.prog 78 #[x0, v6] w fun v7 w8 =>
 kN x0 <|
 kfld 4 x0 fun v9 =>
 kld v9 w8 fun v10 =>
 kint .i64 .add v10 (.int .i64 1) fun v11 =>
 kN x0 <|
 kfld 4 x0 fun v12 =>
 kst 1 v12 v11 w8 fun w13 =>
 Q (.int .i64 0) w13
def f38 (x0 : Value) (Q : PQ) (w : World) : Prop :=
 kN x0 <|
 kfld 4 x0 fun v1 =>
 kld v1 w fun v2 =>
 kint .i64 .geq v2 (.int .i64 1073741824) fun v3 =>
 kB v3 fun b14 => kIf b14
 (Q (.int .i64 6) w)
 (f38_0 x0 Q w)
theorem f38_ok {x0 : Value} {Q : PQ} {w : World} (h : f38 x0 Q w) : Meets Tryz.prog 38 #[x0] w Q :=
 sound' (c := Tryz.f38.body.get rfl) [] Tryz.func38 rfl rfl (args := [x0]) rfl (by kernel_rfl) h
def f40_2 (x0 x6 : Value) (Q : PQ) (w : World) : Prop :=
 kN x0 <|
 kfld 5 x0 fun v17 =>
 kld v17 w fun v18 =>
 kN x0 <|
 kfld 5 x0 fun v19 =>
 kld v19 w fun v20 =>
 kbld [.int .i64 0, .int .i64 0, .int .i64 0, .int .i64 0, .int .i64 0, .int .i64 0, .int .i64 0, .int .i64 0, .slice none 0 0, .int .i64 0, .int .i64 0] [(0, 1, (.int .i64 7)), (10, 1, v20)] fun v21 =>
 kcall Tryz.prog 78 #[x0, v21] w fun v22 w23 =>
 kbld [.int .i64 0, .int .i64 0, .int .i64 0, .int .i64 0, .int .i64 0, .int .i64 0, .int .i64 0, .int .i64 0, .slice none 0 0, .int .i64 0, .int .i64 0] [(0, 1, (.int .i64 2)), (1, 1, v18)] fun v24 =>
 kcall Tryz.prog 78 #[x0, v24] w23 fun v25 w26 =>
 kN x0 <|
 kfld 5 x0 fun v27 =>
 kld v27 w26 fun v28 =>
 kint .i64 .add v28 (.int .i64 1) fun v29 =>
 kN x0 <|
 kfld 5 x0 fun v30 =>
 kst 1 v30 v29 w26 fun w31 =>
 kcall Tryz.prog 83 #[x0, v18, x6] w31 fun v32 w33 =>
 Q (.tuple #[v18, .int .i64 0]) w33
def f40_1 (x0 x6 x34 : Value) (Q : PQ) (w : World) : Prop :=
 kB x34 fun b34 => kIf b34
 (Q (.tuple #[.int .i64 0, .int .i64 6]) w)
 (f40_2 x0 x6 Q w)
def f40_0 (x0 x6 : Value) (Q : PQ) (w : World) : Prop :=
 kN x0 <|
 kfld 3 x0 fun v6 =>
 kld v6 w.drew fun v7 =>
 kG (w.drew = w.drew) <|
 klen v7 fun v8 =>
 kN x0 <|
 kfld 2 x0 fun v10 =>
 kld v10 w.drew fun v11 =>
 kG (w.drew = w.drew) <|
 kint .i64 .geq v8 v11 fun v12 =>
 kB v12 fun b13 => kIf (!b13)
 (kN x0 <|
 kfld 5 x0 fun v14 =>
 kld v14 w.drew fun v15 =>
 kG (w.drew = w.drew) <|
 kint .i64 .gtr v15 (.int .i64 1073741824) fun v16 =>
 f40_1 x0 x6 v16 Q w.drew)
 (f40_1 x0 x6 (.bool true) Q w.drew)
def f40 (x0 x1 : Value) (Q : PQ) (w : World) : Prop :=
 kcall Tryz.prog 82 #[x0, x1] w fun v1 w2 =>
 kext v1 0 fun v3 =>
 kext v1 1 fun v4 =>
 kint .i64 .neq v4 (.int .i64 0) fun v5 =>
 kB v5 fun b35 => kIf b35
 (Q (.tuple #[.int .i64 0, v4]) w2)
 (f40_0 x0 v3 Q w2)
theorem f40_ok {x0 x1 : Value} {Q : PQ} {w : World} (h : f40 x0 x1 Q w) : Meets Tryz.prog 40 #[x0, x1] w Q :=
 sound' (c := Tryz.f40.body.get rfl) [] Tryz.func40 rfl rfl (args := [x0, x1]) rfl (by kernel_rfl) h
def f82_4 (x0 x1 x6 x7 x8 : Value) (J4 : Value → Value → Value → World → Prop) (Q : PQ) (w : World) : Prop :=
 kint .i64 .add x8 (.int .i64 1) fun v24 =>
 J4 x6 x7 v24 w
def f82_3 (x0 x1 x6 x7 x8 : Value) (J4 : Value → Value → Value → World → Prop) (Q : PQ) (w : World) : Prop :=
 kix (some (.slice 49)) (some 6) x1 x8 fun v20 =>
 kldN 6 v20 w fun v21 =>
 kcall Tryz.prog 133 #[x6, v21] w fun v22 w23 =>
 f82_4 x0 x1 v22 x7 x8 J4 Q w23
def f82_2 (x0 x1 x6 x7 x8 : Value) (J4 : Value → Value → Value → World → Prop) (Q : PQ) (w : World) : Prop :=
 kB x7 fun b13 => kIf (!b13)
 (kix (some (.slice 49)) (some 6) x1 x8 fun v14 =>
 kfld 0 v14 fun v15 =>
 kld v15 w fun v16 =>
 kcall Tryz.prog 132 #[x6, v16] w fun v17 w18 =>
 kint .i64 .geq v17 (.int .i64 0) fun v19 =>
 f82_3 x0 x1 x6 v19 x8 J4 Q w18)
 (f82_3 x0 x1 x6 (.bool true) x8 J4 Q w)
def f82_1 (x0 x1 x6 x7 x8 : Value) (J4 : Value → Value → Value → World → Prop) (Q : PQ) (w : World) : Prop :=
 kN x0 <|
 kfld 0 x0 fun v6 =>
 kldN 2 v6 w.drew fun v7 =>
 kG (w.drew = w.drew) <|
 kix (some (.slice 49)) (some 6) x1 x8 fun v8 =>
 kldN 6 v8 w.drew fun v9 =>
 kG (w.drew = w.drew) <|
 kcall Tryz.prog 131 #[v7, v9] w.drew fun v10 w11 =>
 kun .not (some .bool) v10 fun v12 =>
 kB v12 fun b25 => kIf b25
 (Q (.tuple #[.slice none 0 0, .int .i64 1]) w11)
 (f82_2 x0 x1 x6 x7 x8 J4 Q w11)
def f82_6 (x6 : Value) (Q : PQ) (w : World) : Prop :=
 Q (.tuple #[x6, .int .i64 0]) w
def f82_5 (x6 x7 : Value) (Q : PQ) (w : World) : Prop :=
 kB x7 fun b26 => kIf b26
 (Q (.tuple #[.slice none 0 0, .int .i64 9]) w)
 (f82_6 x6 Q w)
def f82_0 (x6 x7 x8 x0 x1 : Value) (J4 : Value → Value → Value → World → Prop) (Q : PQ) (w : World) : Prop :=
 klen x1 fun v3 =>
 kint .i64 .lss x8 v3 fun v5 =>
 kB v5 fun b27 => kIf b27
 (f82_1 x0 x1 x6 x7 x8 J4 Q w)
 (f82_5 x6 x7 Q w)
def f82 (x0 x1 : Value) (Q : PQ) (w : World) : Prop :=
 kbldS [.int .i64 0, .int .i64 0, .int .i64 0, .int .i64 0, .int .i64 0, .int .i64 0] 0 [] 49 w fun v1 w2 =>
 kL fun (I : Value → Value → Value → World → Prop) (μ : Value → Value → Value → World → Nat) => I v1 (.bool false) (.int .i64 0) w2 ∧ ∀ (x6 x7 x8 : Value) (w1 : World), I x6 x7 x8 w1 →
 f82_0 x6 x7 x8 x0 x1 (fun y6 y7 y8 w2 => I y6 y7 y8 w2 ∧ μ y6 y7 y8 w2 < μ x6 x7 x8 w1) Q w1
theorem f82_ok {x0 x1 : Value} {Q : PQ} {w : World} (h : f82 x0 x1 Q w) : Meets Tryz.prog 82 #[x0, x1] w Q :=
 sound' (c := Tryz.f82.body.get rfl) [(4, [6, 7, 8])] Tryz.func82 rfl rfl (args := [x0, x1]) rfl (by kernel_rfl) h
def f83_4 (x0 x1 x2 x6 x7 x8 : Value) (J3 : Value → Value → Value → World → Prop) (Q : PQ) (w : World) : Prop :=
 kint .i64 .add x8 (.int .i64 1) fun v29 =>
 J3 x6 x7 v29 w
def f83_3 (x0 x1 x2 x6 x7 x8 : Value) (J3 : Value → Value → Value → World → Prop) (Q : PQ) (w : World) : Prop :=
 kN x0 <|
 kfld 3 x0 fun v21 =>
 kld v21 w fun v22 =>
 kix (some (.slice 46)) (some 2) v22 x8 fun v23 =>
 kldN 2 v23 w fun v24 =>
 kbldS [.int .i64 0, .slice none 0 0] 1 [(0, 2, v24)] 46 w fun v25 w26 =>
 ksem Tryz.prog (Builtin.append_ #[34, 34] 0 #[x6, v25]) w26 fun v27 w28 =>
 f83_4 x0 x1 x2 v27 x7 x8 J3 Q w28
def f83_2 (x0 x1 x2 x6 x7 x8 x32 : Value) (J3 : Value → Value → Value → World → Prop) (Q : PQ) (w : World) : Prop :=
 kB x32 fun b30 => kIf b30
 (kbld [.int .i64 0, .slice none 0 0] [(0, 1, x1), (1, 1, x2)] fun v16 =>
 kbldS [.int .i64 0, .slice none 0 0] 1 [(0, 2, v16)] 46 w fun v17 w18 =>
 ksem Tryz.prog (Builtin.append_ #[34, 34] 0 #[x6, v17]) w18 fun v19 w20 =>
 f83_3 x0 x1 x2 v19 (.bool true) x8 J3 Q w20)
 (f83_3 x0 x1 x2 x6 x7 x8 J3 Q w)
def f83_1 (x0 x1 x2 x6 x7 x8 : Value) (J3 : Value → Value → Value → World → Prop) (Q : PQ) (w : World) : Prop :=
 kun .not (some .bool) x7 fun v8 =>
 kB v8 fun b9 => kIf b9
 (kN x0 <|
 kfld 3 x0 fun v10 =>
 kld v10 w fun v11 =>
 kix (some (.slice 46)) (some 2) v11 x8 fun v12 =>
 kfld 0 v12 fun v13 =>
 kld v13 w fun v14 =>
 kint .i64 .gtr v14 x1 fun v15 =>
 f83_2 x0 x1 x2 x6 x7 x8 v15 J3 Q w)
 (f83_2 x0 x1 x2 x6 x7 x8 (.bool false) J3 Q w)
def f83_6 (x0 x6 : Value) (Q : PQ) (w : World) : Prop :=
 kN x0 <|
 kfld 3 x0 fun v37 =>
 kst 1 v37 x6 w fun w38 =>
 Q (.tuple #[]) w38
def f83_5 (x0 x1 x2 x6 x7 : Value) (Q : PQ) (w : World) : Prop :=
 kun .not (some .bool) x7 fun v31 =>
 kB v31 fun b39 => kIf b39
 (kbld [.int .i64 0, .slice none 0 0] [(0, 1, x1), (1, 1, x2)] fun v32 =>
 kbldS [.int .i64 0, .slice none 0 0] 1 [(0, 2, v32)] 46 w fun v33 w34 =>
 ksem Tryz.prog (Builtin.append_ #[34, 34] 0 #[x6, v33]) w34 fun v35 w36 =>
 f83_6 x0 v35 Q w36)
 (f83_6 x0 x6 Q w)
def f83_0 (x6 x7 x8 x0 x1 x2 : Value) (J3 : Value → Value → Value → World → Prop) (Q : PQ) (w : World) : Prop :=
 kN x0 <|
 kfld 3 x0 fun v3 =>
 kld v3 w fun v4 =>
 klen v4 fun v5 =>
 kint .i64 .lss x8 v5 fun v7 =>
 kB v7 fun b40 => kIf b40
 (f83_1 x0 x1 x2 x6 x7 x8 J3 Q w)
 (f83_5 x0 x1 x2 x6 x7 Q w)
def f83 (x0 x1 x2 : Value) (Q : PQ) (w : World) : Prop :=
 kbldS [.int .i64 0, .slice none 0 0] 0 [] 46 w fun v1 w2 =>
 kL fun (I : Value → Value → Value → World → Prop) (μ : Value → Value → Value → World → Nat) => I v1 (.bool false) (.int .i64 0) w2 ∧ ∀ (x6 x7 x8 : Value) (w1 : World), I x6 x7 x8 w1 →
 f83_0 x6 x7 x8 x0 x1 x2 (fun y6 y7 y8 w2 => I y6 y7 y8 w2 ∧ μ y6 y7 y8 w2 < μ x6 x7 x8 w1) Q w1
theorem f83_ok {x0 x1 x2 : Value} {Q : PQ} {w : World} (h : f83 x0 x1 x2 Q w) : Meets Tryz.prog 83 #[x0, x1, x2] w Q :=
 sound' (c := Tryz.f83.body.get rfl) [(3, [6, 7, 8])] Tryz.func83 rfl rfl (args := [x0, x1, x2]) rfl (by kernel_rfl) h
def f78 (x0 x1 : Value) (Q : PQ) (w : World) : Prop :=
 knew (Value.cells x1) 158 w fun v1 w2 =>
 kN x0 <|
 kfld 9 x0 fun v3 =>
 kld v3 w2 fun v4 =>
 kB v4 fun b54 => kIf b54
 ((kbldS [.int .i64 0, .int .i64 0, .int .i64 0, .int .i64 0, .int .i64 0, .int .i64 0, .int .i64 0, .int .i64 0, .slice none 0 0, .int .i64 0, .int .i64 0] 0 [] 158 w2.drew fun v5 w6 =>
 (kN x0 <|
 kfld 8 x0 fun v7 =>
 kld v7 w6 fun v8 =>
 kG (w6 = w6) <|
 kG (kld v7 w2.drew fun v21 =>
 v21 = v8 ∧ w2.drew = w2.drew) <|
 ksem Tryz.prog (Builtin.append_ #[79, 79] 0 #[v5, v8]) w6 fun v9 w10 =>
 kldN 11 v1 w10 fun v11 =>
 kG (w10 = w10) <|
 kG (kldN 11 v1 w6 fun v20 =>
 v20 = v11 ∧ w6 = w6) <|
 kG (kldN 11 v1 w2.drew fun v19 =>
 v19 = v11 ∧ w2.drew = w2.drew) <|
 kbldS [.int .i64 0, .int .i64 0, .int .i64 0, .int .i64 0, .int .i64 0, .int .i64 0, .int .i64 0, .int .i64 0, .slice none 0 0, .int .i64 0, .int .i64 0] 1 [(0, 11, v11)] 158 w10 fun v12 w13 =>
 kG (kld v7 w13 fun v18 =>
 v18 = v8 ∧ w13 = w13) <|
 ksem Tryz.prog (Builtin.append_ #[79, 79] 0 #[v9, v12]) w13 fun v14 w15 =>
 kN x0 <|
 kfld 8 x0 fun v16 =>
 kst 1 v16 v14 w15 fun w17 =>
 Q (.tuple #[]) w17) ∧
 (kldN 11 v1 w6 fun v22 =>
 kG (w6 = w6) <|
 kG (kldN 11 v1 w2.drew fun v36 =>
 v36 = v22 ∧ w2.drew = w2.drew) <|
 kbldS [.int .i64 0, .int .i64 0, .int .i64 0, .int .i64 0, .int .i64 0, .int .i64 0, .int .i64 0, .int .i64 0, .slice none 0 0, .int .i64 0, .int .i64 0] 1 [(0, 11, v22)] 158 w6 fun v23 w24 =>
 kN x0 <|
 kfld 8 x0 fun v25 =>
 kld v25 w24 fun v26 =>
 kG (w24 = w24) <|
 kG (kld v25 w6 fun v35 =>
 v35 = v26 ∧ w6 = w6) <|
 kG (kld v25 w2.drew fun v34 =>
 v34 = v26 ∧ w2.drew = w2.drew) <|
 ksem Tryz.prog (Builtin.append_ #[79, 79] 0 #[v5, v26]) w24 fun v27 w28 =>
 kG (kldN 11 v1 w28 fun v33 =>
 v33 = v22 ∧ w28 = w28) <|
 ksem Tryz.prog (Builtin.append_ #[79, 79] 0 #[v27, v23]) w28 fun v29 w30 =>
 kN x0 <|
 kfld 8 x0 fun v31 =>
 kst 1 v31 v29 w30 fun w32 =>
 Q (.tuple #[]) w32)) ∧
 (kldN 11 v1 w2.drew fun v37 =>
 kG (w2.drew = w2.drew) <|
 kbldS [.int .i64 0, .int .i64 0, .int .i64 0, .int .i64 0, .int .i64 0, .int .i64 0, .int .i64 0, .int .i64 0, .slice none 0 0, .int .i64 0, .int .i64 0] 1 [(0, 11, v37)] 158 w2.drew fun v38 w39 =>
 kbldS [.int .i64 0, .int .i64 0, .int .i64 0, .int .i64 0, .int .i64 0, .int .i64 0, .int .i64 0, .int .i64 0, .slice none 0 0, .int .i64 0, .int .i64 0] 0 [] 158 w39 fun v40 w41 =>
 kG (kldN 11 v1 w41 fun v53 =>
 v53 = v37 ∧ w41 = w41) <|
 kN x0 <|
 kfld 8 x0 fun v42 =>
 kld v42 w41 fun v43 =>
 kG (w41 = w41) <|
 kG (kld v42 w39 fun v52 =>
 v52 = v43 ∧ w39 = w39) <|
 kG (kld v42 w2.drew fun v51 =>
 v51 = v43 ∧ w2.drew = w2.drew) <|
 ksem Tryz.prog (Builtin.append_ #[79, 79] 0 #[v40, v43]) w41 fun v44 w45 =>
 kG (kldN 11 v1 w45 fun v50 =>
 v50 = v37 ∧ w45 = w45) <|
 ksem Tryz.prog (Builtin.append_ #[79, 79] 0 #[v44, v38]) w45 fun v46 w47 =>
 kN x0 <|
 kfld 8 x0 fun v48 =>
 kst 1 v48 v46 w47 fun w49 =>
 Q (.tuple #[]) w49))
 (Q (.tuple #[]) w2)
theorem f78_ok {x0 x1 : Value} {Q : PQ} {w : World} (h : f78 x0 x1 Q w) : Meets Tryz.prog 78 #[x0, x1] w Q :=
 sound' (c := Tryz.f78.body.get rfl) [] Tryz.func78 rfl rfl (args := [x0, x1]) rfl (by kernel_rfl) h
def f132_2 (x0 x1 x5 : Value) (J2 : Value → World → Prop) (Q : PQ) (w : World) : Prop :=
 kint .i64 .add x5 (.int .i64 1) fun v8 =>
 J2 v8 w
def f132_1 (x0 x1 x5 : Value) (J2 : Value → World → Prop) (Q : PQ) (w : World) : Prop :=
 kix (some (.slice 49)) (some 6) x0 x5 fun v4 =>
 kfld 0 v4 fun v5 =>
 kld v5 w fun v6 =>
 kint .i64 .eql v6 x1 fun v7 =>
 kB v7 fun b9 => kIf b9
 (Q x5 w)
 (f132_2 x0 x1 x5 J2 Q w)
def f132_3 (Q : PQ) (w : World) : Prop :=
 Q (.int .i64 (-1)) w
def f132_0 (x5 x0 x1 : Value) (J2 : Value → World → Prop) (Q : PQ) (w : World) : Prop :=
 klen x0 fun v1 =>
 kint .i64 .lss x5 v1 fun v3 =>
 kB v3 fun b10 => kIf b10
 (f132_1 x0 x1 x5 J2 Q w)
 (f132_3 Q w)
def f132 (x0 x1 : Value) (Q : PQ) (w : World) : Prop :=
 kL fun (I : Value → World → Prop) (μ : Value → World → Nat) => I (.int .i64 0) w ∧ ∀ (x5 : Value) (w1 : World), I x5 w1 →
 f132_0 x5 x0 x1 (fun y5 w2 => I y5 w2 ∧ μ y5 w2 < μ x5 w1) Q w1
theorem f132_ok {x0 x1 : Value} {Q : PQ} {w : World} (h : f132 x0 x1 Q w) : Meets Tryz.prog 132 #[x0, x1] w Q :=
 sound' (c := Tryz.f132.body.get rfl) [(2, [5])] Tryz.func132 rfl rfl (args := [x0, x1]) rfl (by kernel_rfl) h
def f131_4 (x3 x5 : Value) (J4 : Value → World → Prop) (Q : PQ) (w : World) : Prop :=
 kint .i64 .add x5 (.int .i64 1) fun v28 =>
 J4 v28 w
def f131_3 (x3 x5 : Value) (J4 : Value → World → Prop) (Q : PQ) (w : World) : Prop :=
 kfld 1 x3 fun v24 =>
 kix (some (.array 4 3)) (some 1) v24 x5 fun v25 =>
 kld v25 w fun v26 =>
 kint .i64 .neq v26 (.int .i64 0) fun v27 =>
 kB v27 fun b29 => kIf b29
 (Q (.bool false) w)
 (f131_4 x3 x5 J4 Q w)
def f131_5 (Q : PQ) (w : World) : Prop :=
 Q (.bool true) w
def f131_2 (x5 x3 : Value) (J4 : Value → World → Prop) (Q : PQ) (w : World) : Prop :=
 kint .i64 .lss x5 (.int .i64 4) fun v23 =>
 kB v23 fun b30 => kIf b30
 (f131_3 x3 x5 J4 Q w)
 (f131_5 Q w)
def f131_1 (x2 x3 : Value) (Q : PQ) (w : World) : Prop :=
 kfld 0 x2 fun v16 =>
 kld v16 w fun v17 =>
 kfld 0 x3 fun v18 =>
 kld v18 w fun v19 =>
 kix (some (.slice 147)) (some 7) v17 v19 fun v20 =>
 kfld 1 v20 fun v21 =>
 kld v21 w fun v22 =>
 kL fun (I : Value → World → Prop) (μ : Value → World → Nat) => I v22 w ∧ ∀ (x5 : Value) (w1 : World), I x5 w1 →
 f131_2 x5 x3 (fun y5 w2 => I y5 w2 ∧ μ y5 w2 < μ x5 w1) Q w1
def f131_0 (x2 x3 x16 : Value) (Q : PQ) (w : World) : Prop :=
 kB x16 fun b31 => kIf b31
 (Q (.bool false) w)
 (f131_1 x2 x3 Q w)
def f131 (x0 x1 : Value) (Q : PQ) (w : World) : Prop :=
 knew (Value.cells x0) 78 w fun v1 w2 =>
 knew (Value.cells x1) 49 w2 fun v3 w4 =>
 kfld 0 v3 fun v5 =>
 kld v5 w4 fun v6 =>
 kint .i64 .lss v6 (.int .i64 0) fun v7 =>
 kB v7 fun b8 => kIf (!b8)
 (kfld 0 v3 fun v9 =>
 kld v9 w4 fun v10 =>
 kfld 0 v1 fun v11 =>
 kld v11 w4 fun v12 =>
 klen v12 fun v13 =>
 kint .i64 .geq v10 v13 fun v15 =>
 f131_0 v1 v3 v15 Q w4)
 (f131_0 v1 v3 (.bool true) Q w4)
theorem f131_ok {x0 x1 : Value} {Q : PQ} {w : World} (h : f131 x0 x1 Q w) : Meets Tryz.prog 131 #[x0, x1] w Q :=
 sound' (c := Tryz.f131.body.get rfl) [(4, [5])] Tryz.func131 rfl rfl (args := [x0, x1]) rfl (by kernel_rfl) h
def f133_4 (x0 x3 x5 x6 x7 : Value) (J4 : Value → Value → Value → World → Prop) (Q : PQ) (w : World) : Prop :=
 kint .i64 .add x7 (.int .i64 1) fun v27 =>
 J4 x5 x6 v27 w
def f133_3 (x0 x3 x5 x6 x7 : Value) (J4 : Value → Value → Value → World → Prop) (Q : PQ) (w : World) : Prop :=
 kix (some (.slice 49)) (some 6) x0 x7 fun v21 =>
 kldN 6 v21 w fun v22 =>
 kbldS [.int .i64 0, .int .i64 0, .int .i64 0, .int .i64 0, .int .i64 0, .int .i64 0] 1 [(0, 6, v22)] 49 w fun v23 w24 =>
 ksem Tryz.prog (Builtin.append_ #[44, 44] 0 #[x5, v23]) w24 fun v25 w26 =>
 f133_4 x0 x3 v25 x6 x7 J4 Q w26
def f133_2 (x0 x3 x5 x6 x7 x26 : Value) (J4 : Value → Value → Value → World → Prop) (Q : PQ) (w : World) : Prop :=
 kB x26 fun b28 => kIf b28
 (kldN 6 x3 w fun v16 =>
 kbldS [.int .i64 0, .int .i64 0, .int .i64 0, .int .i64 0, .int .i64 0, .int .i64 0] 1 [(0, 6, v16)] 49 w fun v17 w18 =>
 ksem Tryz.prog (Builtin.append_ #[44, 44] 0 #[x5, v17]) w18 fun v19 w20 =>
 f133_3 x0 x3 v19 (.bool true) x7 J4 Q w20)
 (f133_3 x0 x3 x5 x6 x7 J4 Q w)
def f133_1 (x0 x3 x5 x6 x7 : Value) (J4 : Value → Value → Value → World → Prop) (Q : PQ) (w : World) : Prop :=
 kun .not (some .bool) x6 fun v8 =>
 kB v8 fun b9 => kIf b9
 (kix (some (.slice 49)) (some 6) x0 x7 fun v10 =>
 kfld 0 v10 fun v11 =>
 kld v11 w.drew fun v12 =>
 kG (w.drew = w.drew) <|
 kfld 0 x3 fun v13 =>
 kld v13 w.drew fun v14 =>
 kG (w.drew = w.drew) <|
 kint .i64 .gtr v12 v14 fun v15 =>
 f133_2 x0 x3 x5 x6 x7 v15 J4 Q w.drew)
 (f133_2 x0 x3 x5 x6 x7 (.bool false) J4 Q w.drew)
def f133_6 (x5 : Value) (Q : PQ) (w : World) : Prop :=
 Q x5 w
def f133_5 (x3 x5 x6 : Value) (Q : PQ) (w : World) : Prop :=
 kun .not (some .bool) x6 fun v29 =>
 kB v29 fun b35 => kIf b35
 (kldN 6 x3 w fun v30 =>
 kbldS [.int .i64 0, .int .i64 0, .int .i64 0, .int .i64 0, .int .i64 0, .int .i64 0] 1 [(0, 6, v30)] 49 w fun v31 w32 =>
 ksem Tryz.prog (Builtin.append_ #[44, 44] 0 #[x5, v31]) w32 fun v33 w34 =>
 f133_6 v33 Q w34)
 (f133_6 x5 Q w)
def f133_0 (x5 x6 x7 x0 x3 : Value) (J4 : Value → Value → Value → World → Prop) (Q : PQ) (w : World) : Prop :=
 klen x0 fun v5 =>
 kint .i64 .lss x7 v5 fun v7 =>
 kB v7 fun b36 => kIf b36
 (f133_1 x0 x3 x5 x6 x7 J4 Q w)
 (f133_5 x3 x5 x6 Q w)
def f133 (x0 x1 : Value) (Q : PQ) (w : World) : Prop :=
 knew (Value.cells x1) 49 w fun v1 w2 =>
 kbldS [.int .i64 0, .int .i64 0, .int .i64 0, .int .i64 0, .int .i64 0, .int .i64 0] 0 [] 49 w2 fun v3 w4 =>
 kL fun (I : Value → Value → Value → World → Prop) (μ : Value → Value → Value → World → Nat) => I v3 (.bool false) (.int .i64 0) w4 ∧ ∀ (x5 x6 x7 : Value) (w1 : World), I x5 x6 x7 w1 →
 f133_0 x5 x6 x7 x0 v1 (fun y5 y6 y7 w2 => I y5 y6 y7 w2 ∧ μ y5 y6 y7 w2 < μ x5 x6 x7 w1) Q w1
theorem f133_ok {x0 x1 : Value} {Q : PQ} {w : World} (h : f133 x0 x1 Q w) : Meets Tryz.prog 133 #[x0, x1] w Q :=
 sound' (c := Tryz.f133.body.get rfl) [(4, [5, 6, 7])] Tryz.func133 rfl rfl (args := [x0, x1]) rfl (by kernel_rfl) h
def f76_5 (x1 x3 x4 : Value) (J5 : Value → Value → World → Prop) (Q : PQ) (w : World) : Prop :=
 kint .i64 .add x4 (.int .i64 1) fun v55 =>
 J5 x3 v55 w
def f76_9 (x1 x3 x4 x5 x6 x9 x10 : Value) (J18 : Value → Value → World → Prop) (J5 : Value → Value → World → Prop) (Q : PQ) (w : World) : Prop :=
 kint .i64 .add x10 (.int .i64 1) fun v64 =>
 J18 x9 v64 w
def f76_8 (x1 x3 x4 x5 x6 x9 x10 : Value) (J18 : Value → Value → World → Prop) (J5 : Value → Value → World → Prop) (Q : PQ) (w : World) : Prop :=
 kB x9 fun b59 => kIf b59
 (kfld 3 x5 fun v60 =>
 kix (some (.array 4 3)) (some 1) v60 x10 fun v61 =>
 kld v61 w fun v62 =>
 kint .i64 .eql v62 (.int .i64 0) fun v63 =>
 f76_9 x1 x3 x4 x5 x6 v63 x10 J18 J5 Q w)
 (f76_9 x1 x3 x4 x5 x6 (.bool false) x10 J18 J5 Q w)
def f76_10 (x1 x3 x4 x6 x9 : Value) (J5 : Value → Value → World → Prop) (Q : PQ) (w : World) : Prop :=
 kun .not (some .bool) x9 fun v65 =>
 kB v65 fun b72 => kIf b72
 (kstr .add x6 (.string ⟨#[100, 101, 102, 97, 117, 108, 116]⟩) fun v66 =>
 kbld [(.string ⟨#[]⟩), .int .i64 0] [(0, 1, v66), (1, 1, (.int .i64 1))] fun v67 =>
 kbldS [(.string ⟨#[]⟩), .int .i64 0] 1 [(0, 2, v67)] 228 w fun v68 w69 =>
 ksem Tryz.prog (Builtin.append_ #[154, 154] 0 #[x3, v68]) w69 fun v70 w71 =>
 f76_5 x1 v70 x4 J5 Q w71)
 (f76_5 x1 x3 x4 J5 Q w)
def f76_7 (x9 x10 x1 x3 x4 x5 x6 : Value) (J18 : Value → Value → World → Prop) (J5 : Value → Value → World → Prop) (Q : PQ) (w : World) : Prop :=
 kint .i64 .lss x10 (.int .i64 4) fun v58 =>
 kB v58 fun b73 => kIf b73
 (f76_8 x1 x3 x4 x5 x6 x9 x10 J18 J5 Q w)
 (f76_10 x1 x3 x4 x6 x9 J5 Q w)
def f76_6 (x1 x3 x4 x5 x6 : Value) (J5 : Value → Value → World → Prop) (Q : PQ) (w : World) : Prop :=
 kfld 1 x5 fun v56 =>
 kld v56 w fun v57 =>
 kL fun (I : Value → Value → World → Prop) (μ : Value → Value → World → Nat) => I (.bool true) v57 w ∧ ∀ (x9 x10 : Value) (w1 : World), I x9 x10 w1 →
 f76_7 x9 x10 x1 x3 x4 x5 x6 (fun y9 y10 w2 => I y9 y10 w2 ∧ μ y9 y10 w2 < μ x9 x10 w1) J5 Q w1
def f76_4 (x1 x3 x4 x5 x6 x79 : Value) (J5 : Value → Value → World → Prop) (Q : PQ) (w : World) : Prop :=
 kB x79 fun b74 => kIf b74
 (kstr .add x6 (.string ⟨#[119, 105, 100, 116, 104]⟩) fun v49 =>
 kbld [(.string ⟨#[]⟩), .int .i64 0] [(0, 1, v49), (1, 1, (.int .i64 1))] fun v50 =>
 kbldS [(.string ⟨#[]⟩), .int .i64 0] 1 [(0, 2, v50)] 228 w fun v51 w52 =>
 ksem Tryz.prog (Builtin.append_ #[154, 154] 0 #[x3, v51]) w52 fun v53 w54 =>
 f76_5 x1 v53 x4 J5 Q w54)
 (f76_6 x1 x3 x4 x5 x6 J5 Q w)
def f76_3 (x1 x3 x4 x5 x6 : Value) (J5 : Value → Value → World → Prop) (Q : PQ) (w : World) : Prop :=
 kfld 1 x5 fun v42 =>
 kld v42 w fun v43 =>
 kint .i64 .lss v43 (.int .i64 1) fun v44 =>
 kB v44 fun b45 => kIf (!b45)
 (kfld 1 x5 fun v46 =>
 kld v46 w fun v47 =>
 kint .i64 .gtr v47 (.int .i64 4) fun v48 =>
 f76_4 x1 x3 x4 x5 x6 v48 J5 Q w)
 (f76_4 x1 x3 x4 x5 x6 (.bool true) J5 Q w)
def f76_11 (x1 x3 x4 x5 x6 x65 : Value) (J5 : Value → Value → World → Prop) (Q : PQ) (w : World) : Prop :=
 kB x65 fun b90 => kIf b90
 (kstr .add x6 (.string ⟨#[110, 97, 109, 101]⟩) fun v84 =>
 kbld [(.string ⟨#[]⟩), .int .i64 0] [(0, 1, v84), (1, 1, (.int .i64 9))] fun v85 =>
 kbldS [(.string ⟨#[]⟩), .int .i64 0] 1 [(0, 2, v85)] 228 w fun v86 w87 =>
 ksem Tryz.prog (Builtin.append_ #[154, 154] 0 #[x3, v86]) w87 fun v88 w89 =>
 f76_3 x1 v88 x4 x5 x6 J5 Q w89)
 (f76_3 x1 x3 x4 x5 x6 J5 Q w)
def f76_2 (x1 x3 x4 : Value) (J5 : Value → Value → World → Prop) (Q : PQ) (w : World) : Prop :=
 kfld 0 x1 fun v20 =>
 kld v20 w fun v21 =>
 kix (some (.slice 147)) (some 7) v21 x4 fun v22 =>
 kldN 7 v22 w fun v23 =>
 knew #[(.string ⟨#[]⟩), .int .i64 0, .bool false, .int .i64 0, .int .i64 0, .int .i64 0, .int .i64 0] 147 w fun v24 w25 =>
 kst 7 v24 v23 w25 fun w26 =>
 kcall Tryz.prog 116 #[x4] w26 fun v27 w28 =>
 kstr .add (.string ⟨#[99, 111, 109, 112, 111, 110, 101, 110, 116, 115, 47]⟩) v27 fun v29 =>
 kstr .add v29 (.string ⟨#[47]⟩) fun v30 =>
 kfld 0 v24 fun v31 =>
 kld v31 w28 fun v32 =>
 kcall Tryz.prog 117 #[v32] w28 fun v33 w34 =>
 kun .not (some .bool) v33 fun v35 =>
 kB v35 fun b91 => kIf b91
 (kstr .add v30 (.string ⟨#[110, 97, 109, 101]⟩) fun v36 =>
 kbld [(.string ⟨#[]⟩), .int .i64 0] [(0, 1, v36), (1, 1, (.int .i64 10))] fun v37 =>
 kbldS [(.string ⟨#[]⟩), .int .i64 0] 1 [(0, 2, v37)] 228 w34 fun v38 w39 =>
 ksem Tryz.prog (Builtin.append_ #[154, 154] 0 #[x3, v38]) w39 fun v40 w41 =>
 f76_3 x1 v40 x4 v24 v30 J5 Q w41)
 (kldN 2 x1 w34 fun v75 =>
 kfld 0 v24 fun v76 =>
 kld v76 w34 fun v77 =>
 kcall Tryz.prog 118 #[v75, v77] w34 fun v78 w79 =>
 kext v78 0 fun v80 =>
 kext v78 1 fun v81 =>
 kB v81 fun b82 => kIf b82
 (kint .i64 .lss v80 x4 fun v83 =>
 f76_11 x1 x3 x4 v24 v30 v83 J5 Q w79)
 (f76_11 x1 x3 x4 v24 v30 (.bool false) J5 Q w79))
def f76_16 (x1 x3 x11 : Value) (J26 : Value → Value → World → Prop) (Q : PQ) (w : World) : Prop :=
 kint .i64 .add x11 (.int .i64 1) fun v134 =>
 J26 x3 v134 w
def f76_17 (x1 x3 x11 x13 x161 : Value) (J26 : Value → Value → World → Prop) (Q : PQ) (w : World) : Prop :=
 kB x161 fun b143 => kIf b143
 (kbld [(.string ⟨#[]⟩), .int .i64 0] [(0, 1, x13), (1, 1, (.int .i64 9))] fun v138 =>
 kbldS [(.string ⟨#[]⟩), .int .i64 0] 1 [(0, 2, v138)] 228 w fun v139 w140 =>
 ksem Tryz.prog (Builtin.append_ #[154, 154] 0 #[x3, v139]) w140 fun v141 w142 =>
 f76_16 x1 v141 x11 J26 Q w142)
 (f76_16 x1 x3 x11 J26 Q w)
def f76_15 (x1 x3 x11 : Value) (J26 : Value → Value → World → Prop) (Q : PQ) (w : World) : Prop :=
 kfld 1 x1 fun v107 =>
 kld v107 w fun v108 =>
 kix (some (.slice 150)) (some 2) v108 x11 fun v109 =>
 kfld 0 v109 fun v110 =>
 kld v110 w fun v111 =>
 kcall Tryz.prog 116 #[x11] w fun v112 w113 =>
 kstr .add (.string ⟨#[114, 101, 115, 111, 117, 114, 99, 101, 115, 47]⟩) v112 fun v114 =>
 kstr .add v114 (.string ⟨#[47, 110, 97, 109, 101]⟩) fun v115 =>
 kldN 2 x1 w113 fun v116 =>
 kcall Tryz.prog 118 #[v116, v111] w113 fun v117 w118 =>
 kext v117 0 fun v119 =>
 kext v117 1 fun v120 =>
 kldN 2 x1 w118 fun v121 =>
 kcall Tryz.prog 119 #[v121, v111] w118 fun v122 w123 =>
 kext v122 0 fun v124 =>
 kext v122 1 fun v125 =>
 kcall Tryz.prog 117 #[v111] w123 fun v126 w127 =>
 kun .not (some .bool) v126 fun v128 =>
 kB v128 fun b144 => kIf b144
 (kbld [(.string ⟨#[]⟩), .int .i64 0] [(0, 1, v115), (1, 1, (.int .i64 10))] fun v129 =>
 kbldS [(.string ⟨#[]⟩), .int .i64 0] 1 [(0, 2, v129)] 228 w127 fun v130 w131 =>
 ksem Tryz.prog (Builtin.append_ #[154, 154] 0 #[x3, v130]) w131 fun v132 w133 =>
 f76_16 x1 v132 x11 J26 Q w133)
 (kB v120 fun b135 => kIf (!b135)
 (kB v125 fun b136 => kIf b136
 (kint .i64 .lss v124 x11 fun v137 =>
 f76_17 x1 x3 x11 v115 v137 J26 Q w127)
 (f76_17 x1 x3 x11 v115 (.bool false) J26 Q w127))
 (f76_17 x1 x3 x11 v115 (.bool true) J26 Q w127))
def f76_18 (x3 : Value) (Q : PQ) (w : World) : Prop :=
 Q x3 w
def f76_14 (x3 x11 x1 : Value) (J26 : Value → Value → World → Prop) (Q : PQ) (w : World) : Prop :=
 kfld 1 x1 fun v102 =>
 kld v102 w fun v103 =>
 klen v103 fun v104 =>
 kint .i64 .lss x11 v104 fun v106 =>
 kB v106 fun b145 => kIf b145
 (f76_15 x1 x3 x11 J26 Q w)
 (f76_18 x3 Q w)
def f76_13 (x1 x3 : Value) (Q : PQ) (w : World) : Prop :=
 kL fun (I : Value → Value → World → Prop) (μ : Value → Value → World → Nat) => I x3 (.int .i64 0) w ∧ ∀ (x3 x11 : Value) (w1 : World), I x3 x11 w1 →
 f76_14 x3 x11 x1 (fun y3 y11 w2 => I y3 y11 w2 ∧ μ y3 y11 w2 < μ x3 x11 w1) Q w1
def f76_12 (x1 x3 : Value) (Q : PQ) (w : World) : Prop :=
 kfld 1 x1 fun v92 =>
 kld v92 w fun v93 =>
 klen v93 fun v94 =>
 kint .i64 .gtr v94 (.int .i64 8) fun v96 =>
 kB v96 fun b146 => kIf b146
 (kbld [(.string ⟨#[]⟩), .int .i64 0] [(0, 1, (.string ⟨#[114, 101, 115, 111, 117, 114, 99, 101, 115]⟩)), (1, 1, (.int .i64 4))] fun v97 =>
 kbldS [(.string ⟨#[]⟩), .int .i64 0] 1 [(0, 2, v97)] 228 w fun v98 w99 =>
 ksem Tryz.prog (Builtin.append_ #[154, 154] 0 #[x3, v98]) w99 fun v100 w101 =>
 f76_13 x1 v100 Q w101)
 (f76_13 x1 x3 Q w)
def f76_1 (x3 x4 x1 : Value) (J5 : Value → Value → World → Prop) (Q : PQ) (w : World) : Prop :=
 kfld 0 x1 fun v15 =>
 kld v15 w fun v16 =>
 klen v16 fun v17 =>
 kint .i64 .lss x4 v17 fun v19 =>
 kB v19 fun b147 => kIf b147
 (f76_2 x1 x3 x4 J5 Q w)
 (f76_12 x1 x3 Q w)
def f76_0 (x1 x3 : Value) (Q : PQ) (w : World) : Prop :=
 kL fun (I : Value → Value → World → Prop) (μ : Value → Value → World → Nat) => I x3 (.int .i64 0) w ∧ ∀ (x3 x4 : Value) (w1 : World), I x3 x4 w1 →
 f76_1 x3 x4 x1 (fun y3 y4 w2 => I y3 y4 w2 ∧ μ y3 y4 w2 < μ x3 x4 w1) Q w1
def f76 (x0 : Value) (Q : PQ) (w : World) : Prop :=
 knew (Value.cells x0) 78 w fun v1 w2 =>
 kbldS [(.string ⟨#[]⟩), .int .i64 0] 0 [] 228 w2 fun v3 w4 =>
 kfld 0 v1 fun v5 =>
 kld v5 w4 fun v6 =>
 klen v6 fun v7 =>
 kint .i64 .gtr v7 (.int .i64 16) fun v9 =>
 kB v9 fun b148 => kIf b148
 (kbld [(.string ⟨#[]⟩), .int .i64 0] [(0, 1, (.string ⟨#[99, 111, 109, 112, 111, 110, 101, 110, 116, 115]⟩)), (1, 1, (.int .i64 4))] fun v10 =>
 kbldS [(.string ⟨#[]⟩), .int .i64 0] 1 [(0, 2, v10)] 228 w4 fun v11 w12 =>
 ksem Tryz.prog (Builtin.append_ #[154, 154] 0 #[v3, v11]) w12 fun v13 w14 =>
 f76_0 v1 v13 Q w14)
 (f76_0 v1 v3 Q w4)
theorem f76_ok {x0 : Value} {Q : PQ} {w : World} (h : f76 x0 Q w) : Meets Tryz.prog 76 #[x0] w Q :=
 sound' (c := Tryz.f76.body.get rfl) [(5, [3, 4]), (18, [9, 10]), (26, [3, 11])] Tryz.func76 rfl rfl (args := [x0]) rfl (by kernel_rfl) h
def f116_0 (x0 : Value) (Q : PQ) (w : World) : Prop :=
 kint .i64 .quo x0 (.int .i64 10) fun v4 =>
 kcall Tryz.prog 116 #[v4] w.drew fun v5 w6 =>
 kint .i64 .rem x0 (.int .i64 10) fun v7 =>
 kint .i64 .rem x0 (.int .i64 10) fun v8 =>
 kint .i64 .add v8 (.int .i64 1) fun v9 =>
 ksl (some .string) none (.string ⟨#[48, 49, 50, 51, 52, 53, 54, 55, 56, 57]⟩) (some v7) (some v9) fun v10 =>
 kstr .add v5 v10 fun v11 =>
 Q v11 w6
def f116 (x0 : Value) (Q : PQ) (w : World) : Prop :=
 kint .i64 .lss x0 (.int .i64 10) fun v1 =>
 kB v1 fun b12 => kIf b12
 (kint .i64 .add x0 (.int .i64 1) fun v2 =>
 ksl (some .string) none (.string ⟨#[48, 49, 50, 51, 52, 53, 54, 55, 56, 57]⟩) (some x0) (some v2) fun v3 =>
 Q v3 w)
 (f116_0 x0 Q w)
theorem f116_ok {x0 : Value} {Q : PQ} {w : World} (h : f116 x0 Q w) : Meets Tryz.prog 116 #[x0] w Q :=
 sound' (c := Tryz.f116.body.get rfl) [] Tryz.func116 rfl rfl (args := [x0]) rfl (by kernel_rfl) h
def f118_2 (x1 x2 x6 : Value) (J2 : Value → World → Prop) (Q : PQ) (w : World) : Prop :=
 kint .i64 .add x6 (.int .i64 1) fun v14 =>
 J2 v14 w
def f118_1 (x1 x2 x6 : Value) (J2 : Value → World → Prop) (Q : PQ) (w : World) : Prop :=
 kfld 0 x2 fun v8 =>
 kld v8 w fun v9 =>
 kix (some (.slice 147)) (some 7) v9 x6 fun v10 =>
 kfld 0 v10 fun v11 =>
 kld v11 w fun v12 =>
 kstr .eql v12 x1 fun v13 =>
 kB v13 fun b15 => kIf b15
 (Q (.tuple #[x6, .bool true]) w)
 (f118_2 x1 x2 x6 J2 Q w)
def f118_3 (Q : PQ) (w : World) : Prop :=
 Q (.tuple #[.int .i64 0, .bool false]) w
def f118_0 (x6 x1 x2 : Value) (J2 : Value → World → Prop) (Q : PQ) (w : World) : Prop :=
 kfld 0 x2 fun v3 =>
 kld v3 w fun v4 =>
 klen v4 fun v5 =>
 kint .i64 .lss x6 v5 fun v7 =>
 kB v7 fun b16 => kIf b16
 (f118_1 x1 x2 x6 J2 Q w)
 (f118_3 Q w)
def f118 (x0 x1 : Value) (Q : PQ) (w : World) : Prop :=
 knew (Value.cells x0) 78 w fun v1 w2 =>
 kL fun (I : Value → World → Prop) (μ : Value → World → Nat) => I (.int .i64 0) w2 ∧ ∀ (x6 : Value) (w1 : World), I x6 w1 →
 f118_0 x6 x1 v1 (fun y6 w2 => I y6 w2 ∧ μ y6 w2 < μ x6 w1) Q w1
theorem f118_ok {x0 x1 : Value} {Q : PQ} {w : World} (h : f118 x0 x1 Q w) : Meets Tryz.prog 118 #[x0, x1] w Q :=
 sound' (c := Tryz.f118.body.get rfl) [(2, [6])] Tryz.func118 rfl rfl (args := [x0, x1]) rfl (by kernel_rfl) h
def f117_5 (x0 x3 : Value) (J4 : Value → World → Prop) (Q : PQ) (w : World) : Prop :=
 kint .i64 .add x3 (.int .i64 1) fun v16 =>
 J4 v16 w
def f117_4 (x0 x3 x27 : Value) (J4 : Value → World → Prop) (Q : PQ) (w : World) : Prop :=
 kB x27 fun b17 => kIf b17
 (Q (.bool false) w)
 (f117_5 x0 x3 J4 Q w)
def f117_3 (x0 x3 : Value) (J4 : Value → World → Prop) (Q : PQ) (w : World) : Prop :=
 kiv Tryz.prog (some .string) x0 x3 fun v11 =>
 kint .u8 .lss v11 (.int .u8 97) fun v12 =>
 kB v12 fun b13 => kIf (!b13)
 (kiv Tryz.prog (some .string) x0 x3 fun v14 =>
 kint .u8 .gtr v14 (.int .u8 122) fun v15 =>
 f117_4 x0 x3 v15 J4 Q w)
 (f117_4 x0 x3 (.bool true) J4 Q w)
def f117_6 (Q : PQ) (w : World) : Prop :=
 Q (.bool true) w
def f117_2 (x3 x0 : Value) (J4 : Value → World → Prop) (Q : PQ) (w : World) : Prop :=
 klenStr x0 fun v8 =>
 kint .i64 .lss x3 v8 fun v10 =>
 kB v10 fun b18 => kIf b18
 (f117_3 x0 x3 J4 Q w)
 (f117_6 Q w)
def f117_1 (x0 : Value) (Q : PQ) (w : World) : Prop :=
 kL fun (I : Value → World → Prop) (μ : Value → World → Nat) => I (.int .i64 0) w ∧ ∀ (x3 : Value) (w1 : World), I x3 w1 →
 f117_2 x3 x0 (fun y3 w2 => I y3 w2 ∧ μ y3 w2 < μ x3 w1) Q w1
def f117_0 (x0 x11 : Value) (Q : PQ) (w : World) : Prop :=
 kB x11 fun b19 => kIf b19
 (Q (.bool false) w)
 (f117_1 x0 Q w)
def f117 (x0 : Value) (Q : PQ) (w : World) : Prop :=
 klenStr x0 fun v1 =>
 kint .i64 .lss v1 (.int .i64 1) fun v3 =>
 kB v3 fun b4 => kIf (!b4)
 (klenStr x0 fun v5 =>
 kint .i64 .gtr v5 (.int .i64 8) fun v7 =>
 f117_0 x0 v7 Q w)
 (f117_0 x0 (.bool true) Q w)
theorem f117_ok {x0 : Value} {Q : PQ} {w : World} (h : f117 x0 Q w) : Meets Tryz.prog 117 #[x0] w Q :=
 sound' (c := Tryz.f117.body.get rfl) [(4, [3])] Tryz.func117 rfl rfl (args := [x0]) rfl (by kernel_rfl) h
def f119_2 (x1 x2 x6 : Value) (J2 : Value → World → Prop) (Q : PQ) (w : World) : Prop :=
 kint .i64 .add x6 (.int .i64 1) fun v14 =>
 J2 v14 w
def f119_1 (x1 x2 x6 : Value) (J2 : Value → World → Prop) (Q : PQ) (w : World) : Prop :=
 kfld 1 x2 fun v8 =>
 kld v8 w fun v9 =>
 kix (some (.slice 150)) (some 2) v9 x6 fun v10 =>
 kfld 0 v10 fun v11 =>
 kld v11 w fun v12 =>
 kstr .eql v12 x1 fun v13 =>
 kB v13 fun b15 => kIf b15
 (Q (.tuple #[x6, .bool true]) w)
 (f119_2 x1 x2 x6 J2 Q w)
def f119_3 (Q : PQ) (w : World) : Prop :=
 Q (.tuple #[.int .i64 0, .bool false]) w
def f119_0 (x6 x1 x2 : Value) (J2 : Value → World → Prop) (Q : PQ) (w : World) : Prop :=
 kfld 1 x2 fun v3 =>
 kld v3 w fun v4 =>
 klen v4 fun v5 =>
 kint .i64 .lss x6 v5 fun v7 =>
 kB v7 fun b16 => kIf b16
 (f119_1 x1 x2 x6 J2 Q w)
 (f119_3 Q w)
def f119 (x0 x1 : Value) (Q : PQ) (w : World) : Prop :=
 knew (Value.cells x0) 78 w fun v1 w2 =>
 kL fun (I : Value → World → Prop) (μ : Value → World → Nat) => I (.int .i64 0) w2 ∧ ∀ (x6 : Value) (w1 : World), I x6 w1 →
 f119_0 x6 x1 v1 (fun y6 w2 => I y6 w2 ∧ μ y6 w2 < μ x6 w1) Q w1
theorem f119_ok {x0 x1 : Value} {Q : PQ} {w : World} (h : f119 x0 x1 Q w) : Meets Tryz.prog 119 #[x0, x1] w Q :=
 sound' (c := Tryz.f119.body.get rfl) [(2, [6])] Tryz.func119 rfl rfl (args := [x0, x1]) rfl (by kernel_rfl) h
def f36_1 (x1 x2 : Value) (Q : PQ) (w : World) : Prop :=
 kldN 2 x2 w fun v13 =>
 kbld [.slice none 0 0, .slice none 0 0, .int .i64 0, .slice none 0 0, .int .i64 0, .int .i64 0] [(0, 2, v13), (2, 1, x1)] fun v14 =>
 knew (Value.cells v14) 86 w fun v15 w16 =>
 Q v15 w16
def f36_0 (x1 x2 x16 : Value) (Q : PQ) (w : World) : Prop :=
 kB x16 fun b17 => kIf b17
 (Q (.pointer none) w)
 (f36_1 x1 x2 Q w)
def f36 (x0 x1 : Value) (Q : PQ) (w : World) : Prop :=
 knew (Value.cells x0) 78 w fun v1 w2 =>
 kldN 2 v1 w2 fun v3 =>
 kcall Tryz.prog 76 #[v3] w2 fun v4 w5 =>
 klen v4 fun v6 =>
 kint .i64 .gtr v6 (.int .i64 0) fun v8 =>
 kB v8 fun b9 => kIf (!b9)
 (kint .i64 .lss x1 (.int .i64 0) fun v10 =>
 kB v10 fun b11 => kIf (!b11)
 (kint .i64 .gtr x1 (.int .i64 64) fun v12 =>
 f36_0 x1 v1 v12 Q w5)
 (f36_0 x1 v1 (.bool true) Q w5))
 (f36_0 x1 v1 (.bool true) Q w5)
theorem f36_ok {x0 x1 : Value} {Q : PQ} {w : World} (h : f36 x0 x1 Q w) : Meets Tryz.prog 36 #[x0, x1] w Q :=
 sound' (c := Tryz.f36.body.get rfl) [] Tryz.func36 rfl rfl (args := [x0, x1]) rfl (by kernel_rfl) h
end
section
attribute [local irreducible] kO kB kStr kInt kN kG kIf kfld kld kldN kst knew kmap kbld kbldS kext kcnv klenStr klen kcap kprt kprtN kbool kint kstr keq kun ksl kix kiv kta kmk kmm ksem ksemU kextf kcallV kcallM kcall kL
theorem refName_spec {s : ByteArray} (h : NameOk s) (w : World) : Meets Tryz.prog 117 #[.string s] w fun v w' => v = .bool true ∧ w' = w := by
 obtain ⟨h1, h8, hall⟩ := h
 have hsz : s.data.toList.length = s.size := rfl
 refine f117_ok ?_
 unfold f117
 refine klenStr_at ?_
 refine lss_at ?_
 refine kB_at ?_
 refine kIf_ndec (fun _ => ?_) (fun h => absurd h (by omega))
 refine klenStr_at ?_
 refine gtr_at ?_
 rw [decF (by omega)]
 unfold f117_0
 refine kB_at ?_
 refine kIf_F rfl ?_
 unfold f117_1
 refine kL1_of s.size (fun j x wr => x = .int .i64 j ∧ wr = w) ⟨lI1_0 ⟨rfl, rfl⟩, fun x wr hx => ?_⟩
 obtain ⟨j, hj, ⟨rfl, rfl⟩, hJ⟩ := lI1_step hx
 unfold f117_2
 refine klenStr_at ?_
 refine lss_at ?_
 refine kB_at ?_
 refine kIf_dec (fun hlt => ?_) (fun hge => ?_)
 ·have hlt : j < s.size := by omega
  have hjl : j < s.data.toList.length := by omega
  have hb := hall _ (List.getElem_mem hjl)
  have hel : s[j]? = some (s.data.toList[j]) := by
   rw [getElem?_pos s j hlt]
   rfl
  unfold f117_3
  rw [kiv_string]
  refine kG_of (by omega) ?_
  rw [Int.toNat_natCast, hel]
  refine kO_at ?_
  generalize s.data.toList[j] = x at *
  refine lss_at ?_
  refine kB_at ?_
  refine kIf_ndec (fun _ => ?_) (fun h => absurd h (by omega))
  rw [kiv_string]
  refine kG_of (by omega) ?_
  rw [Int.toNat_natCast, hel]
  refine kO_at ?_
  refine gtr_at ?_
  rw [decF (by omega)]
  unfold f117_4
  refine kB_at ?_
  refine kIf_F rfl ?_
  unfold f117_5
  refine add_at (by omega) (by omega) ?_
  rw [cast_succ]
  exact hJ _ _ hlt ⟨rfl, rfl⟩
 ·exact ⟨rfl, rfl⟩
theorem digits_spec {n : Nat} (hn : n < 10) (w : World) : Meets Tryz.prog 116 #[.int .i64 n] w fun v w' => (∃ s : ByteArray, v = .string s ∧ s.size ≤ 10) ∧ w' = w := by
 refine f116_ok ?_
 unfold f116
 refine lss_at ?_
 refine kB_at ?_
 refine kIf_T (decT (by omega)) ?_
 refine add_at (by omega) (by omega) ?_
 rw [ksl_string rfl rfl]
 refine kG_of ?_ ?_
 ·simp only [loV_int, hiV_int]
  refine ⟨by omega, by omega, ?_⟩
  show (n : Int) + 1 ≤ 10
  omega
 refine ⟨⟨_, rfl, ?_⟩, rfl⟩
 rw [ByteArray.size_extract]
 show min _ 10 - _ ≤ 10
 omega
section
variable {w : World} {a : Option Addr} {L : List Comp} {cp : Nat} {ra : Option Addr} {R : List ResM} {rc : Nat}
theorem refFind (hs : SlIs w a L.length 7 (L.flatMap Comp.cells)) (hL : L.length ≤ 16) (nm : ByteArray) :
  Meets Tryz.prog 118 #[scV a L.length cp (.slice ra R.length rc), .string nm] w fun v w' => (∃ k b, v = .tuple #[.int .i64 k, .bool b] ∧ (b = true → ∃ (i : Nat) (hi : i < L.length), k = (i : Int) ∧ (L[i]).name = nm ∧ ∀ j (hj : j < i), (L[j]'(by omega)).name ≠ nm)) ∧ Same w w' := by
 rw [scV]
 refine f118_ok ?_
 unfold f118
 refine knew_of fun w2 h2 hs2 hb2 => ?_
 have hb2 : blk w2 w.heap.size = some (.cells #[.slice a L.length cp, .slice ra R.length rc] 78) := hb2
 have hs' := hs.same h2
 refine kL1_of L.length (fun j x wr => x = .int .i64 j ∧ wr = w2 ∧ ∀ i (hi : i < j) (hL : i < L.length), (L[i]).name ≠ nm) ⟨lI1_0 ⟨rfl, rfl, fun i hi => absurd hi (Nat.not_lt_zero i)⟩, fun x wr hx => ?_⟩
 obtain ⟨j, hj, ⟨rfl, rfl, hno⟩, hJ⟩ := lI1_step hx
 unfold f118_0
 refine kfld_of ?_
 refine kld_of (v := .slice a L.length cp) hb2 rfl ?_
 refine klen_at ?_
 refine lss_at ?_
 refine kB_at ?_
 refine kIf_dec (fun hlt => ?_) (fun hge => ?_)
 ·have hlt : j < L.length := by omega
  unfold f118_1
  refine kfld_of ?_
  refine kld_of (v := .slice a L.length cp) hb2 rfl ?_
  refine kixfld_of (F := Comp.cells) (sz := 7) (fun _ => rfl) (j := 0) hs' hlt rfl rfl ?_
  refine kstr_eql_at ?_
  refine kB_at ?_
  refine kIf_dec (fun he => ?_) (fun he => ?_)
  ·exact ⟨⟨_, true, rfl, fun _ => ⟨j, hlt, rfl, he, fun i hi => hno i hi (by omega)⟩⟩, h2⟩
  ·unfold f118_2
   refine add_at (by omega) (by omega) ?_
   rw [cast_succ]
   refine hJ _ _ hlt ⟨rfl, rfl, fun i hi hL => ?_⟩
   by_cases e : i = j
   ·subst e; exact he
   ·exact hno i (by omega) hL
 ·exact ⟨⟨_, false, rfl, fun h => Bool.noConfusion h⟩, h2⟩
theorem refRes (hr : SlIs w ra R.length 2 (R.flatMap ResM.cells)) (hR : R.length ≤ 8) (nm : ByteArray) :
  Meets Tryz.prog 119 #[scV a L.length cp (.slice ra R.length rc), .string nm] w fun v w' => (∃ k b, v = .tuple #[.int .i64 k, .bool b] ∧ (b = true → ∃ (i : Nat) (hi : i < R.length), k = (i : Int) ∧ (R[i]).name = nm)) ∧ Same w w' := by
 rw [scV]
 refine f119_ok ?_
 unfold f119
 refine knew_of fun w2 h2 hs2 hb2 => ?_
 have hb2 : blk w2 w.heap.size = some (.cells #[.slice a L.length cp, .slice ra R.length rc] 78) := hb2
 have hs' := hr.same h2
 refine kL1_of R.length (fun j x wr => x = .int .i64 j ∧ wr = w2) ⟨lI1_0 ⟨rfl, rfl⟩, fun x wr hx => ?_⟩
 obtain ⟨j, hj, ⟨rfl, rfl⟩, hJ⟩ := lI1_step hx
 unfold f119_0
 refine kfld_of ?_
 refine kld_of (v := .slice ra R.length rc) hb2 rfl ?_
 refine klen_at ?_
 refine lss_at ?_
 refine kB_at ?_
 refine kIf_dec (fun hlt => ?_) (fun hge => ?_)
 ·have hlt : j < R.length := by omega
  unfold f119_1
  refine kfld_of ?_
  refine kld_of (v := .slice ra R.length rc) hb2 rfl ?_
  refine kixfld_of (F := ResM.cells) (sz := 2) (fun _ => rfl) (j := 0) hs' hlt rfl rfl ?_
  refine kstr_eql_at ?_
  refine kB_at ?_
  refine kIf_dec (fun he => ?_) (fun he => ?_)
  ·exact ⟨⟨_, true, rfl, fun _ => ⟨j, hlt, rfl, he⟩⟩, h2⟩
  ·unfold f119_2
   refine add_at (by omega) (by omega) ?_
   rw [cast_succ]
   exact hJ _ _ hlt ⟨rfl, rfl⟩
 ·exact ⟨⟨_, false, rfl, fun h => Bool.noConfusion h⟩, h2⟩
theorem cell_d {q : Comp} (d : Nat) (hq : q.width = (d : Int)) (h1 : 1 ≤ d) (hc : (q.width ≤ 1 → q.d1 = 0) ∧ (q.width ≤ 2 → q.d2 = 0) ∧ (q.width ≤ 3 → q.d3 = 0)) {i : Nat} (hi : d ≤ i) (h4 : i < 4) : nth q.cells (3 + i) = some (.int .i64 0) := by
 obtain ⟨c1, c2, c3⟩ := hc
 have hi' : i = 1 ∨ i = 2 ∨ i = 3 := by omega
 rcases hi' with rfl | rfl | rfl
 ·rw [← c1 (by omega)]; rfl
 ·rw [← c2 (by omega)]; rfl
 ·rw [← c3 (by omega)]; rfl
theorem refCheck (hs : SlIs w a L.length 7 (L.flatMap Comp.cells)) (hG : GoodSc L) (hL10 : L.length ≤ 10) (hr : SlIs w ra R.length 2 (R.flatMap ResM.cells)) (hGR : GoodR L R) :
  Meets Tryz.prog 76 #[scV a L.length cp (.slice ra R.length rc)] w fun v w' => (∃ b, v = .slice (some b) 0 0) ∧ Same w w' := by
 have hR := hGR.len
 rw [scV]
 refine f76_ok ?_
 unfold f76
 refine knew_of fun w2 h2 hs2 hb2 => ?_
 have hb2 : blk w2 w.heap.size = some (.cells #[.slice a L.length cp, .slice ra R.length rc] 78) := hb2
 refine kbldS_of (cs := []) rfl fun w4 h4 hs4 hb4 => ?_
 have m4 := h2.trans h4
 have hb4' := h4.get hb2 (fun h => h)
 generalize hv3 : (Value.slice (some ⟨w2.heap.size, 0, none⟩) 0 0) = v3
 have hpost : ∃ b, v3 = .slice (some b) 0 0 := ⟨_, hv3.symm⟩
 refine kfld_of ?_
 refine kld_of (v := .slice a L.length cp) hb4' rfl ?_
 refine klen_at ?_
 refine gtr_at ?_
 refine kB_at ?_
 refine kIf_F (decF (by omega)) ?_
 unfold f76_0
 refine kL2_of L.length (fun j x y wr => x = v3 ∧ y = .int .i64 j ∧ Same w4 wr) ⟨lI2_0 ⟨rfl, rfl, Mod.refl _ _⟩, fun x y wr hx => ?_⟩
 obtain ⟨j, hj, ⟨rfl, rfl, mr⟩, hJ⟩ := lI2_step hx
 have hbr := mr.get hb4' (fun h => h)
 have hsr := hs.same (m4.trans mr)
 have hrr := hr.same (m4.trans mr)
 unfold f76_1
 refine kfld_of ?_
 refine kld_of (v := .slice a L.length cp) hbr rfl ?_
 refine klen_at ?_
 refine lss_at ?_
 refine kB_at ?_
 refine kIf_dec (fun hlt => ?_) (fun hge => ?_)
 ·have hlt : j < L.length := by omega
  obtain ⟨d, hd, hd1, hd4⟩ := hG.wide _ (List.getElem_mem hlt)
  have hcl := hG.clean _ (List.getElem_mem hlt)
  have hnm := hG.names _ (List.getElem_mem hlt)
  unfold f76_2
  refine kfld_of ?_
  refine kld_of (v := .slice a L.length cp) hbr rfl ?_
  refine kixldN_of (F := Comp.cells) (sz := 7) (fun _ => rfl) (by omega) hsr hlt rfl ?_
  refine knew_of fun w24 h24 hs24 hb24 => ?_
  refine kst_of (vs := (L[j]).cells) hb24 rfl rfl rfl (by simp) (by simp [Comp.cells]) fun w25 h25 hs25 hb25 => ?_
  have hb25 : blk w25 wr.heap.size = some (.cells (L[j]).cells.toArray 147) := hb25
  have m25 : Same wr w25 := h24.trans' (h25.mono fun k _ e => .inr (by omega))
  refine kcall_of (digits_spec (n := j) (by omega) w25) ?_
  rintro v w28 ⟨⟨s, rfl, hsz⟩, rfl⟩
  rw [kstr_add]
  refine kG_of (by show 11 + s.size ≤ _; omega) ?_
  rw [kstr_add]
  refine kG_of (by rw [ByteArray.size_append]; show 11 + s.size + 1 ≤ _; omega) ?_
  refine kfld_of ?_
  refine kld_of (v := .string (L[j]).name) hb25 rfl ?_
  refine kcall_of (refName_spec hnm w28) ?_
  rintro v w34 ⟨rfl, rfl⟩
  refine not_at ?_
  refine kB_at ?_
  refine kIf_F rfl ?_
  refine kldN_at (m25.get hbr (fun h => h)) rfl (by omega) ?_
  refine kfld_of ?_
  refine kld_of (v := .string (L[j]).name) hb25 rfl ?_
  have hfi := refFind (cp := cp) (rc := rc) (hsr.same m25) hG.len (R := R) (ra := ra) (L[j]).name
  rw [scV] at hfi
  refine kcall_of hfi ?_
  rintro v w79 ⟨⟨k, b, rfl, hfk⟩, h79⟩
  refine kext_at rfl ?_
  refine kext_at rfl ?_
  have m79 := m25.trans h79
  have hb79 := h79.get hb25 (fun h => h)
  have wide : ∀ (at6 : Value) (J : Value → Value → World → Prop) (Q : PQ), (∀ w', Same wr w' → J x (.int .i64 ((j + 1 : Nat) : Int)) w') → f76_3 (.pointer (some ⟨w.heap.size, 0, none⟩)) x (.int .i64 j) (.pointer (some ⟨wr.heap.size, 0, none⟩)) at6 J Q w79 := by
   intro at6 J Q hQ
   have hw1 : nth (L[j]).cells.toArray.toList 1 = some (.int .i64 (d : Int)) := by rw [← hd]; rfl
   unfold f76_3
   refine kfld_of ?_
   refine kld_at hb79 hw1 ?_
   refine lss_at ?_
   refine kB_at ?_
   refine kIf_ndec (fun _ => ?_) (fun h => absurd h (by omega))
   refine kfld_of ?_
   refine kld_at hb79 hw1 ?_
   refine gtr_at ?_
   rw [decF (by omega)]
   unfold f76_4
   refine kB_at ?_
   refine kIf_F rfl ?_
   unfold f76_6
   refine kfld_of ?_
   refine kld_at hb79 hw1 ?_
   refine kL2_of (4 - d) (fun i x' y wr' => x' = .bool true ∧ y = .int .i64 ((d + i : Nat) : Int) ∧ wr' = w79) ⟨lI2_0 ⟨rfl, rfl, rfl⟩, fun x' y wr' hx => ?_⟩
   obtain ⟨i, hi, ⟨rfl, rfl, rfl⟩, hJ'⟩ := lI2_step hx
   unfold f76_7
   refine lss_at ?_
   refine kB_at ?_
   refine kIf_dec (fun hlt' => ?_) (fun hge' => ?_)
   ·have hc : nth (L[j]).cells.toArray.toList (0 + 3 + (d + i) * 1) = some (.int .i64 0) := by
     rw [Nat.zero_add, Nat.mul_one]
     exact cell_d d hd hd1 hcl (by omega) (by omega)
    unfold f76_8
    refine kB_at ?_
    refine kIf_T rfl ?_
    refine kfld_of ?_
    rw [kix_array]
    refine kG_of (by omega) ?_
    rw [add_mk]
    refine kld_at (o := 0 + 3 + (d + i) * 1) hb79 hc ?_
    refine eql_at ?_
    unfold f76_9
    refine add_at (by omega) (by omega) ?_
    rw [cast_succ]
    exact hJ' _ _ _ (by omega) ⟨rfl, rfl, rfl⟩
   ·unfold f76_10
    refine not_at ?_
    refine kB_at ?_
    refine kIf_F rfl ?_
    unfold f76_5
    refine add_at (by omega) (by omega) ?_
    rw [cast_succ]
    exact hQ _ m79
  have fin : ∀ w', Same wr w' → lI L.length (inv2 fun j x_1 y wr => x_1 = x ∧ y = .int .i64 j ∧ Same w4 wr) (x, .int .i64 ((j + 1 : Nat) : Int), w') ∧ lM L.length (inv2 fun j x_1 y wr => x_1 = x ∧ y = .int .i64 j ∧ Same w4 wr) (x, .int .i64 ((j + 1 : Nat) : Int), w') < lM L.length (inv2 fun j x_1 y wr => x_1 = x ∧ y = .int .i64 j ∧ Same w4 wr) (x, .int .i64 j, wr) :=
   fun w' m => hJ _ _ _ hlt ⟨rfl, rfl, mr.trans m⟩
  refine kB_at ?_
  refine kIf_of (fun hb => ?_) (fun hb => ?_)
  ·obtain ⟨i, hi, rfl, hni, hfst⟩ := hfk hb
   have hij : i = j := hG.apart i j hi hlt hni
   subst hij
   refine lss_at ?_
   rw [decF (by omega)]
   unfold f76_11
   refine kB_at ?_
   refine kIf_F rfl ?_
   exact wide _ _ _ fin
  ·unfold f76_11
   refine kB_at ?_
   refine kIf_F rfl ?_
   exact wide _ _ _ fin
 ·unfold f76_12
  refine kfld_of ?_
  refine kld_of (v := .slice ra R.length rc) hbr rfl ?_
  refine klen_at ?_
  refine gtr_at ?_
  refine kB_at ?_
  refine kIf_F (decF (by omega)) ?_
  unfold f76_13
  clear hJ hx
  refine kL2_of R.length (fun j x' y wr' => x' = x ∧ y = .int .i64 j ∧ Same wr wr') ⟨lI2_0 ⟨rfl, rfl, Mod.refl _ _⟩, fun x' y ws hx => ?_⟩
  obtain ⟨j, hj, ⟨rfl, rfl, ms⟩, hJ⟩ := lI2_step hx
  have hbs := ms.get hbr (fun h => h)
  have hss := hsr.same ms
  have hrs := hrr.same ms
  have mws := (m4.trans mr).trans ms
  unfold f76_14
  refine kfld_of ?_
  refine kld_of (v := .slice ra R.length rc) hbs rfl ?_
  refine klen_at ?_
  refine lss_at ?_
  refine kB_at ?_
  refine kIf_dec (fun hlt => ?_) (fun hge => ?_)
  ·have hlt : j < R.length := by omega
   have hnm := hGR.names _ (List.getElem_mem hlt)
   unfold f76_15
   refine kfld_of ?_
   refine kld_of (v := .slice ra R.length rc) hbs rfl ?_
   refine kixfld_of (F := ResM.cells) (sz := 2) (fun _ => rfl) (j := 0) hrs hlt rfl rfl ?_
   refine kcall_of (digits_spec (n := j) (by omega) ws) ?_
   rintro v w28 ⟨⟨s, rfl, hsz⟩, rfl⟩
   rw [kstr_add]
   refine kG_of (by show 10 + s.size ≤ _; omega) ?_
   rw [kstr_add]
   refine kG_of (by rw [ByteArray.size_append]; show 10 + s.size + 5 ≤ _; omega) ?_
   refine kldN_at hbs rfl (by omega) ?_
   have hfi := refFind (cp := cp) (rc := rc) hss hG.len (R := R) (ra := ra) (R[j]).name
   rw [scV] at hfi
   refine kcall_of hfi ?_
   rintro v w79 ⟨⟨k, b, rfl, hfk⟩, h79⟩
   refine kext_at rfl ?_
   refine kext_at rfl ?_
   refine kldN_at (h79.get hbs (fun h => h)) rfl (by omega) ?_
   have hfr := refRes (cp := cp) (rc := rc) (a := a) (L := L) (hrs.same h79) hR (R[j]).name
   rw [scV] at hfr
   refine kcall_of hfr ?_
   rintro v w83 ⟨⟨k2, b2, rfl, hfk2⟩, h83⟩
   refine kext_at rfl ?_
   refine kext_at rfl ?_
   refine kcall_of (refName_spec hnm w83) ?_
   rintro v w84 ⟨rfl, rfl⟩
   refine not_at ?_
   refine kB_at ?_
   refine kIf_F rfl ?_
   have hb : b = false := by
    cases hb : b with
    | false => rfl
    | true =>
     obtain ⟨i, hi, _, hni, _⟩ := hfk hb
     exact absurd hni (hGR.other _ (List.getElem_mem hlt) _ (List.getElem_mem hi))
   subst hb
   refine kB_at ?_
   refine kIf_T rfl ?_
   have fin : ∀ Q : PQ, ∀ J : Value → Value → World → Prop, J x' (.int .i64 ((j + 1 : Nat) : Int)) w84 → ∀ nm, f76_17 (.pointer (some ⟨w.heap.size, 0, none⟩)) x' (.int .i64 j) nm (.bool false) J Q w84 := by
    intro Q J h nm
    unfold f76_17
    refine kB_at ?_
    refine kIf_F rfl ?_
    unfold f76_16
    refine add_at (by omega) (by omega) ?_
    rw [cast_succ]
    exact h
   have hnx := hJ _ _ w84 hlt ⟨rfl, rfl, ms.trans (h79.trans h83)⟩
   refine kB_at ?_
   refine kIf_of (fun hb => ?_) (fun hb => ?_)
   ·obtain ⟨i, hi, rfl, hni⟩ := hfk2 hb
    have hij : i = j := hGR.apart i j hi hlt hni
    subst hij
    refine lss_at ?_
    rw [decF (by omega)]
    exact fin _ _ hnx _
   ·exact fin _ _ hnx _
  ·exact ⟨hpost, mws⟩
end
end
section
attribute [local irreducible] kO kB kStr kInt kN kG kIf kfld kld kldN kst knew kmap kbld kbldS kext kcnv klenStr klen kcap kprt kprtN kbool kint kstr keq kun ksl kix kiv kta kmk kmm ksem ksemU kextf kcallV kcallM kcall kL
theorem apPart2 : appT Tryz.prog 44 6 48 = true := by kernel_rfl
theorem slPart2_is : ∃ e, Tryz.prog.underlying 44 = some (.slice e) := slT_of (by kernel_rfl)
structure R14 where
 id : Int
 a : Option Addr
 n : Nat
 c : Nat
def R14.cells (r : R14) : List Value := [.int .i64 r.id, .slice r.a r.n r.c]
structure V14 (L : List Comp) (n bv : Nat) (U : Nat → Prop) (w : World) : Prop where
 ex : ∃ a cp rv la, ∃ ll : List R14, ∃ lc, ∃ mo fr nx sd : Int, ∃ gs, blk w bv = some (.cells #[.slice a L.length cp, rv, .int .i64 mo, .slice la ll.length lc, .int .i64 fr, .int .i64 nx, .int .i64 sd, gs, .slice none 0 0, .bool false] 81) ∧
  SlIs w a L.length 7 (L.flatMap Comp.cells) ∧ SlIs w la ll.length 2 (ll.flatMap R14.cells) ∧ ll.length ≤ n ∧ rv.cells = #[rv] ∧ (∀ k f, a = some ⟨k, f, none⟩ → U k ∧ k ≠ bv) ∧ ∀ k f, la = some ⟨k, f, none⟩ → U k ∧ k ≠ bv
 own : U bv
section
variable {L : List Comp} {n bv : Nat} {U : Nat → Prop} {w w' : World}
theorem V14.mod {fp : Nat → Prop} (h : V14 L n bv U w) (m : Mod fp w w') (hf : ∀ k, U k → ¬ fp k) : V14 L n bv U w' := by
 obtain ⟨⟨a, cp, rv, la, ll, lc, mo, fr, nx, sd, gs, h1, h2, h3, h4, h5, h6, h7⟩, h8⟩ := h
 exact ⟨⟨a, cp, rv, la, ll, lc, mo, fr, nx, sd, gs, m.get h1 (hf _ h8), h2.mod m (fun k f e => hf k (h6 k f e).1), h3.mod m (fun k f e => hf k (h7 k f e).1), h4, h5, h6, h7⟩, h8⟩
theorem V14.same (h : V14 L n bv U w) (m : Same w w') : V14 L n bv U w' := h.mod m fun _ _ h => h
theorem V14.weak {U' : Nat → Prop} {n' : Nat} (h : V14 L n bv U w) (hs : ∀ k, U k → U' k) (hn : n ≤ n') : V14 L n' bv U' w := by
 obtain ⟨⟨a, cp, rv, la, ll, lc, mo, fr, nx, sd, gs, h1, h2, h3, h4, h5, h6, h7⟩, h8⟩ := h
 exact ⟨⟨a, cp, rv, la, ll, lc, mo, fr, nx, sd, gs, h1, h2, h3, by omega, h5, fun k f e => ⟨hs k (h6 k f e).1, (h6 k f e).2⟩, fun k f e => ⟨hs k (h7 k f e).1, (h7 k f e).2⟩⟩, hs _ h8⟩
theorem r14Note (h : V14 L n bv U w) (u : Value) : Meets Tryz.prog 78 #[.pointer (some ⟨bv, 0, none⟩), u] w fun v w' => Same w w' := by
 obtain ⟨⟨a, cp, rv, la, ll, lc, mo, fr, nx, sd, gs, hb, _⟩, _⟩ := h
 refine f78_ok ?_
 unfold f78
 refine knew_of fun w2 h2 hs2 hb2 => ?_
 refine kN_at ?_
 refine kfld_of ?_
 refine kld_at (h2.get hb (fun h => h)) rfl ?_
 refine kB_at ?_
 refine kIf_F rfl ?_
 exact h2
theorem r14Tick (h : V14 L n bv U w) : Meets Tryz.prog 38 #[.pointer (some ⟨bv, 0, none⟩)] w fun v w' => V14 L n bv U w' ∧ Mod (fun k => k = bv) w w' := by
 refine f38_ok ?_
 unfold f38
 obtain ⟨a, cp, rv, la, ll, lc, mo, fr, nx, sd, gs, hb, _⟩ := id h.ex
 refine kN_at ?_
 refine kfld_of ?_
 refine kld_at hb rfl ?_
 refine geq_at ?_
 refine kB_at ?_
 refine kIf_dec (fun _ => ⟨h, Mod.refl _ _⟩) (fun _ => ?_)
 unfold f38_0
 refine kN_at ?_
 refine kfld_of ?_
 refine kld_at hb rfl ?_
 refine kbld_of (cs := [.int .i64 9, .int .i64 0, .int .i64 0, .int .i64 0, .int .i64 0, .int .i64 0, .int .i64 0, .int .i64 0, .slice none 0 0, .int .i64 0, .int .i64 fr]) rfl ?_
 refine kcall_of (r14Note h _) ?_
 rintro v w8 h8
 obtain ⟨⟨a, cp, rv, la, ll, lc, mo, fr, nx, sd, gs, h1, h2, h3, h4, h5, h6, h7⟩, hU⟩ := h.same h8
 refine kN_at ?_
 refine kfld_of ?_
 refine kld_at h1 rfl ?_
 rw [kint_add]
 refine kN_at ?_
 refine kfld_of ?_
 refine kst1_of h1 rfl rfl (by show 4 < 10; omega) fun w13 h13 hs13 hb13 => ?_
 exact ⟨⟨⟨a, cp, rv, la, ll, lc, mo, _, nx, sd, gs, hb13, h2.mod h13 (fun k f e => (h6 k f e).2), h3.mod h13 (fun k f e => (h7 k f e).2), h4, h5, h6, h7⟩, hU⟩, (Mod.of_same h8).trans h13⟩
theorem r09Fits {a : Option Addr} {cp : Nat} {rv : Value} (hrv : rv.cells = #[rv]) (hs : SlIs w a L.length 7 (L.flatMap Comp.cells)) (hG : GoodSc L) (q : Part) : Meets Tryz.prog 131 #[scV a L.length cp rv, .agg q.cells.toArray] w fun v w' => (∃ b, v = .bool b) ∧ Same w w' := by
 have hl := hG.len
 rw [scV]
 refine f131_ok ?_
 unfold f131
 refine knew_of fun w2 h2 hs2 hb2 => ?_
 have hb2 : blk w2 w.heap.size = some (.cells #[.slice a L.length cp, rv] 78) := hb2
 refine knew_of fun w4 h4 hs4 hb4 => ?_
 have hb2 := h4.get hb2 (fun h => h)
 have hb4 : blk w4 w2.heap.size = some (.cells q.cells.toArray 49) := hb4
 have hs' := hs.same (h2.trans h4)
 have m4 := h2.trans h4
 refine kfld_of ?_
 refine kld_at hb4 rfl ?_
 refine lss_at ?_
 refine kB_at ?_
 refine kIf_ndec (fun h0 => ?_) (fun h0 => ?_)
 ·refine kfld_of ?_
  refine kld_at hb4 rfl ?_
  refine kfld_of ?_
  refine kld_at hb2 rfl ?_
  refine klen_at ?_
  refine geq_at ?_
  by_cases h1 : (L.length : Int) ≤ q.comp
  ·rw [decT h1]
   unfold f131_0
   refine kB_at ?_
   refine kIf_T rfl ?_
   exact ⟨⟨_, rfl⟩, m4⟩
  ·rw [decF h1]
   obtain ⟨k, hk⟩ : ∃ k : Nat, q.comp = (k : Int) := ⟨q.comp.toNat, by omega⟩
   have hkl : k < L.length := by omega
   obtain ⟨d, hd, hd1, hd4⟩ := hG.wide _ (List.getElem_mem hkl)
   unfold f131_0
   refine kB_at ?_
   refine kIf_F rfl ?_
   unfold f131_1
   refine kfld_of ?_
   refine kld_at hb2 rfl ?_
   refine kfld_of ?_
   refine kld_of (v := .int .i64 k) hb4 (by rw [← hk]; rfl) ?_
   refine kixfld_of (F := Comp.cells) (sz := 7) (fun _ => rfl) (j := 1) hs' hkl rfl rfl ?_
   rw [hd]
   refine kL1_of (4 - d) (fun i x wr => x = .int .i64 ((d + i : Nat) : Int) ∧ wr = w4) ⟨lI1_0 ⟨rfl, rfl⟩, fun x wr hx => ?_⟩
   obtain ⟨i, hi, ⟨rfl, rfl⟩, hJ⟩ := lI1_step hx
   unfold f131_2
   refine lss_at ?_
   refine kB_at ?_
   refine kIf_dec (fun hlt => ?_) (fun hge => ?_)
   ·have hc : ∃ z : Int, nth q.cells.toArray.toList (0 + 1 + (d + i) * 1) = some (.int .i64 z) := by
     have h4 : d + i = 1 ∨ d + i = 2 ∨ d + i = 3 := by omega
     rcases h4 with h | h | h <;> rw [h] <;> exact ⟨_, rfl⟩
    obtain ⟨z, hc⟩ := hc
    unfold f131_3
    refine kfld_of ?_
    rw [kix_array]
    refine kG_of (by omega) ?_
    rw [add_mk]
    refine kld_at (o := 0 + 1 + (d + i) * 1) hb4 hc ?_
    refine neq_at ?_
    refine kB_at ?_
    refine kIf_dec (fun _ => ⟨⟨_, rfl⟩, m4⟩) (fun _ => ?_)
    unfold f131_4
    refine add_at (by omega) (by omega) ?_
    rw [cast_succ]
    exact hJ _ _ (by omega) ⟨rfl, rfl⟩
   ·exact ⟨⟨_, rfl⟩, m4⟩
 ·unfold f131_0
  refine kB_at ?_
  refine kIf_T rfl ?_
  exact ⟨⟨_, rfl⟩, m4⟩
theorem r09At {a : Option Addr} {P : List Part} {cp : Nat} (hs : SlIs w a P.length 6 (P.flatMap Part.cells)) (hn : P.length ≤ 100) (c : Int) : Meets Tryz.prog 132 #[.slice a P.length cp, .int .i64 c] w fun v w' => (∃ k : Int, v = .int .i64 k) ∧ Same w w' := by
 refine f132_ok ?_
 unfold f132
 refine kL1_of P.length (fun i x wr => x = .int .i64 i ∧ wr = w) ⟨lI1_0 ⟨rfl, rfl⟩, fun x wr hx => ?_⟩
 obtain ⟨i, hi, ⟨rfl, rfl⟩, hJ⟩ := lI1_step hx
 unfold f132_0
 refine klen_at ?_
 refine lss_at ?_
 refine kB_at ?_
 refine kIf_dec (fun hlt => ?_) (fun hge => ⟨⟨_, rfl⟩, Mod.refl _ _⟩)
 have hlt : i < P.length := by omega
 unfold f132_1
 refine kixfld_of (F := Part.cells) (sz := 6) (fun _ => rfl) (j := 0) hs hlt rfl rfl ?_
 refine eql_at ?_
 refine kB_at ?_
 refine kIf_dec (fun _ => ⟨⟨_, rfl⟩, Mod.refl _ _⟩) (fun _ => ?_)
 unfold f132_2
 refine add_at (by omega) (by omega) ?_
 rw [cast_succ]
 exact hJ _ _ hlt ⟨rfl, rfl⟩
def Mk6 (w : World) (n : Nat) (x : Value) (wr : World) : Prop := ∃ P : List Part, Own wr x 6 (P.flatMap Part.cells) ∧ P.length ≤ n ∧ (∀ k, vblk x k → w.heap.size ≤ k) ∧ Same w wr
theorem Mk6.same {w wr ws : World} {n : Nat} {x : Value} (h : Mk6 w n x wr) (m : Same wr ws) : Mk6 w n x ws := by
 obtain ⟨P, h1, h2, h3, h4⟩ := h
 exact ⟨P, h1.same m, h2, h3, h4.trans m⟩
theorem Mk6.more {w wr : World} {n n' : Nat} {x : Value} (h : Mk6 w n x wr) (hn : n ≤ n') : Mk6 w n' x wr := by
 obtain ⟨P, h1, h2, h3, h4⟩ := h
 exact ⟨P, h1, by omega, h3, h4⟩
theorem Mk6.app {w wr : World} {n : Nat} {x : Value} (h : Mk6 w n x wr) (hn : n ≤ 1000) (q : Part) {K : Value → World → Prop} (hK : ∀ y w', Mk6 w (n + 1) y w' → K y w') :
  kbldS [.int .i64 0, .int .i64 0, .int .i64 0, .int .i64 0, .int .i64 0, .int .i64 0] 1 [(0, 6, .agg q.cells.toArray)] 49 wr fun v w' => ksem Tryz.prog (Builtin.append_ #[44, 44] 0 #[x, v]) w' K := by
 obtain ⟨P, h1, h2, h3, h4⟩ := h
 refine kbldS_of (cs := q.cells) rfl fun w24 h24 hs24 hb24 => ?_
 have hfl := flat_len Part.cells 6 (fun _ => rfl) P
 refine ksem_append apPart2 (by omega) (h1.same h24) (Src.ofSlIs (hk := slPart2_is.choose_spec) 1 (SlIs.blk hb24 rfl) rfl) (by rw [hfl]; show P.length * 6 + 6 ≤ _; omega) (by rw [hfl]; show _; simp [Part.cells]; omega) ?_
 intro v' w4 ho4 hm4 hf4
 refine hK v' w4 ⟨P ++ [q], by simpa using ho4, by rw [List.length_append, List.length_singleton]; omega, fun k hk => ?_, (h4.trans h24).trans' (hm4.mono fun k _ e => .inr (h3 k e))⟩
 rcases hf4 k hk with h | h
 ·exact h3 k h
 ·exact Nat.le_trans (h4.trans h24).size h
end
end
section
def f33_2 (x0 x1 x2 : Value) (J3 : Value → World → Prop) (Q : PQ) (w : World) : Prop :=
 kint .i64 .add x2 (.int .i64 1) fun v26 =>
 J3 v26 w
def f33_1 (x0 x1 x2 : Value) (J3 : Value → World → Prop) (Q : PQ) (w : World) : Prop :=
 kfld 0 x1 fun v12 =>
 kld v12 w.drew fun v13 =>
 kG (w.drew = w.drew) <|
 kint .i64 .add x2 (.int .i64 1) fun v14 =>
 ksl (some .string) none (.string ⟨#[97, 98, 99, 100]⟩) (some x2) (some v14) fun v15 =>
 kint .i64 .add (.int .i64 1) x2 fun v16 =>
 kint .i64 .lss x2 (.int .i64 3) fun v17 =>
 kbld [.int .i64 0, .int .i64 0, .int .i64 0, .int .i64 0] [(0, 1, x2)] fun v18 =>
 kbld [(.string ⟨#[]⟩), .int .i64 0, .bool false, .int .i64 0, .int .i64 0, .int .i64 0, .int .i64 0] [(0, 1, v15), (1, 1, v16), (2, 1, v17), (3, 4, v18)] fun v19 =>
 kbldS [(.string ⟨#[]⟩), .int .i64 0, .bool false, .int .i64 0, .int .i64 0, .int .i64 0, .int .i64 0] 1 [(0, 7, v19)] 147 w.drew fun v20 w21 =>
 kG (kld v12 w21 fun v27 =>
 v27 = v13 ∧ w21 = w21) <|
 ksem Tryz.prog (Builtin.append_ #[75, 75] 0 #[v13, v20]) w21 fun v22 w23 =>
 kfld 0 x1 fun v24 =>
 kst 1 v24 v22 w23 fun w25 =>
 f33_2 x0 x1 x2 J3 Q w25
def f33_3 (x0 x1 : Value) (Q : PQ) (w : World) : Prop :=
 kldN 2 x1 w fun v28 =>
 kst 2 x0 v28 w fun w29 =>
 kldN 2 x0 w29 fun v30 =>
 Q v30 w29
def f33_0 (x2 x0 x1 : Value) (J3 : Value → World → Prop) (Q : PQ) (w : World) : Prop :=
 kint .i64 .lss x2 (.int .i64 4) fun v11 =>
 kB v11 fun b31 => kIf b31
 (f33_1 x0 x1 x2 J3 Q w)
 (f33_3 x0 x1 Q w)
def f33 (Q : PQ) (w : World) : Prop :=
 knew #[.slice none 0 0, .slice none 0 0] 78 w fun v1 w2 =>
 kbld [(.string ⟨#[]⟩), .int .i64 0] [(0, 1, (.string ⟨#[115]⟩)), (1, 1, (.int .i64 5))] fun v3 =>
 kbld [(.string ⟨#[]⟩), .int .i64 0] [(0, 1, (.string ⟨#[116]⟩))] fun v4 =>
 kbldS [(.string ⟨#[]⟩), .int .i64 0] 2 [(0, 2, v3), (2, 2, v4)] 150 w2 fun v5 w6 =>
 kbld [.slice none 0 0, .slice none 0 0] [(1, 1, v5)] fun v7 =>
 knew #[.slice none 0 0, .slice none 0 0] 78 w6 fun v8 w9 =>
 kst 2 v8 v7 w9 fun w10 =>
 kL fun (I : Value → World → Prop) (μ : Value → World → Nat) => I (.int .i64 0) w10 ∧ ∀ (x2 : Value) (w1 : World), I x2 w1 →
 f33_0 x2 v1 v8 (fun y2 w2 => I y2 w2 ∧ μ y2 w2 < μ x2 w1) Q w1
theorem f33_ok {Q : PQ} {w : World} (h : f33 Q w) : Meets Tryz.prog 33 #[] w Q :=
 sound' (c := Tryz.f33.body.get rfl) [(3, [2])] Tryz.func33 rfl rfl (args := []) rfl (by kernel_rfl) h
def f8_7 (x2 x7 x8 x10 x12 x13 x14 x15 x16 : Value) (J15 : Value → Value → World → Prop) (J11 : Value → World → Prop) (Q : PQ) (w : World) : Prop :=
 kint .i64 .add x16 (.int .i64 1) fun v74 =>
 J15 x15 v74 w
def f8_6 (x2 x7 x8 x10 x12 x13 x14 x15 x16 : Value) (J15 : Value → Value → World → Prop) (J11 : Value → World → Prop) (Q : PQ) (w : World) : Prop :=
 kfld 0 x2 fun v59 =>
 kld v59 w fun v60 =>
 kix (some (.slice 98)) (some 1) v60 x14 fun v61 =>
 kld v61 w fun v62 =>
 kint .u32 .shr v62 x16 fun v63 =>
 kint .u32 .rem v63 (.int .u32 2) fun v64 =>
 kint .u32 .eql v64 (.int .u32 1) fun v65 =>
 kB v65 fun b75 => kIf b75
 (kint .i64 .mul (.int .i64 10) x14 fun v66 =>
 kint .i64 .add v66 x16 fun v67 =>
 kbld [.int .i64 0, .int .i64 0, .int .i64 0, .int .i64 0] [(0, 1, v67)] fun v68 =>
 kbld [.int .i64 0, .int .i64 0, .int .i64 0, .int .i64 0, .int .i64 0, .int .i64 0] [(0, 1, x16), (1, 4, v68)] fun v69 =>
 kbldS [.int .i64 0, .int .i64 0, .int .i64 0, .int .i64 0, .int .i64 0, .int .i64 0] 1 [(0, 6, v69)] 49 w fun v70 w71 =>
 ksem Tryz.prog (Builtin.append_ #[44, 44] 0 #[x15, v70]) w71 fun v72 w73 =>
 f8_7 x2 x7 x8 x10 x12 x13 x14 v72 x16 J15 J11 Q w73)
 (f8_7 x2 x7 x8 x10 x12 x13 x14 x15 x16 J15 J11 Q w)
def f8_9 (x2 x7 x8 x10 x12 x13 x14 : Value) (J11 : Value → World → Prop) (Q : PQ) (w : World) : Prop :=
 kint .i64 .add x14 (.int .i64 1) fun v80 =>
 J11 v80 w
def f8_8 (x2 x7 x8 x10 x12 x13 x14 x15 : Value) (J11 : Value → World → Prop) (Q : PQ) (w : World) : Prop :=
 kcall Tryz.prog 39 #[x8, x15] w fun v76 w77 =>
 kcall Tryz.prog 40 #[x12, x15] w77 fun v78 w79 =>
 f8_9 x2 x7 x8 x10 x12 x13 x14 J11 Q w79
def f8_5 (x15 x16 x2 x7 x8 x10 x12 x13 x14 : Value) (J15 : Value → Value → World → Prop) (J11 : Value → World → Prop) (Q : PQ) (w : World) : Prop :=
 kint .i64 .lss x16 (.int .i64 4) fun v58 =>
 kB v58 fun b81 => kIf b81
 (f8_6 x2 x7 x8 x10 x12 x13 x14 x15 x16 J15 J11 Q w)
 (f8_8 x2 x7 x8 x10 x12 x13 x14 x15 J11 Q w)
def f8_4 (x2 x7 x8 x10 x12 x13 x14 : Value) (J11 : Value → World → Prop) (Q : PQ) (w : World) : Prop :=
 kbldS [.int .i64 0, .int .i64 0, .int .i64 0, .int .i64 0, .int .i64 0, .int .i64 0] 0 [] 49 w fun v56 w57 =>
 kL fun (I : Value → Value → World → Prop) (μ : Value → Value → World → Nat) => I v56 (.int .i64 0) w57 ∧ ∀ (x15 x16 : Value) (w1 : World), I x15 x16 w1 →
 f8_5 x15 x16 x2 x7 x8 x10 x12 x13 x14 (fun y15 y16 w2 => I y15 y16 w2 ∧ μ y15 y16 w2 < μ x15 x16 w1) J11 Q w1
def f8_12 (x7 x12 x13 : Value) (Q : PQ) (w : World) : Prop :=
 Q (.tuple #[x7, x12, x13]) w
def f8_11 (x2 x7 x10 x12 x13 : Value) (Q : PQ) (w : World) : Prop :=
 kfld 6 x2 fun v86 =>
 kld v86 w fun v87 =>
 kB v87 fun b90 => kIf b90
 (kN x7 <|
 kfld 1 x7 fun v88 =>
 kst 1 v88 x10 w fun w89 =>
 f8_12 x7 x12 x13 Q w89)
 (f8_12 x7 x12 (.pointer none) Q w)
def f8_10 (x2 x7 x8 x10 x12 x13 : Value) (Q : PQ) (w : World) : Prop :=
 kfld 5 x2 fun v82 =>
 kld v82 w fun v83 =>
 kB v83 fun b91 => kIf b91
 (kN x7 <|
 kfld 0 x7 fun v84 =>
 kst 1 v84 x8 w fun w85 =>
 f8_11 x2 x7 x10 x12 x13 Q w85)
 (f8_11 x2 x7 x10 (.pointer none) x13 Q w)
def f8_3 (x2 x7 x8 x10 x12 x13 x14 x69 : Value) (J11 : Value → World → Prop) (Q : PQ) (w : World) : Prop :=
 kB x69 fun b92 => kIf b92
 (f8_4 x2 x7 x8 x10 x12 x13 x14 J11 Q w)
 (f8_10 x2 x7 x8 x10 x12 x13 Q w)
def f8_2 (x14 x2 x7 x8 x10 x12 x13 : Value) (J11 : Value → World → Prop) (Q : PQ) (w : World) : Prop :=
 kfld 0 x2 fun v49 =>
 kld v49 w fun v50 =>
 klen v50 fun v51 =>
 kint .i64 .lss x14 v51 fun v53 =>
 kB v53 fun b54 => kIf b54
 (kint .i64 .lss x14 (.int .i64 20) fun v55 =>
 f8_3 x2 x7 x8 x10 x12 x13 x14 v55 J11 Q w)
 (f8_3 x2 x7 x8 x10 x12 x13 x14 (.bool false) J11 Q w)
def f8_1 (x1 x2 x7 x8 x10 : Value) (Q : PQ) (w : World) : Prop :=
 kcall Tryz.prog 33 #[] w.drew fun v35 w36 =>
 kfld 4 x2 fun v37 =>
 kld v37 w36 fun v38 =>
 kG (w36 = w36) <|
 kG (kld v37 w.drew fun v93 =>
 v93 = v38 ∧ w.drew = w.drew) <|
 kcall Tryz.prog 35 #[v35, .int .i64 20, v38] w36 fun v39 w40 =>
 kcall Tryz.prog 33 #[] w40 fun v41 w42 =>
 kcall Tryz.prog 36 #[v41, x1] w42 fun v43 w44 =>
 kcall Tryz.prog 37 #[x8] w44 fun v45 w46 =>
 kcall Tryz.prog 38 #[v39] w46 fun v47 w48 =>
 kL fun (I : Value → World → Prop) (μ : Value → World → Nat) => I (.int .i64 0) w48 ∧ ∀ (x14 : Value) (w1 : World), I x14 w1 →
 f8_2 x14 x2 x7 x8 x10 v39 v43 (fun y14 w2 => I y14 w2 ∧ μ y14 w2 < μ x14 w1) Q w1
def f8_0 (x1 x2 x7 x8 x10 x49 : Value) (Q : PQ) (w : World) : Prop :=
 kB x49 fun b94 => kIf b94
 (Q (.tuple #[.pointer none, .pointer none, .pointer none]) w)
 (f8_1 x1 x2 x7 x8 x10 Q w)
def f8 (x0 x1 : Value) (Q : PQ) (w : World) : Prop :=
 knew (Value.cells x0) 26 w fun v1 w2 =>
 kfld 1 v1 fun v3 =>
 kldN 2 v3 w2 fun v4 =>
 kfld 3 v1 fun v5 =>
 kld v5 w2 fun v6 =>
 kbld [.pointer none, .pointer none, .int .i64 0, .int .i64 0, .int .i64 0] [(2, 2, v4), (4, 1, v6)] fun v7 =>
 knew (Value.cells v7) 38 w2 fun v8 w9 =>
 kcall Tryz.prog 33 #[] w9.drew fun v10 w11 =>
 kfld 4 v1 fun v12 =>
 kld v12 w11 fun v13 =>
 kG (w11 = w11) <|
 kG (kld v12 w9.drew fun v95 =>
 v95 = v13 ∧ w9.drew = w9.drew) <|
 kcall Tryz.prog 32 #[v10, .int .i64 20, v13] w11 fun v14 w15 =>
 kext v14 0 fun v16 =>
 kext v14 1 fun v17 =>
 kcall Tryz.prog 33 #[] w15 fun v18 w19 =>
 kcall Tryz.prog 34 #[v18, x1] w19 fun v20 w21 =>
 kext v20 0 fun v22 =>
 kext v20 1 fun v23 =>
 keq Tryz.prog .eql 35 false true v16 (.pointer none) w21 fun v24 w25 =>
 kB v24 fun b26 => kIf (!b26)
 (keq Tryz.prog .eql 36 false true v22 (.pointer none) w25 fun v27 w28 =>
 kB v27 fun b29 => kIf (!b29)
 (keq Tryz.prog .neq 41 false true v17 .nilIface w28 fun v30 w31 =>
 kB v30 fun b32 => kIf (!b32)
 (keq Tryz.prog .neq 41 false true v23 .nilIface w31 fun v33 w34 =>
 f8_0 x1 v1 v8 v16 v22 v33 Q w34)
 (f8_0 x1 v1 v8 v16 v22 (.bool true) Q w31))
 (f8_0 x1 v1 v8 v16 v22 (.bool true) Q w28))
 (f8_0 x1 v1 v8 v16 v22 (.bool true) Q w25)
theorem f8_ok {x0 x1 : Value} {Q : PQ} {w : World} (h : f8 x0 x1 Q w) : Meets Tryz.prog 8 #[x0, x1] w Q :=
 sound' (c := Tryz.f8.body.get rfl) [(11, [14]), (15, [15, 16])] Tryz.func8 rfl rfl (args := [x0, x1]) rfl (by kernel_rfl) h
def f3_10 (x8 x9 x10 x11 : Value) (J21 : Value → World → Prop) (J16 : Value → World → Prop) (Q : PQ) (w : World) : Prop :=
 kint .i64 .add x11 (.int .i64 1) fun v77 =>
 J21 v77 w
def f3_9 (x8 x9 x10 x11 : Value) (J21 : Value → World → Prop) (J16 : Value → World → Prop) (Q : PQ) (w : World) : Prop :=
 kix (some (.slice 46)) (some 2) x8 x10 fun v65 =>
 kfld 1 v65 fun v66 =>
 kld v66 w.drew fun v67 =>
 kG (w.drew = w.drew) <|
 kix (some (.slice 49)) (some 6) v67 x11 fun v68 =>
 kldN 6 v68 w.drew fun v69 =>
 kG (w.drew = w.drew) <|
 kix (some (.slice 46)) (some 2) x9 x10 fun v70 =>
 kfld 1 v70 fun v71 =>
 kld v71 w.drew fun v72 =>
 kG (w.drew = w.drew) <|
 kix (some (.slice 49)) (some 6) v72 x11 fun v73 =>
 kldN 6 v73 w.drew fun v74 =>
 kG (w.drew = w.drew) <|
 keq Tryz.prog .neq 49 false false v69 v74 w.drew fun v75 w76 =>
 kG (w76 = w.drew) <|
 kB v75 fun b78 => kIf b78
 (Q (.bool false) w76)
 (f3_10 x8 x9 x10 x11 J21 J16 Q w76)
def f3_11 (x8 x9 x10 : Value) (J16 : Value → World → Prop) (Q : PQ) (w : World) : Prop :=
 kint .i64 .add x10 (.int .i64 1) fun v79 =>
 J16 v79 w
def f3_8 (x11 x8 x9 x10 : Value) (J21 : Value → World → Prop) (J16 : Value → World → Prop) (Q : PQ) (w : World) : Prop :=
 kix (some (.slice 46)) (some 2) x8 x10 fun v59 =>
 kfld 1 v59 fun v60 =>
 kld v60 w fun v61 =>
 klen v61 fun v62 =>
 kint .i64 .lss x11 v62 fun v64 =>
 kB v64 fun b80 => kIf b80
 (f3_9 x8 x9 x10 x11 J21 J16 Q w)
 (f3_11 x8 x9 x10 J16 Q w)
def f3_7 (x8 x9 x10 : Value) (J16 : Value → World → Prop) (Q : PQ) (w : World) : Prop :=
 kL fun (I : Value → World → Prop) (μ : Value → World → Nat) => I (.int .i64 0) w ∧ ∀ (x11 : Value) (w1 : World), I x11 w1 →
 f3_8 x11 x8 x9 x10 (fun y11 w2 => I y11 w2 ∧ μ y11 w2 < μ x11 w1) J16 Q w1
def f3_6 (x8 x9 x10 x81 : Value) (J16 : Value → World → Prop) (Q : PQ) (w : World) : Prop :=
 kB x81 fun b81 => kIf b81
 (Q (.bool false) w)
 (f3_7 x8 x9 x10 J16 Q w)
def f3_5 (x8 x9 x10 : Value) (J16 : Value → World → Prop) (Q : PQ) (w : World) : Prop :=
 kix (some (.slice 46)) (some 2) x8 x10 fun v40 =>
 kfld 0 v40 fun v41 =>
 kld v41 w.drew fun v42 =>
 kG (w.drew = w.drew) <|
 kix (some (.slice 46)) (some 2) x9 x10 fun v43 =>
 kfld 0 v43 fun v44 =>
 kld v44 w.drew fun v45 =>
 kG (w.drew = w.drew) <|
 kint .i64 .neq v42 v45 fun v46 =>
 kB v46 fun b47 => kIf (!b47)
 (kix (some (.slice 46)) (some 2) x8 x10 fun v48 =>
 kfld 1 v48 fun v49 =>
 kld v49 w.drew fun v50 =>
 kG (w.drew = w.drew) <|
 klen v50 fun v51 =>
 kix (some (.slice 46)) (some 2) x9 x10 fun v53 =>
 kfld 1 v53 fun v54 =>
 kld v54 w.drew fun v55 =>
 kG (w.drew = w.drew) <|
 klen v55 fun v56 =>
 kint .i64 .neq v51 v56 fun v58 =>
 f3_6 x8 x9 x10 v58 J16 Q w.drew)
 (f3_6 x8 x9 x10 (.bool true) J16 Q w.drew)
def f3_12 (Q : PQ) (w : World) : Prop :=
 kcall Tryz.prog 11 #[.pointer none] w fun v82 w83 =>
 kext v82 0 fun v84 =>
 kext v82 1 fun v85 =>
 kld (.pointer (some ⟨0, 0, none⟩)) w83 fun v86 =>
 kcall Tryz.prog 12 #[v85, v86] w83 fun v87 w88 =>
 kB v87 fun b89 => kIf b89
 (kcall Tryz.prog 13 #[.pointer none] w88 fun v90 w91 =>
 kB v90 fun b92 => kIf b92
 (kcall Tryz.prog 14 #[.pointer none] w91 fun v93 w94 =>
 kcall Tryz.prog 15 #[.pointer none] w94 fun v95 w96 =>
 kint .i64 .add v93 v95 fun v97 =>
 kcall Tryz.prog 16 #[.pointer none] w96 fun v98 w99 =>
 klen v98 fun v100 =>
 kint .i64 .add v97 v100 fun v102 =>
 kint .i64 .eql v102 (.int .i64 0) fun v103 =>
 Q v103 w99)
 (Q (.bool false) w91))
 (Q (.bool false) w88)
def f3_4 (x10 x8 x9 : Value) (J16 : Value → World → Prop) (Q : PQ) (w : World) : Prop :=
 klen x8 fun v37 =>
 kint .i64 .lss x10 v37 fun v39 =>
 kB v39 fun b104 => kIf b104
 (f3_5 x8 x9 x10 J16 Q w)
 (f3_12 Q w)
def f3_3 (x8 x9 : Value) (Q : PQ) (w : World) : Prop :=
 kL fun (I : Value → World → Prop) (μ : Value → World → Nat) => I (.int .i64 0) w ∧ ∀ (x10 : Value) (w1 : World), I x10 w1 →
 f3_4 x10 x8 x9 (fun y10 w2 => I y10 w2 ∧ μ y10 w2 < μ x10 w1) Q w1
def f3_2 (x1 x5 : Value) (Q : PQ) (w : World) : Prop :=
 kN x5 <|
 kfld 0 x5 fun v21 =>
 kld v21 w fun v22 =>
 kcall Tryz.prog 9 #[v22] w fun v23 w24 =>
 kN x5 <|
 kldN 5 x5 w24 fun v25 =>
 kcall Tryz.prog 10 #[v25, x1, .int .i64 200] w24 fun v26 w27 =>
 kN x5 <|
 kfld 0 x5 fun v28 =>
 kld v28 w27 fun v29 =>
 kcall Tryz.prog 9 #[v29] w27 fun v30 w31 =>
 klen v23 fun v32 =>
 klen v30 fun v34 =>
 kint .i64 .neq v32 v34 fun v36 =>
 kB v36 fun b105 => kIf b105
 (Q (.bool false) w31)
 (f3_3 v23 v30 Q w31)
def f3_1 (x1 x2 : Value) (Q : PQ) (w : World) : Prop :=
 kfld 3 x2 fun v9 =>
 kst 1 v9 (.int .i64 999) w fun w10 =>
 kfld 5 x2 fun v11 =>
 kst 1 v11 (.bool true) w10 fun w12 =>
 kldN 7 x2 w12 fun v13 =>
 kcall Tryz.prog 8 #[v13, .int .i64 6] w12 fun v14 w15 =>
 kext v14 0 fun v16 =>
 kext v14 1 fun v17 =>
 kext v14 2 fun v18 =>
 keq Tryz.prog .eql 29 false true v16 (.pointer none) w15 fun v19 w20 =>
 kB v19 fun b106 => kIf b106
 (Q (.bool false) w20)
 (f3_2 x1 v16 Q w20)
def f3_0 (x1 x2 : Value) (Q : PQ) (w : World) : Prop :=
 klen x1 fun v6 =>
 kint .i64 .gtr v6 (.int .i64 80) fun v8 =>
 kB v8 fun b107 => kIf b107
 (Q (.bool true) w)
 (f3_1 x1 x2 Q w)
def f3 (x0 x1 : Value) (Q : PQ) (w : World) : Prop :=
 knew (Value.cells x0) 26 w fun v1 w2 =>
 kcall Tryz.prog 7 #[] w2 fun v3 w4 =>
 kun .not (some .bool) v3 fun v5 =>
 kB v5 fun b108 => kIf b108
 (Q (.bool false) w4)
 (f3_0 x1 v1 Q w4)
def f4_6 (x3 x7 x10 x13 x14 x15 : Value) (J13 : Value → Value → World → Prop) (Q : PQ) (w : World) : Prop :=
 kcall Tryz.prog 11 #[x15] w fun v37 w38 =>
 kext v37 0 fun v39 =>
 kext v37 1 fun v40 =>
 J13 v40 v39 w38
def f4_9 (x3 x7 x10 : Value) (Q : PQ) (w : World) : Prop :=
 kfld 5 x3 fun v50 =>
 kld v50 w.drew fun v51 =>
 kG (w.drew = w.drew) <|
 kun .not (some .bool) v51 fun v52 =>
 kB v52 fun b53 => kIf (!b53)
 (kN x7 <|
 kfld 0 x7 fun v54 =>
 kld v54 w.drew fun v55 =>
 kG (w.drew = w.drew) <|
 kcall Tryz.prog 19 #[v55] w.drew fun v56 w57 =>
 kN x10 <|
 kfld 0 x10 fun v58 =>
 kld v58 w57 fun v59 =>
 kG (w57 = w57) <|
 kG (kld v58 w.drew fun v64 =>
 v64 = v59 ∧ w.drew = w.drew) <|
 kcall Tryz.prog 19 #[v59] w57 fun v60 w61 =>
 kcall Tryz.prog 18 #[v56, v60] w61 fun v62 w63 =>
 Q v62 w63)
 (Q (.bool true) w.drew)
def f4_8 (x3 x7 x10 x76 : Value) (Q : PQ) (w : World) : Prop :=
 kB x76 fun b65 => kIf b65
 (Q (.bool false) w)
 (f4_9 x3 x7 x10 Q w)
def f4_7 (x3 x7 x10 x13 x14 x15 x16 : Value) (Q : PQ) (w : World) : Prop :=
 kcall Tryz.prog 15 #[x15] w.drew fun v41 w42 =>
 kint .i64 .neq x13 v41 fun v43 =>
 kB v43 fun b44 => kIf (!b44)
 (keq Tryz.prog .eql 41 false true x14 .nilIface w42 fun v45 w46 =>
 kG (w46 = w42) <|
 keq Tryz.prog .eql 41 false true x16 .nilIface w46 fun v47 w48 =>
 kG (w48 = w46) <|
 kbool .neq v45 v47 fun v49 =>
 f4_8 x3 x7 x10 v49 Q w48)
 (f4_8 x3 x7 x10 (.bool true) Q w42)
def f4_5 (x3 x7 x10 x13 x14 x15 x16 x60 : Value) (J13 : Value → Value → World → Prop) (Q : PQ) (w : World) : Prop :=
 kB x60 fun b66 => kIf b66
 (f4_6 x3 x7 x10 x13 x14 x15 J13 Q w)
 (f4_7 x3 x7 x10 x13 x14 x15 x16 Q w)
def f4_4 (x16 x17 x3 x7 x10 x13 x14 x15 : Value) (J13 : Value → Value → World → Prop) (Q : PQ) (w : World) : Prop :=
 kB x17 fun b34 => kIf b34
 (keq Tryz.prog .eql 41 false true x16 .nilIface w fun v35 w36 =>
 f4_5 x3 x7 x10 x13 x14 x15 x16 v35 J13 Q w36)
 (f4_5 x3 x7 x10 x13 x14 x15 x16 (.bool false) J13 Q w)
def f4_3 (x1 x2 x3 x7 x10 : Value) (Q : PQ) (w : World) : Prop :=
 kN x7 <|
 kldN 5 x7 w fun v26 =>
 kcall Tryz.prog 10 #[v26, x1, x2] w fun v27 w28 =>
 kext v27 0 fun v29 =>
 kext v27 1 fun v30 =>
 kN x10 <|
 kldN 5 x10 w28 fun v31 =>
 kcall Tryz.prog 17 #[v31, x1, x2] w28 fun v32 w33 =>
 kL fun (I : Value → Value → World → Prop) (μ : Value → Value → World → Nat) => I .nilIface (.bool true) w33 ∧ ∀ (x16 x17 : Value) (w1 : World), I x16 x17 w1 →
 f4_4 x16 x17 x3 x7 x10 v29 v30 v32 (fun y16 y17 w2 => I y16 y17 w2 ∧ μ y16 y17 w2 < μ x16 x17 w1) Q w1
def f4_2 (x1 x2 x3 x7 x10 x40 : Value) (Q : PQ) (w : World) : Prop :=
 kB x40 fun b67 => kIf b67
 (Q (.bool false) w)
 (f4_3 x1 x2 x3 x7 x10 Q w)
def f4_1 (x1 x2 x3 : Value) (Q : PQ) (w : World) : Prop :=
 kldN 7 x3 w fun v9 =>
 kcall Tryz.prog 8 #[v9, .int .i64 6] w fun v10 w11 =>
 kext v10 0 fun v12 =>
 kext v10 1 fun v13 =>
 kext v10 2 fun v14 =>
 kldN 7 x3 w11 fun v15 =>
 kcall Tryz.prog 8 #[v15, .int .i64 6] w11 fun v16 w17 =>
 kext v16 0 fun v18 =>
 kext v16 1 fun v19 =>
 kext v16 2 fun v20 =>
 keq Tryz.prog .eql 29 false true v12 (.pointer none) w17 fun v21 w22 =>
 kB v21 fun b23 => kIf (!b23)
 (keq Tryz.prog .eql 29 false true v18 (.pointer none) w22 fun v24 w25 =>
 f4_2 x1 x2 x3 v12 v18 v24 Q w25)
 (f4_2 x1 x2 x3 v12 v18 (.bool true) Q w22)
def f4_0 (x1 x2 x3 : Value) (Q : PQ) (w : World) : Prop :=
 klen x1 fun v6 =>
 kint .i64 .gtr v6 (.int .i64 80) fun v8 =>
 kB v8 fun b68 => kIf b68
 (Q (.bool true) w)
 (f4_1 x1 x2 x3 Q w)
def f4 (x0 x1 x2 : Value) (Q : PQ) (w : World) : Prop :=
 knew (Value.cells x0) 26 w fun v1 w2 =>
 kcall Tryz.prog 7 #[] w2 fun v3 w4 =>
 kun .not (some .bool) v3 fun v5 =>
 kB v5 fun b69 => kIf b69
 (Q (.bool false) w4)
 (f4_0 x1 x2 v1 Q w4)
theorem f4_ok {x0 x1 x2 : Value} {Q : PQ} {w : World} (h : f4 x0 x1 x2 Q w) : Meets Tryz.prog 4 #[x0, x1, x2] w Q :=
 sound' (c := Tryz.f4.body.get rfl) [(13, [16, 17])] Tryz.func4 rfl rfl (args := [x0, x1, x2]) rfl (by kernel_rfl) h
def f6_11 (x7 x9 : Value) (Q : PQ) (w : World) : Prop :=
 keq Tryz.prog .eql 31 false true x9 (.pointer none) w.drew fun v88 w89 =>
 kG (w89 = w.drew) <|
 kB v88 fun b90 => kIf (!b90)
 (kN x7 <|
 kfld 1 x7 fun v91 =>
 kld v91 w89 fun v92 =>
 kG (w89 = w89) <|
 kcall Tryz.prog 30 #[v92] w89 fun v93 w94 =>
 kN x9 <|
 kfld 3 x9 fun v95 =>
 kld v95 w94 fun v96 =>
 kG (w94 = w94) <|
 kG (kld v95 w89 fun v108 =>
 v108 = v96 ∧ w89 = w89) <|
 kcall Tryz.prog 29 #[v93, v96] w94 fun v97 w98 =>
 kB v97 fun b99 => kIf b99
 (kN x7 <|
 kfld 1 x7 fun v100 =>
 kld v100 w98 fun v101 =>
 kG (w98 = w98) <|
 kcall Tryz.prog 31 #[v101] w98 fun v102 w103 =>
 kN x9 <|
 kfld 5 x9 fun v104 =>
 kld v104 w103 fun v105 =>
 kG (w103 = w103) <|
 kG (kld v104 w98 fun v107 =>
 v107 = v105 ∧ w98 = w98) <|
 kint .i64 .eql v102 v105 fun v106 =>
 Q v106 w103)
 (Q (.bool false) w98))
 (Q (.bool true) w89)
def f6_10 (x7 x9 x128 : Value) (Q : PQ) (w : World) : Prop :=
 kB x128 fun b109 => kIf b109
 (Q (.bool false) w)
 (f6_11 x7 x9 Q w)
def f6_9 (x7 x8 x9 : Value) (Q : PQ) (w : World) : Prop :=
 keq Tryz.prog .neq 30 false true x8 (.pointer none) w.drew fun v66 w67 =>
 kG (w67 = w.drew) <|
 kB v66 fun b68 => kIf b68
 (kN x7 <|
 kfld 0 x7 fun v69 =>
 kld v69 w67 fun v70 =>
 kG (w67 = w67) <|
 kcall Tryz.prog 19 #[v70] w67 fun v71 w72 =>
 kcall Tryz.prog 24 #[x8] w72 fun v73 w74 =>
 kcall Tryz.prog 23 #[v71, v73] w74 fun v75 w76 =>
 kun .not (some .bool) v75 fun v77 =>
 kB v77 fun b78 => kIf (!b78)
 (kN x7 <|
 kfld 0 x7 fun v79 =>
 kld v79 w76 fun v80 =>
 kG (w76 = w76) <|
 kcall Tryz.prog 9 #[v80] w76 fun v81 w82 =>
 kN x8 <|
 kfld 3 x8 fun v83 =>
 kld v83 w82 fun v84 =>
 kG (w82 = w82) <|
 kG (kld v83 w76 fun v110 =>
 v110 = v84 ∧ w76 = w76) <|
 kcall Tryz.prog 28 #[v81, v84] w82 fun v85 w86 =>
 kun .not (some .bool) v85 fun v87 =>
 f6_10 x7 x9 v87 Q w86)
 (f6_10 x7 x9 (.bool true) Q w76))
 (f6_10 x7 x9 (.bool false) Q w67)
def f6_12 (x7 x8 x9 x10 x11 x12 : Value) (J11 : Value → World → Prop) (Q : PQ) (w : World) : Prop :=
 kint .i64 .add x12 (.int .i64 1) fun v111 =>
 J11 v111 w
def f6_8 (x7 x8 x9 x10 x11 x12 x13 : Value) (J11 : Value → World → Prop) (Q : PQ) (w : World) : Prop :=
 kun .not (some .bool) x13 fun v65 =>
 kB v65 fun b112 => kIf b112
 (f6_9 x7 x8 x9 Q w)
 (f6_12 x7 x8 x9 x10 x11 x12 J11 Q w)
def f6_7 (x7 x8 x9 x10 x11 x12 x13 x100 : Value) (J11 : Value → World → Prop) (Q : PQ) (w : World) : Prop :=
 kB x100 fun b113 => kIf b113
 (Q (.bool false) w)
 (f6_8 x7 x8 x9 x10 x11 x12 x13 J11 Q w)
def f6_6 (x7 x8 x9 x10 x11 x12 : Value) (J11 : Value → World → Prop) (Q : PQ) (w : World) : Prop :=
 kcall Tryz.prog 11 #[x10] w fun v52 w53 =>
 kext v52 0 fun v54 =>
 kext v52 1 fun v55 =>
 kcall Tryz.prog 27 #[x11] w53 fun v56 w57 =>
 kext v56 0 fun v58 =>
 kext v56 1 fun v59 =>
 kbool .neq v54 v58 fun v60 =>
 kB v60 fun b61 => kIf (!b61)
 (kcall Tryz.prog 22 #[v55] w57 fun v62 w63 =>
 kint .i64 .neq v62 v59 fun v64 =>
 f6_7 x7 x8 x9 x10 x11 x12 v54 v64 J11 Q w63)
 (f6_7 x7 x8 x9 x10 x11 x12 v54 (.bool true) J11 Q w57)
def f6_5 (x7 x8 x9 x10 x11 x12 x81 : Value) (J11 : Value → World → Prop) (Q : PQ) (w : World) : Prop :=
 kB x81 fun b114 => kIf b114
 (Q (.bool false) w)
 (f6_6 x7 x8 x9 x10 x11 x12 J11 Q w)
def f6_4 (x7 x8 x9 x10 x11 x12 : Value) (J11 : Value → World → Prop) (Q : PQ) (w : World) : Prop :=
 kcall Tryz.prog 13 #[x10] w.drew fun v27 w28 =>
 kcall Tryz.prog 25 #[x11] w28 fun v29 w30 =>
 kbool .neq v27 v29 fun v31 =>
 kB v31 fun b32 => kIf (!b32)
 (kcall Tryz.prog 14 #[x10] w30 fun v33 w34 =>
 kN x11 <|
 kfld 6 x11 fun v35 =>
 kld v35 w34 fun v36 =>
 kG (w34 = w34) <|
 kG (kld v35 w30 fun v117 =>
 v117 = v36 ∧ w30 = w30) <|
 kint .i64 .neq v33 v36 fun v37 =>
 kB v37 fun b38 => kIf (!b38)
 (kcall Tryz.prog 15 #[x10] w34 fun v39 w40 =>
 kN x11 <|
 kfld 8 x11 fun v41 =>
 kld v41 w40 fun v42 =>
 kG (w40 = w40) <|
 kG (kld v41 w34 fun v116 =>
 v116 = v42 ∧ w34 = w34) <|
 kint .i64 .neq v39 v42 fun v43 =>
 kB v43 fun b44 => kIf (!b44)
 (kcall Tryz.prog 16 #[x10] w40 fun v45 w46 =>
 kN x11 <|
 kfld 7 x11 fun v47 =>
 kld v47 w46 fun v48 =>
 kG (w46 = w46) <|
 kG (kld v47 w40 fun v115 =>
 v115 = v48 ∧ w40 = w40) <|
 kcall Tryz.prog 26 #[v45, v48] w46 fun v49 w50 =>
 kun .not (some .bool) v49 fun v51 =>
 f6_5 x7 x8 x9 x10 x11 x12 v51 J11 Q w50)
 (f6_5 x7 x8 x9 x10 x11 x12 (.bool true) J11 Q w40))
 (f6_5 x7 x8 x9 x10 x11 x12 (.bool true) J11 Q w34))
 (f6_5 x7 x8 x9 x10 x11 x12 (.bool true) J11 Q w30)
def f6_3 (x12 x7 x8 x9 x10 x11 : Value) (J11 : Value → World → Prop) (Q : PQ) (w : World) : Prop :=
 kint .i64 .lss x12 (.int .i64 600) fun v26 =>
 kB v26 fun b118 => kIf b118
 (f6_4 x7 x8 x9 x10 x11 x12 J11 Q w)
 (f6_9 x7 x8 x9 Q w)
def f6_2 (x1 x2 x3 x7 x8 x9 : Value) (Q : PQ) (w : World) : Prop :=
 kN x7 <|
 kldN 5 x7 w fun v17 =>
 kcall Tryz.prog 17 #[v17, x1, x2] w fun v18 w19 =>
 kfld 1 x3 fun v20 =>
 kldN 2 v20 w19 fun v21 =>
 kfld 3 x3 fun v22 =>
 kld v22 w19 fun v23 =>
 kcall Tryz.prog 20 #[x8, x9, v21, v23, x1, x2] w19 fun v24 w25 =>
 kL fun (I : Value → World → Prop) (μ : Value → World → Nat) => I (.int .i64 0) w25 ∧ ∀ (x12 : Value) (w1 : World), I x12 w1 →
 f6_3 x12 x7 x8 x9 v18 v24 (fun y12 w2 => I y12 w2 ∧ μ y12 w2 < μ x12 w1) Q w1
def f6_1 (x1 x2 x3 : Value) (Q : PQ) (w : World) : Prop :=
 kldN 7 x3 w fun v9 =>
 kcall Tryz.prog 8 #[v9, .int .i64 6] w fun v10 w11 =>
 kext v10 0 fun v12 =>
 kext v10 1 fun v13 =>
 kext v10 2 fun v14 =>
 keq Tryz.prog .eql 29 false true v12 (.pointer none) w11 fun v15 w16 =>
 kB v15 fun b119 => kIf b119
 (Q (.bool false) w16)
 (f6_2 x1 x2 x3 v12 v13 v14 Q w16)
def f6_0 (x1 x2 x3 : Value) (Q : PQ) (w : World) : Prop :=
 klen x1 fun v6 =>
 kint .i64 .gtr v6 (.int .i64 80) fun v8 =>
 kB v8 fun b120 => kIf b120
 (Q (.bool true) w)
 (f6_1 x1 x2 x3 Q w)
def f6 (x0 x1 x2 : Value) (Q : PQ) (w : World) : Prop :=
 knew (Value.cells x0) 26 w fun v1 w2 =>
 kcall Tryz.prog 7 #[] w2 fun v3 w4 =>
 kun .not (some .bool) v3 fun v5 =>
 kB v5 fun b121 => kIf b121
 (Q (.bool false) w4)
 (f6_0 x1 x2 v1 Q w4)
end
section
attribute [local irreducible] kO kB kStr kInt kN kG kIf kfld kld kldN kst knew kmap kbld kbldS kext kcnv klenStr klen kcap kprt kprtN kbool kint kstr keq kun ksl kix kiv kta kmk kmm ksem ksemU kextf kcallV kcallM kcall kL
def b2n (b : Bool) : Nat := if b = true then 1 else 0
section
variable {L : List Comp} {n bv : Nat} {U : Nat → Prop} {w w' : World}
theorem r09With {a : Option Addr} {P : List Part} {cp : Nat} (hs : SlIs w a P.length 6 (P.flatMap Part.cells)) (hn : P.length ≤ 100) (q : Part) : Meets Tryz.prog 133 #[.slice a P.length cp, .agg q.cells.toArray] w fun v w' => Mk6 w (P.length + 1) v w' := by
 refine f133_ok ?_
 unfold f133
 refine knew_of fun w2 h2 hs2 hb2 => ?_
 have hb2 : blk w2 w.heap.size = some (.cells q.cells.toArray 49) := hb2
 refine kbldS_of (cs := []) rfl fun w4 h4 hs4 hb4 => ?_
 have hs' := hs.same h2
 refine kL3_of P.length (fun i x y z wr => Mk6 w2 (i + (match y with | .bool b => b2n b | _ => 0)) x wr ∧ (∃ b, y = .bool b) ∧ z = .int .i64 i) ⟨lI3_0 ⟨⟨[], Own.blk hb4 (n := 0) (by simp) (by simp [maxLen]), Nat.zero_le _, fun k hk => by rw [vblk_new hk]; exact Nat.le_refl _, h4⟩, ⟨false, rfl⟩, rfl⟩, fun x y z wr hx => ?_⟩
 obtain ⟨i, hi, ⟨hMk, ⟨b, rfl⟩, rfl⟩, hJ⟩ := lI3_step hx
 have hMk : Mk6 w2 (i + b2n b) x wr := hMk
 have hmr : Same w2 wr := by obtain ⟨_, _, _, _, h⟩ := hMk; exact h
 have hbr := hmr.get hb2 (fun h => h)
 have hsr := hs'.same hmr
 have hb1 : b2n b ≤ 1 := by unfold b2n; split <;> omega
 unfold f133_0
 refine klen_at ?_
 refine lss_at ?_
 refine kB_at ?_
 refine kIf_dec (fun hlt => ?_) (fun hge => ?_)
 ·have hlt : i < P.length := by omega
  have last : ∀ (b' : Bool) (x' : Value) (ws : World), Mk6 w2 (i + b2n b') x' ws → f133_3 (.slice a P.length cp) (.pointer (some ⟨w.heap.size, 0, none⟩)) x' (.bool b') (.int .i64 i) (fun y5 y6 y7 w2_1 => lI P.length (inv3 fun i x y z wr => Mk6 w2 (i + (match y with | .bool b => b2n b | _ => 0)) x wr ∧ (∃ b, y = .bool b) ∧ z = .int .i64 i) (y5, y6, y7, w2_1) ∧ lM P.length (inv3 fun i x y z wr => Mk6 w2 (i + (match y with | .bool b => b2n b | _ => 0)) x wr ∧ (∃ b, y = .bool b) ∧ z = .int .i64 i) (y5, y6, y7, w2_1) < lM P.length (inv3 fun i x y z wr => Mk6 w2 (i + (match y with | .bool b => b2n b | _ => 0)) x wr ∧ (∃ b, y = .bool b) ∧ z = .int .i64 i) (x, .bool b, .int .i64 i, wr)) (fun v w' => Mk6 w (P.length + 1) v w') ws := by
   intro b' x' ws hk
   have hms : Same w2 ws := by obtain ⟨_, _, _, _, h⟩ := hk; exact h
   have hb1' : b2n b' ≤ 1 := by unfold b2n; split <;> omega
   unfold f133_3
   refine kixldN_of (F := Part.cells) (sz := 6) (fun _ => rfl) (by omega) (hs'.same hms) hlt rfl ?_
   refine hk.app (by omega) _ fun y wt hy => ?_
   unfold f133_4
   refine add_at (by omega) (by omega) ?_
   rw [cast_succ]
   exact hJ _ _ _ _ hlt ⟨hy.more (by show _ ≤ i + 1 + b2n b'; omega), ⟨b', rfl⟩, rfl⟩
  unfold f133_1
  refine not_at ?_
  refine kB_at ?_
  refine kIf_of (fun hb => ?_) (fun hb => ?_)
  ·have hb : b = false := by simpa using hb
   subst hb
   refine kixfld_of (F := Part.cells) (sz := 6) (fun _ => rfl) (j := 0) hsr hlt rfl rfl ?_
   refine kG_of rfl ?_
   have md : Same wr wr.drew := (Mod.refl (fun _ => False) _).drew
   have hMd := hMk.same md
   have hbd := md.get hbr (fun h => h)
   refine kfld_of ?_
   refine kld_at hbd rfl ?_
   refine kG_of rfl ?_
   refine gtr_at ?_
   unfold f133_2
   refine kB_at ?_
   refine kIf_dec (fun _ => ?_) (fun _ => last false _ _ hMd)
   refine kldN_at hbd rfl (by omega) ?_
   exact hMd.app (by omega) _ fun y wt hy => last true _ _ hy
  ·have hb : b = true := by simpa using hb
   subst hb
   unfold f133_2
   refine kB_at ?_
   refine kIf_F rfl ?_
   exact last true _ _ (hMk.same (Mod.refl (fun _ => False) _).drew)
 ·have hi' : i = P.length := by omega
  subst hi'
  have up : ∀ {m : Nat} {x : Value} {ws : World}, Mk6 w2 m x ws → m ≤ P.length + 1 → Mk6 w (P.length + 1) x ws := fun hk hm => by
   obtain ⟨P', h1, hh2, h3, h4⟩ := hk
   exact ⟨P', h1, by omega, fun k hk => Nat.le_trans h2.size (h3 k hk), h2.trans h4⟩
  unfold f133_5
  refine not_at ?_
  refine kB_at ?_
  refine kIf_of (fun hb => ?_) (fun hb => ?_)
  ·have hb : b = false := by simpa using hb
   subst hb
   refine kldN_at hbr rfl (by omega) ?_
   exact hMk.app (by omega) _ fun y wt hy => up hy (by show P.length + 0 + 1 ≤ _; omega)
  ·exact up hMk (by omega)
theorem r14Gathered (h : V14 L n bv U w) (hG : GoodSc L) {a : Option Addr} {P : List Part} {cp : Nat} (hs : SlIs w a P.length 6 (P.flatMap Part.cells)) (hn : P.length ≤ 64) : Meets Tryz.prog 82 #[.pointer (some ⟨bv, 0, none⟩), .slice a P.length cp] w fun v w' => (∃ a n c, ∃ e : Int, v = .tuple #[.slice a n c, .int .i64 e]) ∧ Same w w' := by
 refine f82_ok ?_
 unfold f82
 refine kbldS_of (cs := []) rfl fun w4 h4 hs4 hb4 => ?_
 refine kL3_of P.length (fun i x y z wr => Mk6 w i x wr ∧ (∃ b, y = .bool b) ∧ z = .int .i64 i) ⟨lI3_0 ⟨⟨[], Own.blk hb4 (n := 0) (by simp) (by simp [maxLen]), Nat.zero_le _, fun k hk => by rw [vblk_new hk]; exact Nat.le_refl _, h4⟩, ⟨false, rfl⟩, rfl⟩, fun x y z wr hx => ?_⟩
 obtain ⟨i, hi, ⟨hMk, ⟨b, rfl⟩, rfl⟩, hJ⟩ := lI3_step hx
 have hmr : Same w wr := by obtain ⟨_, _, _, _, h⟩ := hMk; exact h
 have hsr := hs.same hmr
 unfold f82_0
 refine klen_at ?_
 refine lss_at ?_
 refine kB_at ?_
 refine kIf_dec (fun hlt => ?_) (fun hge => ?_)
 ·have hlt : i < P.length := by omega
  have md : Same wr wr.drew := (Mod.refl (fun _ => False) _).drew
  have mrd := hmr.trans md
  have hMd := hMk.same md
  have hsd := hs.same mrd
  obtain ⟨⟨a1, cp1, rv, la, ll, lc, mo, fr, nx, sd, gs, hb, hc, _, _, hrv, _⟩, _⟩ := h.same mrd
  unfold f82_1
  generalize wr.drew = wd at *
  refine kN_at ?_
  refine kfld_of ?_
  refine kldN_at hb rfl (by omega) ?_
  refine kG_of rfl ?_
  refine kixldN_of (F := Part.cells) (sz := 6) (fun _ => rfl) (by omega) hsd hlt rfl ?_
  refine kG_of rfl ?_
  refine kcall_of (r09Fits (cp := cp1) hrv hc hG _) ?_
  rintro v w11 ⟨⟨bf, rfl⟩, h11⟩
  refine not_at ?_
  refine kB_at ?_
  refine kIf_of (fun _ => ⟨⟨_, _, _, _, rfl⟩, mrd.trans h11⟩) (fun _ => ?_)
  have hM11 := hMd.same h11
  have hs11 := hsd.same h11
  have last : ∀ (b' : Bool) (ws : World), Mk6 w i x ws → f82_3 (.pointer (some ⟨bv, 0, none⟩)) (.slice a P.length cp) x (.bool b') (.int .i64 i) (fun y6 y7 y8 w2_1 => lI P.length (inv3 fun i x y z wr => Mk6 w i x wr ∧ (∃ b, y = .bool b) ∧ z = .int .i64 i) (y6, y7, y8, w2_1) ∧ lM P.length (inv3 fun i x y z wr => Mk6 w i x wr ∧ (∃ b, y = .bool b) ∧ z = .int .i64 i) (y6, y7, y8, w2_1) < lM P.length (inv3 fun i x y z wr => Mk6 w i x wr ∧ (∃ b, y = .bool b) ∧ z = .int .i64 i) (x, .bool b, .int .i64 i, wr)) (fun v w' => (∃ a n c, ∃ e : Int, v = .tuple #[.slice a n c, .int .i64 e]) ∧ Same w w') ws := by
   intro b' ws hk
   have hms : Same w ws := by obtain ⟨_, _, _, _, h⟩ := hk; exact h
   obtain ⟨P', hO, hP', hfr, _⟩ := hk
   obtain ⟨a', n', c', rfl, hsl, _⟩ := hO.is
   have hn' : n' = P'.length := by
    have := hsl.1
    rw [flat_len Part.cells 6 (fun _ => rfl)] at this
    omega
   subst hn'
   unfold f82_3
   refine kixldN_of (F := Part.cells) (sz := 6) (fun _ => rfl) (by omega) (hs.same hms) hlt rfl ?_
   refine kcall_of (r09With hsl (by omega) _) ?_
   rintro v w23 ⟨P2, k1, k2, k3, k4⟩
   unfold f82_4
   refine add_at (by omega) (by omega) ?_
   rw [cast_succ]
   exact hJ _ _ _ _ hlt ⟨⟨P2, k1, by omega, fun k hk => Nat.le_trans hms.size (k3 k hk), hms.trans k4⟩, ⟨b', rfl⟩, rfl⟩
  unfold f82_2
  refine kB_at ?_
  refine kIf_of (fun _ => ?_) (fun _ => last true _ hM11)
  refine kixfld_of (F := Part.cells) (sz := 6) (fun _ => rfl) (j := 0) hs11 hlt rfl rfl ?_
  obtain ⟨P', hO, hP', hfr, _⟩ := id hM11
  obtain ⟨a', n', c', rfl, hsl, _⟩ := hO.is
  have hn' : n' = P'.length := by
   have := hsl.1
   rw [flat_len Part.cells 6 (fun _ => rfl)] at this
   omega
  subst hn'
  refine kcall_of (r09At hsl (by omega) _) ?_
  rintro v w18 ⟨⟨k, rfl⟩, h18⟩
  refine geq_at ?_
  exact last _ _ (hM11.same h18)
 ·obtain ⟨P', hO, hP', hfr, _⟩ := hMk
  obtain ⟨a', n', c', rfl, hsl, _⟩ := hO.is
  unfold f82_5
  refine kB_at ?_
  refine kIf_of (fun _ => ⟨⟨_, _, _, _, rfl⟩, hmr⟩) (fun _ => ⟨⟨_, _, _, _, rfl⟩, hmr⟩)
end
end
section
attribute [local irreducible] kO kB kStr kInt kN kG kIf kfld kld kldN kst knew kmap kbld kbldS kext kcnv klenStr klen kcap kprt kprtN kbool kint kstr keq kun ksl kix kiv kta kmk kmm ksem ksemU kextf kcallV kcallM kcall kL
theorem apBe14 : appT Tryz.prog 34 2 32 = true := by kernel_rfl
theorem slBe14_is : ∃ e, Tryz.prog.underlying 34 = some (.slice e) := slT_of (by kernel_rfl)
def Mk2 (w : World) (n : Nat) (x : Value) (wr : World) : Prop := ∃ P : List R14, Own wr x 2 (P.flatMap R14.cells) ∧ P.length ≤ n ∧ (∀ k, vblk x k → w.heap.size ≤ k) ∧ Same w wr
theorem Mk2.same {w wr ws : World} {n : Nat} {x : Value} (h : Mk2 w n x wr) (m : Same wr ws) : Mk2 w n x ws := by
 obtain ⟨P, h1, h2, h3, h4⟩ := h
 exact ⟨P, h1.same m, h2, h3, h4.trans m⟩
theorem Mk2.more {w wr : World} {n n' : Nat} {x : Value} (h : Mk2 w n x wr) (hn : n ≤ n') : Mk2 w n' x wr := by
 obtain ⟨P, h1, h2, h3, h4⟩ := h
 exact ⟨P, h1, by omega, h3, h4⟩
theorem Mk2.app {w wr : World} {n : Nat} {x : Value} (h : Mk2 w n x wr) (hn : n ≤ 1000) (q : R14) {K : Value → World → Prop} (hK : ∀ y w', Mk2 w (n + 1) y w' → K y w') :
  kbldS [.int .i64 0, .slice none 0 0] 1 [(0, 2, .agg q.cells.toArray)] 46 wr fun v w' => ksem Tryz.prog (Builtin.append_ #[34, 34] 0 #[x, v]) w' K := by
 obtain ⟨P, h1, h2, h3, h4⟩ := h
 refine kbldS_of (cs := q.cells) rfl fun w24 h24 hs24 hb24 => ?_
 have hfl := flat_len R14.cells 2 (fun _ => rfl) P
 refine ksem_append apBe14 (by omega) (h1.same h24) (Src.ofSlIs (hk := slBe14_is.choose_spec) 1 (SlIs.blk hb24 rfl) rfl) (by rw [hfl]; show P.length * 2 + 2 ≤ _; omega) (by rw [hfl]; show _; simp [R14.cells]; omega) ?_
 intro v' w4 ho4 hm4 hf4
 refine hK v' w4 ⟨P ++ [q], by simpa using ho4, by rw [List.length_append, List.length_singleton]; omega, fun k hk => ?_, (h4.trans h24).trans' (hm4.mono fun k _ e => .inr (h3 k e))⟩
 rcases hf4 k hk with h | h
 ·exact h3 k h
 ·exact Nat.le_trans (h4.trans h24).size h
section
variable {L : List Comp} {n bv : Nat} {U : Nat → Prop} {w w' : World}
theorem r14Add (h : V14 L n bv U w) (hU : ∀ k, U k → k < w.heap.size) (hn : n ≤ 100) (nid : Int) (q : R14) : Meets Tryz.prog 83 #[.pointer (some ⟨bv, 0, none⟩), .int .i64 nid, .slice q.a q.n q.c] w fun v w' => V14 L (n + 1) bv (newB w w' U) w' ∧ Mod (fun k => k = bv) w w' := by
 refine f83_ok ?_
 unfold f83
 refine kbldS_of (cs := []) rfl fun w4 h4 hs4 hb4 => ?_
 obtain ⟨⟨a, cp, rv, la, ll, lc, mo, fr, nx, sd, gs, h1, h2, h3, h4', h5, h6, h7⟩, hU8⟩ := h
 refine kL3_of ll.length (fun i x y z wr => Mk2 w (i + (match y with | .bool b => b2n b | _ => 0)) x wr ∧ (∃ b, y = .bool b) ∧ z = .int .i64 i) ⟨lI3_0 ⟨⟨[], Own.blk hb4 (n := 0) (by simp) (by simp [maxLen]), Nat.zero_le _, fun k hk => by rw [vblk_new hk]; exact Nat.le_refl _, h4⟩, ⟨false, rfl⟩, rfl⟩, fun x y z wr hx => ?_⟩
 obtain ⟨i, hi, ⟨hMk, ⟨b, rfl⟩, rfl⟩, hJ⟩ := lI3_step hx
 have hMk : Mk2 w (i + b2n b) x wr := hMk
 have hmr : Same w wr := by obtain ⟨_, _, _, _, h⟩ := hMk; exact h
 have hbr := hmr.get h1 (fun h => h)
 have hb1 : b2n b ≤ 1 := by unfold b2n; split <;> omega
 unfold f83_0
 refine kN_at ?_
 refine kfld_of ?_
 refine kld_at hbr rfl ?_
 refine klen_at ?_
 refine lss_at ?_
 refine kB_at ?_
 refine kIf_dec (fun hlt => ?_) (fun hge => ?_)
 ·have hlt : i < ll.length := by omega
  have last : ∀ (b' : Bool) (x' : Value) (ws : World), Mk2 w (i + b2n b') x' ws → f83_3 (.pointer (some ⟨bv, 0, none⟩)) (.int .i64 nid) (.slice q.a q.n q.c) x' (.bool b') (.int .i64 i) (fun y5 y6 y7 w2_1 => lI ll.length (inv3 fun i x y z wr => Mk2 w (i + (match y with | .bool b => b2n b | _ => 0)) x wr ∧ (∃ b, y = .bool b) ∧ z = .int .i64 i) (y5, y6, y7, w2_1) ∧ lM ll.length (inv3 fun i x y z wr => Mk2 w (i + (match y with | .bool b => b2n b | _ => 0)) x wr ∧ (∃ b, y = .bool b) ∧ z = .int .i64 i) (y5, y6, y7, w2_1) < lM ll.length (inv3 fun i x y z wr => Mk2 w (i + (match y with | .bool b => b2n b | _ => 0)) x wr ∧ (∃ b, y = .bool b) ∧ z = .int .i64 i) (x, .bool b, .int .i64 i, wr)) (fun v w' => V14 L (n + 1) bv (newB w w' U) w' ∧ Mod (fun k => k = bv) w w') ws := by
   intro b' x' ws hk
   have hms : Same w ws := by obtain ⟨_, _, _, _, h⟩ := hk; exact h
   have hb1' : b2n b' ≤ 1 := by unfold b2n; split <;> omega
   unfold f83_3
   refine kN_at ?_
   refine kfld_of ?_
   refine kld_at (hms.get h1 (fun h => h)) rfl ?_
   refine kixldN_of (F := R14.cells) (sz := 2) (fun _ => rfl) (by omega) (h3.same hms) hlt rfl ?_
   refine hk.app (by omega) _ fun y wt hy => ?_
   unfold f83_4
   refine add_at (by omega) (by omega) ?_
   rw [cast_succ]
   exact hJ _ _ _ _ hlt ⟨hy.more (by show _ ≤ i + 1 + b2n b'; omega), ⟨b', rfl⟩, rfl⟩
  have mid : ∀ bb : Bool, b = false → f83_2 (.pointer (some ⟨bv, 0, none⟩)) (.int .i64 nid) (.slice q.a q.n q.c) x (.bool b) (.int .i64 i) (.bool bb) (fun y5 y6 y7 w2_1 => lI ll.length (inv3 fun i x y z wr => Mk2 w (i + (match y with | .bool b => b2n b | _ => 0)) x wr ∧ (∃ b, y = .bool b) ∧ z = .int .i64 i) (y5, y6, y7, w2_1) ∧ lM ll.length (inv3 fun i x y z wr => Mk2 w (i + (match y with | .bool b => b2n b | _ => 0)) x wr ∧ (∃ b, y = .bool b) ∧ z = .int .i64 i) (y5, y6, y7, w2_1) < lM ll.length (inv3 fun i x y z wr => Mk2 w (i + (match y with | .bool b => b2n b | _ => 0)) x wr ∧ (∃ b, y = .bool b) ∧ z = .int .i64 i) (x, .bool b, .int .i64 i, wr)) (fun v w' => V14 L (n + 1) bv (newB w w' U) w' ∧ Mod (fun k => k = bv) w w') wr := by
   intro bb hb
   subst hb
   unfold f83_2
   refine kB_at ?_
   refine kIf_of (fun _ => ?_) (fun _ => last false _ _ hMk)
   refine kbld_of (cs := (⟨nid, q.a, q.n, q.c⟩ : R14).cells) rfl ?_
   exact hMk.app (by omega) ⟨nid, q.a, q.n, q.c⟩ fun y wt hy => last true _ _ hy
  unfold f83_1
  refine not_at ?_
  refine kB_at ?_
  refine kIf_of (fun hb => ?_) (fun hb => ?_)
  ·have hb : b = false := by simpa using hb
   refine kN_at ?_
   refine kfld_of ?_
   refine kld_at hbr rfl ?_
   refine kixfld_of (F := R14.cells) (sz := 2) (fun _ => rfl) (j := 0) (h3.same hmr) hlt rfl rfl ?_
   refine gtr_at ?_
   exact mid _ hb
  ·have hb : b = true := by simpa using hb
   subst hb
   unfold f83_2
   refine kB_at ?_
   refine kIf_F rfl ?_
   exact last true _ _ hMk
 ·have hi' : i = ll.length := by omega
  subst hi'
  have fin : ∀ (x' : Value) (ws : World), Mk2 w (ll.length + 1) x' ws → f83_6 (.pointer (some ⟨bv, 0, none⟩)) x' (fun v w' => V14 L (n + 1) bv (newB w w' U) w' ∧ Mod (fun k => k = bv) w w') ws := by
   intro x' ws hk
   obtain ⟨P, k1, k2, k3, k4⟩ := hk
   obtain ⟨a', n', c', rfl, hsl, _⟩ := k1.is
   have hn' : n' = P.length := by
    have := hsl.1
    rw [flat_len R14.cells 2 (fun _ => rfl)] at this
    omega
   subst hn'
   have hbv := hU bv hU8
   unfold f83_6
   refine kN_at ?_
   refine kfld_of ?_
   refine kst1_of (k4.get h1 (fun h => h)) rfl rfl (by show 3 < 10; omega) fun w38 h38 hs38 hb38 => ?_
   have hne : ∀ k f, a' = some ⟨k, f, none⟩ → w.heap.size ≤ k ∧ k < ws.heap.size := fun k f e => by
    have hv : vblk (.slice a' P.length c') k := ⟨f, _, _, by rw [e]⟩
    exact ⟨k3 k hv, k1.vblk_lt hv⟩
   have hz := h38.size
   exact ⟨⟨⟨a, cp, rv, a', P, c', mo, fr, nx, sd, gs, hb38, (h2.same k4).mod h38 (fun k f e => (h6 k f e).2), hsl.mod h38 (fun k f e hk => by have := (hne k f e).1; omega), by omega, h5, fun k f e => ⟨.inl (h6 k f e).1, (h6 k f e).2⟩, fun k f e => ⟨.inr ⟨(hne k f e).1, by have := (hne k f e).2; omega⟩, by have := (hne k f e).1; omega⟩⟩, .inl hU8⟩, (Mod.of_same k4).trans h38⟩
  unfold f83_5
  refine not_at ?_
  refine kB_at ?_
  refine kIf_of (fun hb => ?_) (fun hb => ?_)
  ·have hb : b = false := by simpa using hb
   subst hb
   refine kbld_of (cs := (⟨nid, q.a, q.n, q.c⟩ : R14).cells) rfl ?_
   exact hMk.app (by omega) ⟨nid, q.a, q.n, q.c⟩ fun y wt hy => fin _ _ (hy.more (by show ll.length + 0 + 1 ≤ _; omega))
  ·exact fin _ _ (hMk.more (by omega))
theorem r14Spawn (h : V14 L n bv U w) (hG : GoodSc L) (hU : ∀ k, U k → k < w.heap.size) (hn : n ≤ 100) {a : Option Addr} {P : List Part} {cp : Nat} (hs : SlIs w a P.length 6 (P.flatMap Part.cells)) (hP : P.length ≤ 64) : Meets Tryz.prog 40 #[.pointer (some ⟨bv, 0, none⟩), .slice a P.length cp] w fun v w' => V14 L (n + 1) bv (newB w w' U) w' ∧ Mod (fun k => k = bv) w w' := by
 have same : ∀ {ws : World}, Same w ws → V14 L (n + 1) bv (newB w ws U) ws ∧ Mod (fun k => k = bv) w ws := fun m => ⟨(h.same m).weak (fun k hk => .inl hk) (Nat.le_succ n), Mod.of_same m⟩
 refine f40_ok ?_
 unfold f40
 refine kcall_of (r14Gathered h hG hs hP) ?_
 rintro v w2 ⟨⟨a', n', c', e, rfl⟩, h2⟩
 refine kext_at rfl ?_
 refine kext_at rfl ?_
 refine neq_at ?_
 refine kB_at ?_
 refine kIf_dec (fun _ => same h2) (fun _ => ?_)
 have m2 : Same w w2.drew := h2.drew
 have go : ∀ bb : Bool, f40_1 (.pointer (some ⟨bv, 0, none⟩)) (.slice a' n' c') (.bool bb) (fun v w' => V14 L (n + 1) bv (newB w w' U) w' ∧ Mod (fun k => k = bv) w w') w2.drew := by
  intro bb
  generalize w2.drew = wd at *
  unfold f40_1
  refine kB_at ?_
  refine kIf_of (fun _ => same m2) (fun _ => ?_)
  have hd := h.same m2
  obtain ⟨⟨a, cp, rv, la, ll, lc, mo, fr, nx, sd, gs, hb, _⟩, _⟩ := id hd
  unfold f40_2
  refine kN_at ?_
  refine kfld_of ?_
  refine kld_at hb rfl ?_
  refine kN_at ?_
  refine kfld_of ?_
  refine kld_at hb rfl ?_
  refine kbld_of (cs := [.int .i64 7, .int .i64 0, .int .i64 0, .int .i64 0, .int .i64 0, .int .i64 0, .int .i64 0, .int .i64 0, .slice none 0 0, .int .i64 0, .int .i64 nx]) rfl ?_
  refine kcall_of (r14Note hd _) ?_
  rintro v w23 h23
  refine kbld_of (cs := [.int .i64 2, .int .i64 nx, .int .i64 0, .int .i64 0, .int .i64 0, .int .i64 0, .int .i64 0, .int .i64 0, .slice none 0 0, .int .i64 0, .int .i64 0]) rfl ?_
  refine kcall_of (r14Note (hd.same h23) _) ?_
  rintro v w26 h26
  have m26 := m2.trans (h23.trans h26)
  obtain ⟨⟨a, cp, rv, la, ll, lc, mo, fr, nx', sd, gs, h1, g2, g3, g4, g5, g6, g7⟩, g8⟩ := h.same m26
  refine kN_at ?_
  refine kfld_of ?_
  refine kld_at h1 rfl ?_
  rw [kint_add]
  refine kN_at ?_
  refine kfld_of ?_
  refine kst1_of h1 rfl rfl (by show 5 < 10; omega) fun w31 h31 hs31 hb31 => ?_
  have hm31 : Mod (fun k => k = bv) w w31 := (Mod.of_same m26).trans h31
  have h31' : V14 L n bv U w31 := ⟨⟨a, cp, rv, la, ll, lc, mo, fr, _, sd, gs, hb31, g2.mod h31 (fun k f e => (g6 k f e).2), g3.mod h31 (fun k f e => (g7 k f e).2), g4, g5, g6, g7⟩, g8⟩
  refine kcall_of (r14Add h31' (fun k hk => Nat.lt_of_lt_of_le (hU k hk) hm31.size) hn nx ⟨0, a', n', c'⟩) ?_
  rintro v w33 ⟨hv, hm⟩
  have hz := hm31.size
  exact ⟨hv.weak (fun k hk => hk.imp id fun hk => ⟨by omega, hk.2⟩) (Nat.le_refl _), hm31.trans hm⟩
 obtain ⟨⟨a, cp, rv, la, ll, lc, mo, fr, nx, sd, gs, hb, _⟩, _⟩ := h.same m2
 unfold f40_0
 refine kN_at ?_
 refine kfld_of ?_
 refine kld_at hb rfl ?_
 refine kG_of rfl ?_
 refine klen_at ?_
 refine kN_at ?_
 refine kfld_of ?_
 refine kld_at hb rfl ?_
 refine kG_of rfl ?_
 refine geq_at ?_
 refine kB_at ?_
 refine kIf_ndec (fun _ => ?_) (fun _ => go true)
 refine kN_at ?_
 refine kfld_of ?_
 refine kld_at hb rfl ?_
 refine kG_of rfl ?_
 refine gtr_at ?_
 exact go _
end
end
section
attribute [local irreducible] kO kB kStr kInt kN kG kIf kfld kld kldN kst knew kmap kbld kbldS kext kcnv klenStr klen kcap kprt kprtN kbool kint kstr keq kun ksl kix kiv kta kmk kmm ksem ksemU kextf kcallV kcallM kcall kL
section
variable {L : List Comp} {w : World} {a : Option Addr} {cp : Nat} {ra : Option Addr} {R : List ResM} {rc : Nat}
theorem r15New (hs : SlIs w a L.length 7 (L.flatMap Comp.cells)) (hG : GoodSc L) (hL10 : L.length ≤ 10) (hr : SlIs w ra R.length 2 (R.flatMap ResM.cells)) (hGR : GoodR L R) (many : Nat) (hm : many ≤ 64) :
  Meets Tryz.prog 36 #[scV a L.length cp (.slice ra R.length rc), .int .i64 many] w fun v w' => (∃ b, v = .pointer b) ∧ Same w w' := by
 have hck := fun w2 (m : Same w w2) => refCheck (cp := cp) (rc := rc) (hs.same m) hG hL10 (hr.same m) hGR
 rw [scV] at hck ⊢
 refine f36_ok ?_
 unfold f36
 refine knew_of fun w2 h2 hs2 hb2 => ?_
 have hb2 : blk w2 w.heap.size = some (.cells #[.slice a L.length cp, .slice ra R.length rc] 78) := hb2
 refine kldN_at hb2 rfl (by omega) ?_
 refine kcall_of (hck w2 h2) ?_
 rintro v w5 ⟨⟨b, rfl⟩, h5⟩
 refine klen_at ?_
 refine gtr_at ?_
 refine kB_at ?_
 refine kIf_T rfl ?_
 refine lss_at ?_
 refine kB_at ?_
 refine kIf_ndec (fun _ => ?_) (fun h => absurd h (by omega))
 refine gtr_at ?_
 rw [decF (by omega)]
 unfold f36_0
 refine kB_at ?_
 refine kIf_F rfl ?_
 unfold f36_1
 refine kldN_at (h5.get hb2 (fun h => h)) rfl (by omega) ?_
 refine kbld_of (cs := [.slice a L.length cp, .slice ra R.length rc, .int .i64 many, .slice none 0 0, .int .i64 0, .int .i64 0]) rfl ?_
 refine knew_of fun w16 h16 hs16 hb16 => ?_
 exact ⟨⟨_, rfl⟩, (h2.trans h5).trans h16⟩
theorem r14New (hs : SlIs w a L.length 7 (L.flatMap Comp.cells)) (hG : GoodSc L) (h0 : 0 < L.length) (hL10 : L.length ≤ 10) (hr : SlIs w ra R.length 2 (R.flatMap ResM.cells)) (hGR : GoodR L R) {lo : Nat} (hlo : lo ≤ w.heap.size) (hfa : ∀ k f, a = some ⟨k, f, none⟩ → lo ≤ k) (many : Nat) (hm : many ≤ 64) (seed : Int) :
  Meets Tryz.prog 35 #[scV a L.length cp (.slice ra R.length rc), .int .i64 many, .int .i64 seed] w fun v w' => ∃ bv, v = .pointer (some ⟨bv, 0, none⟩) ∧ V14 L 0 bv (fun k => lo ≤ k ∧ k < w'.heap.size) w' ∧ Same w w' := by
 have hlR := hGR.len
 have hck := fun w2 (m : Same w w2) => refCheck (cp := cp) (rc := rc) (hs.same m) hG hL10 (hr.same m) hGR
 rw [scV] at hck ⊢
 refine f35_ok ?_
 unfold f35
 refine knew_of fun w2 h2 hs2 hb2 => ?_
 have hb2 : blk w2 w.heap.size = some (.cells #[.slice a L.length cp, .slice ra R.length rc] 78) := hb2
 refine kldN_at hb2 rfl (by omega) ?_
 refine kcall_of (hck w2 h2) ?_
 rintro v w5 ⟨⟨b, rfl⟩, h5⟩
 have hb5 := h5.get hb2 (fun h => h)
 have m5 := h2.trans h5
 refine klen_at ?_
 refine gtr_at ?_
 refine kB_at ?_
 refine kIf_T rfl ?_
 refine lss_at ?_
 refine kB_at ?_
 refine kIf_ndec (fun _ => ?_) (fun h => absurd h (by omega))
 refine gtr_at ?_
 rw [decF (by omega)]
 unfold f35_0
 refine kB_at ?_
 refine kIf_F rfl ?_
 unfold f35_1
 refine kldN_at hb5 rfl (by omega) ?_
 refine kbld_of (cs := [.slice a L.length cp, .slice ra R.length rc, .int .i64 many, .slice none 0 0, .int .i64 0, .int .i64 1, .int .i64 seed, .slice none 0 0, .slice none 0 0, .bool false]) rfl ?_
 refine knew_of fun w16 h16 hs16 hb16 => ?_
 have m16 := m5.trans h16
 have hz5 := m5.size
 refine kL1_of R.length (fun i x wr => x = .int .i64 i ∧ ∃ gs, blk wr w5.heap.size = some (.cells #[.slice a L.length cp, .slice ra R.length rc, .int .i64 many, .slice none 0 0, .int .i64 0, .int .i64 1, .int .i64 seed, gs, .slice none 0 0, .bool false] 81) ∧ Own wr gs 1 (((R.take i).map (·.value)).map (Value.int .i64)) ∧ (∀ k, vblk gs k → w16.heap.size ≤ k) ∧ Same w wr ∧ blk wr w.heap.size = some (.cells #[.slice a L.length cp, .slice ra R.length rc] 78) ∧ w16.heap.size ≤ wr.heap.size) ⟨lI1_0 ⟨rfl, _, hb16, Own.nil _ _, (fun k hk => absurd hk (nvn k)), m16, h16.get hb5 (fun h => h), Nat.le_refl _⟩, fun x wr hx => ?_⟩
 obtain ⟨i, hi, ⟨rfl, gs, hbg, hO, hgk, hwr, hsc, hzr⟩, hJ⟩ := lI1_step hx
 unfold f35_2
 refine kfld_of ?_
 refine kld_at hsc rfl ?_
 refine klen_at ?_
 refine lss_at ?_
 refine kB_at ?_
 refine kIf_dec (fun hlt => ?_) (fun hge => ?_)
 ·have hlt : i < R.length := by omega
  have htk : ((R.take (i + 1)).map (·.value)).map (Value.int .i64) = ((R.take i).map (·.value)).map (Value.int .i64) ++ [.int .i64 (R[i]).value] := by
   rw [List.take_succ_eq_append_getElem hlt, List.map_append, List.map_append]; rfl
  have hlo' : (((R.take i).map (·.value)).map (Value.int .i64)).length = i := by
   rw [List.length_map, List.length_map, List.length_take]; omega
  unfold f35_3
  have md : Same wr wr.drew := (Mod.refl (fun _ => False) _).drew
  have hbd := md.get hbg (fun h => h)
  have hsd := md.get hsc (fun h => h)
  have hOd := hO.same md
  have mrd := hwr.trans md
  have hzd := md.size
  generalize wr.drew = wd at *
  refine kN_at ?_
  refine kfld_of ?_
  refine kld_of (v := gs) hbd rfl ?_
  refine kG_of rfl ?_
  refine kfld_of ?_
  refine kld_at hsd rfl ?_
  refine kG_of rfl ?_
  refine kixfld_of (F := ResM.cells) (sz := 2) (fun _ => rfl) (j := 1) (hr.same mrd) hlt rfl rfl ?_
  refine kG_of rfl ?_
  refine kbldS_of (cs := [.int .i64 (R[i]).value]) rfl fun w36 h36 hs36 hb36 => ?_
  refine kG_of (kld_of (v := gs) (h36.get hbd (fun h => h)) rfl ⟨rfl, rfl⟩) ?_
  refine ksem_append apNums (by omega) (hOd.same h36) (Src.ofSlIs (hk := slNums_is.choose_spec) 1 (SlIs.blk hb36 rfl) rfl) (by rw [hlo']; simp; omega) (by rw [hlo']; simp; omega) ?_
  intro v' w38 hO38 m38 hf38
  have hgk2 : ∀ k, vblk v' k → w16.heap.size ≤ k := fun k hk => by
   rcases hf38 k hk with h | h
   ·exact hgk k h
   ·have := h36.size; omega
  have hlt16 : w5.heap.size < w16.heap.size := lt_of_blk hb16
  have hltw : w.heap.size < w16.heap.size := lt_of_blk (h16.get hb5 (fun h => h))
  have hg38 := m38.get (h36.get hbd (fun h => h)) (fun hk => by have := hgk _ hk; omega)
  have hs38 := m38.get (h36.get hsd (fun h => h)) (fun hk => by have := hgk _ hk; omega)
  obtain ⟨av, nv, cv, rfl, _, _⟩ := hO38.is
  refine kN_at ?_
  refine kfld_of ?_
  refine kst1_of hg38 rfl rfl (by show 7 < 10; omega) fun w40 h40 hs40 hb40 => ?_
  have hb40 : blk w40 w5.heap.size = some (.cells #[.slice a L.length cp, .slice ra R.length rc, .int .i64 many, .slice none 0 0, .int .i64 0, .int .i64 1, .int .i64 seed, .slice av nv cv, .slice none 0 0, .bool false] 81) := hb40
  unfold f35_4
  refine add_at (by omega) (by omega) ?_
  rw [cast_succ]
  have hz38 := m38.size
  have hz36 := h36.size
  refine hJ _ _ hlt ⟨rfl, .slice av nv cv, hb40, ?_, hgk2, ?_, h40.get hs38 (fun e => by have := lt_of_blk hb2; have := h5.size; omega), by omega⟩
  ·rw [htk]
   exact hO38.mod h40 fun k hk e => by have := hgk2 k hk; omega
  ·exact (mrd.trans h36).trans' ((m38.mono fun k _ e => .inr (by have := hgk k e; omega)).trans (h40.mono fun k _ e => .inr (by omega)))
 ·have : w5.heap.size < w16.heap.size := lt_of_blk hb16
  exact ⟨_, rfl, ⟨⟨a, cp, _, none, [], 0, many, 0, 1, seed, gs, hbg, hs.same hwr, SlIs.nil _ _ _, Nat.le_refl _, rfl, fun k f e => ⟨⟨hfa k f e, by have := sl_lt hs h0 (by omega) k f e; omega⟩, by have := sl_lt hs h0 (by omega) k f e; omega⟩, fun k f e => by cases e⟩, ⟨by omega, by omega⟩⟩, hwr⟩
end
theorem apCo17 : appT Tryz.prog 75 7 64 = true := by kernel_rfl
theorem slCo17_is : ∃ e, Tryz.prog.underlying 75 = some (.slice e) := slT_of (by kernel_rfl)
structure Plain (lo : Nat) (w : World) (v : Value) : Prop where
 ex : ∃ a cp ra rc, v = scV a plainC.length cp (.slice ra plainR.length rc) ∧ SlIs w a plainC.length 7 (plainC.flatMap Comp.cells) ∧ SlIs w ra plainR.length 2 (plainR.flatMap ResM.cells) ∧ ∀ k f, a = some ⟨k, f, none⟩ → lo ≤ k
theorem plain_spec (w : World) : Meets Tryz.prog 33 #[] w fun v w' => Plain w.heap.size w' v ∧ Same w w' := by
 have hp2 : plainR.length = 2 := rfl
 refine f33_ok ?_
 unfold f33
 refine knew_of fun w2 h2 hs2 hb2 => ?_
 refine kbld_of (cs := (⟨⟨#[115]⟩, 5⟩ : ResM).cells) rfl ?_
 refine kbld_of (cs := (⟨⟨#[116]⟩, 0⟩ : ResM).cells) rfl ?_
 refine kbldS_of (cs := plainR.flatMap ResM.cells) rfl fun w6 h6 hs6 hb6 => ?_
 refine kbld_of (cs := [.slice none 0 0, .slice (some ⟨w2.heap.size, 0, none⟩) 2 2]) rfl ?_
 refine knew_of fun w9 h9 hs9 hb9 => ?_
 refine kst_of (vs := [.slice none 0 0, .slice (some ⟨w2.heap.size, 0, none⟩) 2 2]) hb9 rfl rfl rfl (by simp) (by simp) fun w10 h10 hs10 hb10 => ?_
 have hb10 : blk w10 w6.heap.size = some (.cells #[.slice none 0 0, .slice (some ⟨w2.heap.size, 0, none⟩) 2 2] 78) := hb10
 have m10 : Same w6 w10 := h9.trans' (h10.mono fun k _ e => .inr (by omega))
 have mw := (h2.trans h6).trans m10
 have hr10 : SlIs w10 (some ⟨w2.heap.size, 0, none⟩) plainR.length 2 (plainR.flatMap ResM.cells) := (SlIs.blk hb6 rfl).same m10
 have hb210 := (h6.trans m10).get hb2 (fun h => h)
 have hz2 := h2.size
 have hz6 := h6.size
 have hz10 := m10.size
 have hl2 := lt_of_blk hb2
 have hl6 := lt_of_blk hb6
 have hl10 := lt_of_blk hb10
 clear h9 hb9 h10 hs10
 refine kL1_of 4 (fun j x wr => x = .int .i64 j ∧ ∃ va, blk wr w6.heap.size = some (.cells #[va, .slice (some ⟨w2.heap.size, 0, none⟩) 2 2] 78) ∧ Own wr va 7 ((plainC.take j).flatMap Comp.cells) ∧ (∀ k, vblk va k → w10.heap.size ≤ k) ∧ Mod (fun k => k = w6.heap.size) w10 wr) ⟨lI1_0 ⟨rfl, _, hb10, Own.nil _ _, (fun k hk => absurd hk (nvn k)), Mod.refl _ _⟩, fun x wr hx => ?_⟩
 obtain ⟨j, hj, ⟨rfl, va, hbv, hO, hva, hm⟩, hJ⟩ := lI1_step hx
 have hzr := hm.size
 unfold f33_0
 refine lss_at ?_
 refine kB_at ?_
 refine kIf_dec (fun hlt => ?_) (fun hge => ?_)
 ·have hlt : j < 4 := by omega
  have hpl : plainC.length = 4 := rfl
  have htk : (plainC.take (j + 1)).flatMap Comp.cells = (plainC.take j).flatMap Comp.cells ++ (plainQ j).cells := by
   rw [List.take_succ_eq_append_getElem (by omega), List.flatMap_append]
   congr 1
   rw [List.flatMap_singleton]
   congr 1
   unfold plainC
   rw [List.getElem_map, List.getElem_range]
  have hlen : ((plainC.take j).flatMap Comp.cells).length = j * 7 := by
   rw [flat_len Comp.cells 7 (fun _ => rfl), List.length_take]
   rw [Nat.min_eq_left (by omega)]
  unfold f33_1
  have md : Same wr wr.drew := (Mod.refl (fun _ => False) _).drew
  have hbd := md.get hbv (fun h => h)
  have hOd := hO.same md
  have hmd := hm.trans (Mod.of_same md)
  have hzd := md.size
  generalize wr.drew = wd at *
  refine kfld_of ?_
  refine kld_of (v := va) hbd rfl ?_
  refine kG_of rfl ?_
  refine add_at (by omega) (by omega) ?_
  rw [ksl_string rfl rfl]
  refine kG_of ?_ ?_
  ·simp only [loV_int, hiV_int]
   exact ⟨by omega, by omega, by show (j : Int) + 1 ≤ 4; omega⟩
  simp only [loV_int, hiV_int]
  rw [show ((j : Int)).toNat = j from Int.toNat_natCast j, show ((j : Int) + 1).toNat = j + 1 by omega, plain_str j hlt]
  refine add_at (by omega) (by omega) ?_
  refine lss_at ?_
  refine kbld_of (cs := [.int .i64 j, .int .i64 0, .int .i64 0, .int .i64 0]) rfl ?_
  have hq : (plainQ j).cells = [.string ⟨#[UInt8.ofNat (97 + j)]⟩, .int .i64 (1 + (j : Int)), .bool (decide ((j : Int) < 3)), .int .i64 j, .int .i64 0, .int .i64 0, .int .i64 0] := by
   have e1 : ((1 + j : Nat) : Int) = 1 + (j : Int) := by omega
   have e2 : decide (j < 3) = decide ((j : Int) < 3) := by
    by_cases h : j < 3
    ·rw [decide_eq_true h, decide_eq_true (by omega)]
    ·rw [decide_eq_false h, decide_eq_false (by omega)]
   show [Value.string ⟨#[UInt8.ofNat (97 + j)]⟩, .int .i64 ((1 + j : Nat) : Int), .bool (decide (j < 3)), .int .i64 j, .int .i64 0, .int .i64 0, .int .i64 0] = _
   rw [e1, e2]
  refine kbld_of (cs := (plainQ j).cells) (by rw [hq]; rfl) ?_
  refine kbldS_of (cs := (plainQ j).cells) rfl fun w21 h21 hs21 hb21 => ?_
  have hbd21 := h21.get hbd (fun h => h)
  refine kG_of (kld_of (v := va) hbd21 rfl ⟨rfl, rfl⟩) ?_
  refine ksem_append apCo17 (by omega) (hOd.same h21) (Src.ofSlIs (hk := slCo17_is.choose_spec) 1 (SlIs.blk hb21 rfl) rfl) (by rw [hlen]; show j * 7 + 7 ≤ _; omega) (by rw [hlen]; show _; simp [Comp.cells]; omega) ?_
  intro v' w23 ho23 hm23 hf23
  have hb23 := hm23.get hbd21 (fun hk => by have := hva _ hk; omega)
  have hv' : ∀ k, vblk v' k → w10.heap.size ≤ k := fun k hk => by
   rcases hf23 k hk with h | h
   ·exact hva k h
   ·have := h21.size; omega
  obtain ⟨a', n', c', rfl, _, _⟩ := ho23.is
  refine kfld_of ?_
  refine kst1_of hb23 rfl rfl (by show 0 < 2; omega) fun w25 h25 hs25 hb25 => ?_
  have hb25 : blk w25 w6.heap.size = some (.cells #[.slice a' n' c', .slice (some ⟨w2.heap.size, 0, none⟩) 2 2] 78) := hb25
  unfold f33_2
  refine add_at (by omega) (by omega) ?_
  rw [cast_succ]
  refine hJ _ _ hlt ⟨rfl, .slice a' n' c', hb25, ?_, hv', ?_⟩
  ·rw [htk]
   exact ho23.mod h25 fun k hk e => by have := hv' k hk; omega
  ·exact (hmd.trans (Mod.of_same h21)).trans' ((hm23.mono fun k _ e => .inr (hva k e)).trans (h25.mono fun k _ e => .inl e))
 ·have hj4 : j = 4 := by omega
  subst hj4
  obtain ⟨a', n', c', rfl, hsl, _⟩ := hO.is
  have hn' : n' = plainC.length := by
   have := hsl.1
   rw [flat_len Comp.cells 7 (fun _ => rfl)] at this
   have : (plainC.take 4).length = 4 := rfl
   have : plainC.length = 4 := rfl
   omega
  subst hn'
  unfold f33_3
  refine kldN_at hbv rfl (by omega) ?_
  refine kst_of (vs := [.slice a' plainC.length c', .slice (some ⟨w2.heap.size, 0, none⟩) 2 2]) (hm.get hb210 (by omega)) rfl rfl rfl (by simp) (by simp) fun w29 h29 hs29 hb29 => ?_
  have hb29 : blk w29 w.heap.size = some (.cells #[.slice a' plainC.length c', .slice (some ⟨w2.heap.size, 0, none⟩) 2 2] 78) := hb29
  refine kldN_at hb29 rfl (by omega) ?_
  have hla : ∀ k f, a' = some ⟨k, f, none⟩ → w10.heap.size ≤ k := fun k f e => hva k ⟨f, _, _, by rw [e]⟩
  refine ⟨⟨a', c', _, _, rfl, hsl.mod h29 (fun k f e hk => by have := hla k f e; omega), (hr10.mod hm (fun k f e hk => by cases e; omega)).mod h29 (fun k f e hk => by cases e; omega), fun k f e => by have := hla k f e; omega⟩, ?_⟩
  exact mw.trans' ((hm.mono fun k _ e => .inr (by omega)).trans (h29.mono fun k _ e => .inr (by omega)))
end
section
def partM (i c : Nat) : Part := ⟨(c : Int), ((10 * i + c : Nat) : Int), 0, 0, 0, 0⟩
def partsM (i m j : Nat) : List Part := ((List.range j).filter fun c => decide (m / 2 ^ c % 2 = 1)).map (partM i)
def laidV (M : List Nat) (n : Nat) : ViewT := (List.range n).map fun i => (i + 1, partsM i (M.getD i 0) 4)
theorem partsM_succ (i m j : Nat) : partsM i m (j + 1) = if m / 2 ^ j % 2 = 1 then partsM i m j ++ [partM i j] else partsM i m j := by
 unfold partsM
 rw [List.range_succ, List.filter_append, List.map_append]
 by_cases h : m / 2 ^ j % 2 = 1
 ·rw [if_pos h, List.filter_cons_of_pos (by simpa using h)]; rfl
 ·rw [if_neg h, List.filter_cons_of_neg (by simpa using h)]; simp
theorem laidV_succ (M : List Nat) (n : Nat) : laidV M (n + 1) = laidV M n ++ [(n + 1, partsM n (M.getD n 0) 4)] := by
 unfold laidV
 rw [List.range_succ, List.map_append]; rfl
theorem laidV_len (M : List Nat) (n : Nat) : (laidV M n).length = n := by unfold laidV; rw [List.length_map, List.length_range]
theorem partsM_mem {i m j : Nat} {q : Part} (h : q ∈ partsM i m j) : ∃ c, c < j ∧ q = partM i c := by
 obtain ⟨c, hc, rfl⟩ := List.mem_map.1 h
 exact ⟨c, by simpa using (List.mem_filter.1 hc).1, rfl⟩
theorem partsM_len (i m j : Nat) : (partsM i m j).length ≤ j := by
 unfold partsM
 rw [List.length_map]
 exact Nat.le_trans (List.length_filter_le _ _) (by simp)
theorem partsM_fits {i m : Nat} : ∀ q ∈ partsM i m 4, FitsP plainC q := by
 intro q hq
 obtain ⟨c, hc, rfl⟩ := partsM_mem hq
 refine ⟨c, rfl, hc, ?_⟩
 have h : c = 0 ∨ c = 1 ∨ c = 2 ∨ c = 3 := by omega
 rcases h with rfl | rfl | rfl | rfl <;> intro x hx <;> simp [Part.vals, partM, wdF, plainC, plainQ] at hx <;> first | exact hx | simp_all
theorem partsM_comps (i m j : Nat) : (partsM i m j).map (·.comp) = ((List.range j).filter fun c => decide (m / 2 ^ c % 2 = 1)).map fun c : Nat => (c : Int) := by
 unfold partsM
 rw [List.map_map]; rfl
theorem range_asc (j : Nat) : (List.range j).Pairwise (· < ·) := by
 rw [List.pairwise_iff_getElem]
 intro a b ha hb hab
 rw [List.getElem_range, List.getElem_range]; exact hab
theorem partsM_once (i m j : Nat) : NoTwice (partsM i m j) := by
 unfold NoTwice
 rw [partsM_comps]
 refine List.pairwise_map.2 (List.Pairwise.imp ?_ ((range_asc j).filter _))
 intro a b hab e
 omega
theorem partsM_sort (i m j : Nat) : SortP (partsM i m j) := by
 unfold SortP partsM
 refine List.pairwise_map.2 (List.Pairwise.imp ?_ ((range_asc j).filter _))
 intro a b hab
 show (a : Int) ≤ (b : Int)
 omega
theorem partsM_ok {i m j : Nat} (hi : i ≤ 1000000) (hj : j ≤ 4) : ∀ q ∈ partsM i m j, q.ok := by
 intro q hq
 obtain ⟨c, hc, rfl⟩ := partsM_mem hq
 unfold Part.ok partM I64
 simp
 omega
theorem laidV_ok (M : List Nat) {n : Nat} (hn : n ≤ 1000000) : okV (laidV M n) := by
 intro y hy q hq
 obtain ⟨i, hi, rfl⟩ := List.mem_map.1 hy
 have hi : i < n := by simpa using hi
 exact partsM_ok (by omega) (by omega) q hq
section
variable {c : WC} {w0 : World} {o : OC} {X : Nat → Prop} {w w' : World} {S : SM} {t : Nat} {B : BdM} {l : List OrdM} {gv dr : Nat}
theorem pTick (h : Pair c w0 o X w S t B l gv dr) (hap : ∀ k, X k → ¬ c.mine k) (hf : 0 ≤ c.frame) (hlt : c.frame < 1073741824) :
  Meets Tryz.prog 37 #[.pointer (some ⟨c.bw, 0, none⟩)] w fun v w' => v = .nilIface ∧ Pair (c.tune c.R (c.frame + 1) c.seed c.gn) w0 o X w' S t B l gv dr ∧ Mod (fun k => w0.heap.size ≤ k ∧ ¬ X k) w w' := by
 obtain ⟨⟨fx, U, hW, hO, hU, hX⟩, h0⟩ := h
 refine (wTick hW hf hlt).mono ?_
 rintro v w' ⟨rfl, hW', hm⟩
 exact ⟨rfl, Pair.tune (c := c) h0 hO hU hX hap rfl hW' hm⟩
theorem pSpawn {pr : Nat → Prop} {Sa : Nat → Addr} (hL : LaidP pr Sa w0) (h6 : pr 6) (hD : DeAt w0) (h : Pair c w0 o X w S t B l gv dr) (ht : t ≤ 10000) (hnx : B.nx ≤ 1000000)
  {P : List Part} {a : Option Addr} {cp : Nat} (hs : SlIs w a P.length 6 (P.flatMap Part.cells)) (hfa : ∀ k f, a = some ⟨k, f, none⟩ → X k) (hn : P.length ≤ 64) (hf : ∀ q ∈ P, FitsP c.L q) (hnt : NoTwice P) (hso : SortP P) (hlt : (viewS S B).length < S.gens.length) :
  Meets Tryz.prog 39 #[.pointer (some ⟨c.bw, 0, none⟩), .slice a P.length cp] w fun v w' => v = .tuple #[natV B.nx, .nilIface] ∧ ∃ S' B', viewS S' B' = viewS S B ++ [(B.nx, P)] ∧ B'.nx = B.nx + 1 ∧ S'.gens.length = S.gens.length ∧ Pair c w0 o X w' S' (t + 1) B' l gv dr ∧ Mod (fun k => w0.heap.size ≤ k ∧ ¬ X k) w w' := by
 obtain ⟨⟨fx, U, hW, hO, hU, hX⟩, h0⟩ := h
 refine (wSpawn_ok hL h6 hD hW ht hnx hs (fun k f e => hX k (hfa k f e)) hn hf hnt hso hlt).mono ?_
 rintro v w' ⟨rfl, S', B', hW', hg, hm, hv, hn⟩
 exact ⟨rfl, S', B', hv, hn, hg, Pair.act h0 hO hU hX hW' hm⟩
theorem Pair.gens (h : Pair c w0 o X w S t B l gv dr) : B.l.length ≤ 64 := by
 obtain ⟨⟨fx, U, hW, hO, hU, hX⟩, h0⟩ := h
 exact hW.le
end
def layC (a : Option Addr) (n cp : Nat) (i0 i1 who seed : Int) (wd og : Bool) : List Value := [.slice a n cp, .int .i64 i0, .int .i64 i1, .int .i64 who, .int .i64 seed, .bool wd, .bool og]
structure LaidI (w : World) (c : WC) (o : OC) (bh bv : Nat) (lay host : Array Value) (n m : Nat) (V : ViewT) (X : Nat → Prop) (ww : World) : Prop where
 pr : ∃ S t B, Pair c w o X ww S t B [] 0 0 ∧ viewS S B = V ∧ B.nx = n + 1 ∧ S.gens.length = 20 ∧ t ≤ n
 v : V14 plainC m bv X ww
 hx : blk ww w.heap.size = some (.cells lay 26)
 hh : blk ww bh = some (.cells host 38)
 ap : ∀ k, X k → ¬ c.mine k
 at' : w.heap.size ≠ bv ∧ bh ≠ bv ∧ X w.heap.size ∧ X bh
section
variable {w : World} {c : WC} {o : OC} {bh bv n m : Nat} {lay host : Array Value} {V : ViewT} {X : Nat → Prop} {ww wr : World}
theorem LaidI.lt (h : LaidI w c o bh bv lay host n m V X ww) {k : Nat} (hk : X k) : w.heap.size ≤ k ∧ k < ww.heap.size := by
 obtain ⟨S, t, B, hP, _⟩ := h.pr
 exact hP.lt hk
theorem LaidI.mlt (h : LaidI w c o bh bv lay host n m V X ww) {k : Nat} (hk : c.mine k) : w.heap.size ≤ k ∧ k < ww.heap.size := by
 obtain ⟨S, t, B, ⟨⟨fx, U, hW, _⟩, _⟩, _⟩ := h.pr
 exact hW.A.lt (hW.fm k hk)
theorem LaidI.same0 (h : LaidI w c o bh bv lay host n m V X ww) : Same w ww := by
 obtain ⟨S, t, B, hP, _⟩ := h.pr
 exact hP.same0
theorem LaidI.act (h : LaidI w c o bh bv lay host n m V X ww) {c' : WC} {n' : Nat} {V' : ViewT} (hc : c'.mine = c.mine) (hP : ∃ S t B, Pair c' w o X wr S t B [] 0 0 ∧ viewS S B = V' ∧ B.nx = n' + 1 ∧ S.gens.length = 20 ∧ t ≤ n') (mm : Mod (fun k => w.heap.size ≤ k ∧ ¬ X k) ww wr) : LaidI w c' o bh bv lay host n' m V' X wr :=
 ⟨hP, h.v.mod mm fun k hk hn => hn.2 hk, mm.get h.hx (fun e => e.2 h.at'.2.2.1), mm.get h.hh (fun e => e.2 h.at'.2.2.2), by rw [hc]; exact h.ap, h.at'⟩
theorem LaidI.ap' (h : LaidI w c o bh bv lay host n m V X ww) : ∀ k, newB ww wr X k → ¬ c.mine k := by
 intro k hk
 rcases hk with hk | hk
 ·exact h.ap k hk
 ·intro e
  have := (h.mlt e).2
  omega
theorem LaidI.grow (h : LaidI w c o bh bv lay host n m V X ww) (mm : Same ww wr) : LaidI w c o bh bv lay host n m V (newB ww wr X) wr := by
 obtain ⟨S, t, B, hP, h2⟩ := id h.pr
 exact ⟨⟨S, t, B, hP.grow mm fun k hk => hk.elim, h2⟩, (h.v.same mm).weak (fun k hk => .inl hk) (Nat.le_refl _), mm.get h.hx (fun h => h), mm.get h.hh (fun h => h), h.ap', ⟨h.at'.1, h.at'.2.1, .inl h.at'.2.2.1, .inl h.at'.2.2.2⟩⟩
theorem LaidI.doc (h : LaidI w c o bh bv lay host n m V X ww) {m' : Nat} (hv : V14 plainC m' bv (newB ww wr X) wr) (mm : Mod (fun k => k = bv) ww wr) : LaidI w c o bh bv lay host n m' V (newB ww wr X) wr := by
 obtain ⟨S, t, B, hP, h2⟩ := id h.pr
 have hP' := hP.grow mm fun k hk => by subst hk; exact ⟨h.v.own, h.ap _ h.v.own⟩
 exact ⟨⟨S, t, B, hP', h2⟩, hv, mm.get h.hx h.at'.1, mm.get h.hh h.at'.2.1, h.ap', ⟨h.at'.1, h.at'.2.1, .inl h.at'.2.2.1, .inl h.at'.2.2.2⟩⟩
end
end
section
attribute [local irreducible] kO kB kStr kInt kN kG kIf kfld kld kldN kst knew kmap kbld kbldS kext kcnv klenStr klen kcap kprt kprtN kbool kint kstr keq kun ksl kix kiv kta kmk kmm ksem ksemU kextf kcallV kcallM kcall kL
theorem mul_at {K : Value → Prop} {a b : Int} (h1 : -9223372036854775808 ≤ a * b) (h2 : a * b ≤ 9223372036854775807) (h : K (.int .i64 (a * b))) : kint .i64 .mul (.int .i64 a) (.int .i64 b) K := by
 rw [kint_mul, wrap_i64 h1 h2]; exact h
section
variable {w : World} {c : WC} {o : OC} {bh bv : Nat} {X : Nat → Prop} {ww wr : World}
theorem laid_parts {pr : Nat → Prop} {Sa : Nat → Addr} (hL : LaidP pr Sa w) (h6 : pr 6) (hD : DeAt w) {a : Option Addr} {cp : Nat} {M : List Nat} (hs : SlIs w a M.length 1 (M.map msk)) (hM : ∀ m ∈ M, m < 4294967296) {i0 i1 who seed : Int} {wd og : Bool} {host : Array Value} {i m : Nat} (hcL : c.L = plainC) (hi : i < M.length) (hi20 : i < 20) (hm : m ≤ 99)
  (h : LaidI w c o bh bv (layC a M.length cp i0 i1 who seed wd og).toArray host i m (laidV M i) X ww) (xo xu : Value) {J : Value → World → Prop} {Q : PQ}
  (hJ : ∀ X' w', LaidI w c o bh bv (layC a M.length cp i0 i1 who seed wd og).toArray host (i + 1) (m + 1) (laidV M (i + 1)) X' w' → J (.int .i64 ((i + 1 : Nat) : Int)) w') :
  f8_4 (.pointer (some ⟨w.heap.size, 0, none⟩)) (.pointer (some ⟨bh, 0, none⟩)) (.pointer (some ⟨c.bw, 0, none⟩)) xo (.pointer (some ⟨bv, 0, none⟩)) xu (.int .i64 i) J Q ww := by
 have h0w := h.same0
 have hMi : M.getD i 0 = M[i] := by rw [List.getD_eq_getElem?_getD, List.getElem?_eq_getElem hi]; rfl
 have hml : M[i] < 4294967296 := hM _ (List.getElem_mem hi)
 unfold f8_4
 refine kbldS_of (cs := []) rfl fun w4 h4 hs4 hb4 => ?_
 refine kL2_of 4 (fun j x y wr => y = .int .i64 j ∧ Own wr x 6 ((partsM i M[i] j).flatMap Part.cells) ∧ (∀ k, vblk x k → ww.heap.size ≤ k) ∧ Same ww wr) ⟨lI2_0 ⟨rfl, Own.blk hb4 (n := 0) (by simp [partsM]) (by simp [maxLen]), fun k hk => by rw [vblk_new hk]; exact Nat.le_refl _, h4⟩, fun x y wr hx => ?_⟩
 obtain ⟨j, hj, ⟨rfl, hO, hxk, hmr⟩, hJ2⟩ := lI2_step hx
 have hxr := hmr.get h.hx (fun h => h)
 have hfl := flat_len Part.cells 6 (fun _ => rfl) (partsM i M[i] j)
 have hpl := partsM_len i M[i] j
 unfold f8_5
 refine lss_at ?_
 refine kB_at ?_
 refine kIf_dec (fun hlt => ?_) (fun hge => ?_)
 ·have hlt : j < 4 := by omega
  unfold f8_6
  refine kfld_of ?_
  refine kld_of (v := .slice a M.length cp) hxr rfl ?_
  refine kixld_of (F := msk) (hs.same (h0w.trans hmr)) hi rfl ?_
  rw [msk, kint_shr]
  refine kG_of (by omega) ?_
  rw [shr_nat (k := .u32) M[i] j (by show j ≤ 32; omega), kint_rem]
  refine kG_of (by omega) ?_
  have hrem : ((M[i] / 2 ^ j : Nat) : Int).tmod 2 = ((M[i] / 2 ^ j % 2 : Nat) : Int) := by rw [Int.tmod_eq_emod_of_nonneg (Int.natCast_nonneg _)]; simp
  rw [hrem]
  refine eql_at ?_
  refine kB_at ?_
  refine kIf_dec (fun hb => ?_) (fun hb => ?_)
  ·have hb : M[i] / 2 ^ j % 2 = 1 := by omega
   refine mul_at (by omega) (by omega) ?_
   refine add_at (by omega) (by omega) ?_
   rw [show (10 : Int) * (i : Int) + (j : Int) = ((10 * i + j : Nat) : Int) by omega]
   refine kbld_of (cs := [.int .i64 ((10 * i + j : Nat) : Int), .int .i64 0, .int .i64 0, .int .i64 0]) rfl ?_
   refine kbld_of (cs := (partM i j).cells) rfl ?_
   refine kbldS_of (cs := (partM i j).cells) rfl fun w24 h24 hs24 hb24 => ?_
   refine ksem_append apPart2 (by omega) (hO.same h24) (Src.ofSlIs (hk := slPart2_is.choose_spec) 1 (SlIs.blk hb24 rfl) rfl) (by rw [hfl]; show _ * 6 + 6 ≤ _; omega) (by rw [hfl]; simp [Part.cells]; omega) ?_
   intro v' w26 hO26 m26 hf26
   unfold f8_7
   refine add_at (by omega) (by omega) ?_
   rw [cast_succ]
   refine hJ2 _ _ _ hlt ⟨rfl, ?_, fun k hk => ?_, (hmr.trans h24).trans' (m26.mono fun k _ e => .inr (hxk k e))⟩
   ·rw [partsM_succ, if_pos hb, List.flatMap_append]
    simpa using hO26
   ·rcases hf26 k hk with e | e
    ·exact hxk k e
    ·exact Nat.le_trans (hmr.trans h24).size e
  ·have hb : ¬ M[i] / 2 ^ j % 2 = 1 := by omega
   unfold f8_7
   refine add_at (by omega) (by omega) ?_
   rw [cast_succ]
   refine hJ2 _ _ _ hlt ⟨rfl, ?_, hxk, hmr⟩
   rw [partsM_succ, if_neg hb]
   exact hO
 ·have hj4 : j = 4 := by omega
  subst hj4
  obtain ⟨a', n', c', rfl, hsl, _⟩ := hO.is
  have hn' : n' = (partsM i M[i] 4).length := by
   have := hsl.1
   rw [flat_len Part.cells 6 (fun _ => rfl)] at this
   omega
  subst hn'
  have hfa : ∀ k f, a' = some ⟨k, f, none⟩ → ww.heap.size ≤ k ∧ k < wr.heap.size := fun k f e => by
   have hv : vblk (.slice a' (partsM i M[i] 4).length c') k := ⟨f, _, _, by rw [e]⟩
   exact ⟨hxk k hv, hO.vblk_lt hv⟩
  have hpl := partsM_len i M[i] 4
  unfold f8_8
  have hr := h.grow hmr
  obtain ⟨S, t, B, hP, hv, hnx, hg, ht⟩ := id hr.pr
  have hlen : (viewS S B).length = i := by rw [hv, laidV_len]
  refine kcall_of (pSpawn hL h6 hD hP (by omega) (by omega) hsl (fun k f e => .inr (hfa k f e)) (by omega) (by rw [hcL]; exact partsM_fits) (partsM_once _ _ _) (partsM_sort _ _ _) (by omega)) ?_
  rintro v w2 ⟨rfl, S', B', hv', hnx', hg', hP', hm'⟩
  have hr2 : LaidI w c o bh bv (layC a M.length cp i0 i1 who seed wd og).toArray host (i + 1) m (laidV M (i + 1)) (newB ww wr X) w2 := hr.act rfl ⟨S', t + 1, B', hP', by rw [hv', hv, laidV_succ, hnx, hMi], by omega, by omega, by omega⟩ hm'
  have hsl2 := hsl.mod hm' (fun k f e hk => hk.2 (.inr (hfa k f e)))
  refine kcall_of (r14Spawn hr2.v plainC_good (fun k hk => (hr2.lt hk).2) (by omega) hsl2 (by omega)) ?_
  rintro v w3 ⟨hv3, hm3⟩
  unfold f8_9
  refine add_at (by omega) (by omega) ?_
  rw [cast_succ]
  exact hJ _ _ (hr2.doc hv3 hm3)
end
end
section
attribute [local irreducible] kO kB kStr kInt kN kG kIf kfld kld kldN kst knew kmap kbld kbldS kext kcnv klenStr klen kcap kprt kprtN kbool kint kstr keq kun ksl kix kiv kta kmk kmm ksem ksemU kextf kcallV kcallM kcall kL
def laidH (c : WC) (o : OC) (wd og : Bool) (i0 i1 who : Int) : HC := ⟨if wd = true then some ⟨c.bw, 0, none⟩ else none, if og = true then some ⟨o.bo, 0, none⟩ else none, i0, i1, who⟩
structure Laid (w : World) (M : List Nat) (i0 i1 who seed : Int) (wd og : Bool) (many bh : Nat) (c : WC) (o : OC) (X : Nat → Prop) (w' : World) : Prop where
 cL : c.L = plainC
 cf : c.frame = 1
 cs : c.seed = seed
 cR : c.R = [5, 0]
 cr : c.rolled = rollF (plainC.map (·.rb))
 oL : o.L = plainC
 om : o.most = many
 pr : ∃ S t B, Pair c w o X w' S t B [] 0 0 ∧ viewS S B = laidV M (min M.length 20) ∧ B.nx = min M.length 20 + 1 ∧ S.gens.length = 20 ∧ t ≤ 20
 ap : ∀ k, X k → ¬ c.mine k
 xb : X bh
 hb : blk w' bh = some (.cells (laidH c o wd og i0 i1 who).cells.toArray 38)
section
variable {w : World} {c : WC} {o : OC} {bh : Nat} {X : Nat → Prop} {ww wr : World}
theorem pPut {S : SM} {t : Nat} {B : BdM} {l : List OrdM} {gv dr : Nat} (hP : Pair c w o X ww S t B l gv dr) (hap : ∀ k, X k → ¬ c.mine k) (hx : X bh) (m : Mod (fun k => k = bh) ww wr) : Pair c w o (newB ww wr X) wr S t B l gv dr ∧ ∀ k, newB ww wr X k → ¬ c.mine k := by
 refine ⟨hP.grow m fun k hk => by subst hk; exact ⟨hx, hap _ hx⟩, fun k hk => ?_⟩
 rcases hk with hk | hk
 ·exact hap k hk
 ·intro e
  obtain ⟨⟨fx, U, hW, _⟩, _⟩ := hP
  have := (hW.A.lt (hW.fm k e)).2
  omega
theorem laid_spec {pr : Nat → Prop} {Sa : Nat → Addr} (hL : LaidP pr Sa w) (h6 : pr 6) (hD : DeAt w) {a : Option Addr} {cp : Nat} {M : List Nat} (hs : SlIs w a M.length 1 (M.map msk)) (hM : ∀ m ∈ M, m < 4294967296) (i0 i1 who seed : Int) (wd og : Bool) {many : Nat} (hmany : many ≤ 64) :
  Meets Tryz.prog 8 #[.agg (layC a M.length cp i0 i1 who seed wd og).toArray, .int .i64 many] w fun v w' => ∃ bh c o X vv uv, v = .tuple #[.pointer (some ⟨bh, 0, none⟩), vv, uv] ∧ Laid w M i0 i1 who seed wd og many bh c o X w' := by
 have h4 : plainC.length = 4 := rfl
 refine f8_ok ?_
 unfold f8
 refine knew_of fun w2 h2 hs2 hb2 => ?_
 have hb2 : blk w2 w.heap.size = some (.cells (layC a M.length cp i0 i1 who seed wd og).toArray 26) := hb2
 refine kfld_of ?_
 refine kldN_at (cs := [.int .i64 i0, .int .i64 i1]) hb2 rfl (by omega) ?_
 refine kfld_of ?_
 refine kld_at (v := .int .i64 who) hb2 rfl ?_
 refine kbld_of (cs := [.pointer none, .pointer none, .int .i64 i0, .int .i64 i1, .int .i64 who]) rfl ?_
 refine knew_of fun w9 h9 hs9 hb9 => ?_
 have hb9 : blk w9 w2.heap.size = some (.cells #[.pointer none, .pointer none, .int .i64 i0, .int .i64 i1, .int .i64 who] 38) := hb9
 have md : Same w9 w9.drew := (Mod.refl (fun _ => False) _).drew
 have m9 : Same w w9.drew := (h2.trans h9).trans md
 have hx9 := (h9.trans md).get hb2 (fun h => h)
 have hh9 := md.get hb9 (fun h => h)
 have hz2 := h2.size
 have hlt2 := lt_of_blk hh9
 have hltx := lt_of_blk hb2
 generalize w9.drew = wq at *
 clear md hb9 h9 hs9
 refine kcall_of (plain_spec wq) ?_
 rintro v10 w11 ⟨⟨a1, c1, ra1, rc1, rfl, hC1, hR1, hla1⟩, h11⟩
 refine kfld_of ?_
 refine kld_at (v := .int .i64 seed) (h11.get hx9 (fun h => h)) rfl ?_
 refine kG_of rfl ?_
 refine kG_of (kld_at (v := .int .i64 seed) hx9 rfl ⟨rfl, rfl⟩) ?_
 have m11 := m9.trans h11
 refine kcall_of (wNewR (hD.same m11) hC1 plainC_good hR1 plainR_good (by omega) (most := 20) (by omega) seed) ?_
 rintro v14 w15 ⟨c, rfl, hcL, hcf, hcs, hcr, hcR, hW⟩
 refine kext_at rfl ?_
 refine kext_at rfl ?_
 refine kcall_of (plain_spec w15) ?_
 rintro v18 w19 ⟨⟨a2, c2, ra2, rc2, rfl, hC2, hR2, hla2⟩, h19⟩
 refine kcall_of (oNewR hC2 plainC_good hR2 plainR_good (by omega) hmany) ?_
 rintro v20 w21 ⟨o, rfl, hoL, hom, hO, h21⟩
 refine kext_at rfl ?_
 refine kext_at rfl ?_
 rw [keq_ptr_nil ptWor]
 refine kB_at ?_
 refine kIf_T rfl ?_
 rw [keq_ptr_nil ptOrd]
 refine kB_at ?_
 refine kIf_T rfl ?_
 rw [keq_nil_nil' ifErr]
 refine kB_at ?_
 refine kIf_T rfl ?_
 rw [keq_nil_nil' ifErr]
 have s15 := hW.A.same0
 have m15 := m11.trans s15
 have m21 := m15.trans (h19.trans h21)
 have n21 : Same wq w21 := h11.trans (s15.trans (h19.trans h21))
 have hx21 := n21.get hx9 (fun h => h)
 have hh21 := n21.get hh9 (fun h => h)
 have hz11 := h11.size
 have hzm11 := m11.size
 have hP0 : Pair c w o (fun k => w.heap.size ≤ k ∧ k < w11.heap.size) w21 (newS plainC 20) 0 ⟨[], 1⟩ [] 0 0 := (Pair.new (by rw [hoL]; omega) ((hW.base m11).ext h19) h21 hO).less fun k hk => .inl (.inr hk)
 have hap0 : ∀ k, (w.heap.size ≤ k ∧ k < w11.heap.size) → ¬ c.mine k := fun k hk e => by have := (hW.A.lt e).1; omega
 clear hW hO hC1 hC2 hR1 hR2 hla1 hla2
 unfold f8_0
 refine kB_at ?_
 refine kIf_F rfl ?_
 unfold f8_1
 have md : Same w21 w21.drew := (Mod.refl (fun _ => False) _).drew
 have m22 := m21.trans md
 have hzd : w21.drew.heap.size = w21.heap.size := rfl
 have hxd := md.get hx21 (fun h => h)
 have hh22 := md.get hh21 (fun h => h)
 have hP1 := hP0.loc md
 have hz21 := n21.size
 generalize w21.drew = we at *
 refine kcall_of (plain_spec we) ?_
 rintro v35 w36 ⟨⟨a3, c3, ra3, rc3, rfl, hC3, hR3, hla3⟩, h36⟩
 refine kfld_of ?_
 refine kld_at (v := .int .i64 seed) (h36.get hxd (fun h => h)) rfl ?_
 refine kG_of rfl ?_
 refine kG_of (kld_at (v := .int .i64 seed) hxd rfl ⟨rfl, rfl⟩) ?_
 refine kcall_of (r14New hC3 plainC_good (by omega) (by omega) hR3 plainR_good (lo := we.heap.size) h36.size hla3 20 (by omega) seed) ?_
 rintro v39 w40 ⟨bv, rfl, hV, h40⟩
 refine kcall_of (plain_spec w40) ?_
 rintro v41 w42 ⟨⟨a4, c4, ra4, rc4, rfl, hC4, hR4, hla4⟩, h42⟩
 refine kcall_of (r15New hC4 plainC_good (by omega) hR4 plainR_good many hmany) ?_
 rintro v43 w44 ⟨⟨b15, rfl⟩, h44⟩
 have m44 : Same we w44 := (h36.trans h40).trans (h42.trans h44)
 have hz44 := m44.size
 have hz40 := (h42.trans h44).size
 have hbv := hV.own.1
 have I44 : LaidI w c o w2.heap.size bv (layC a M.length cp i0 i1 who seed wd og).toArray #[.pointer none, .pointer none, .int .i64 i0, .int .i64 i1, .int .i64 who] 0 0 (laidV M 0) (newB we w44 fun k => w.heap.size ≤ k ∧ k < w11.heap.size) w44 :=
  ⟨⟨newS plainC 20, 0, ⟨[], 1⟩, hP1.grow m44 fun k hk => hk.elim, rfl, rfl, newS_len _ _, Nat.le_refl _⟩, (hV.same (h42.trans h44)).weak (fun k hk => .inr ⟨hk.1, by omega⟩) (Nat.le_refl _), m44.get hxd (fun h => h), m44.get hh22 (fun h => h), fun k hk => by
   rcases hk with hk | hk
   ·exact hap0 k hk
   ·intro e
    obtain ⟨⟨fx, U, hW, _⟩, _⟩ := hP1
    have := (hW.A.lt (hW.fm k e)).2
    omega, ⟨by omega, by omega, .inl ⟨Nat.le_refl _, by omega⟩, .inl ⟨by omega, by omega⟩⟩⟩
 obtain ⟨S, t, B, hP, hv, hnx, hg, ht⟩ := id I44.pr
 refine kcall_of (pTick hP I44.ap (by omega) (by omega)) ?_
 rintro v45 w46 ⟨rfl, hP', hm46⟩
 have I46 := I44.act (c' := c.tune c.R (c.frame + 1) c.seed c.gn) rfl ⟨S, t, B, hP', hv, hnx, hg, ht⟩ hm46
 refine kcall_of (r14Tick I46.v) ?_
 rintro v47 w48 ⟨hV48, hm48⟩
 have I48 := I46.doc (hV48.weak (fun k hk => .inl hk) (Nat.le_refl _)) hm48
 generalize hc1 : c.tune c.R (c.frame + 1) c.seed c.gn = c1 at *
 have e1 : c1.bw = c.bw := by rw [← hc1]; rfl
 have e2 : c1.L = plainC := by rw [← hc1]; exact hcL
 have e3 : c1.frame = 1 := by rw [← hc1]; show c.frame + 1 = 1; omega
 have e4 : c1.seed = seed := by rw [← hc1]; exact hcs
 have e5 : c1.R = [5, 0] := by rw [← hc1]; exact hcR
 have e6 : c1.rolled = rollF (plainC.map (·.rb)) := by rw [← hc1]; exact hcr
 rw [← e1]
 clear hc1 hP hP' hV48 I44 hV hP0 hP1 hcL hcf hcs hcr hcR e1 hx21 hh21 hxd hh22 hx9 hh9 hb2 hap0
 refine kL1_of (min M.length 20) (fun i x wr => x = .int .i64 i ∧ ∃ X, LaidI w c1 o w2.heap.size bv (layC a M.length cp i0 i1 who seed wd og).toArray #[.pointer none, .pointer none, .int .i64 i0, .int .i64 i1, .int .i64 who] i i (laidV M i) X wr) ⟨lI1_0 ⟨rfl, _, I48⟩, fun x wr hx => ?_⟩
 obtain ⟨i, hi, ⟨rfl, X, hI⟩, hJ⟩ := lI1_step hx
 have fin : i = min M.length 20 → ∀ {Q : PQ}, (∀ v w', (∃ bh c o X vv uv, v = .tuple #[.pointer (some ⟨bh, 0, none⟩), vv, uv] ∧ Laid w M i0 i1 who seed wd og many bh c o X w') → Q v w') → f8_10 (.pointer (some ⟨w.heap.size, 0, none⟩)) (.pointer (some ⟨w2.heap.size, 0, none⟩)) (.pointer (some ⟨c1.bw, 0, none⟩)) (.pointer (some ⟨o.bo, 0, none⟩)) (.pointer (some ⟨bv, 0, none⟩)) (.pointer b15) Q wr := by
  intro hie Q hQ
  obtain ⟨S, t, B, hP, hv, hnx, hg, ht⟩ := id hI.pr
  have f11 : ∀ (x12 : Value) (X2 : Nat → Prop) (w2' : World), Pair c1 w o X2 w2' S t B [] 0 0 → (∀ k, X2 k → ¬ c1.mine k) → X2 w2.heap.size → blk w2' w.heap.size = some (.cells (layC a M.length cp i0 i1 who seed wd og).toArray 26) → blk w2' w2.heap.size = some (.cells #[.pointer (if wd = true then some ⟨c1.bw, 0, none⟩ else none), .pointer none, .int .i64 i0, .int .i64 i1, .int .i64 who] 38) → f8_11 (.pointer (some ⟨w.heap.size, 0, none⟩)) (.pointer (some ⟨w2.heap.size, 0, none⟩)) (.pointer (some ⟨o.bo, 0, none⟩)) x12 (.pointer b15) Q w2' := by
   intro x12 X2 w2' hP2 hap2 hxb hx hh
   unfold f8_11
   refine kfld_of ?_
   refine kld_at (v := .bool og) hx rfl ?_
   refine kB_at ?_
   refine kIf_of (fun ho => ?_) (fun ho => ?_)
   ·refine kN_at ?_
    refine kfld_of ?_
    refine kst1_of hh rfl rfl (by show 1 < 5; omega) fun w89 h89 hs89 hb89 => ?_
    obtain ⟨hP3, hap3⟩ := pPut hP2 hap2 hxb h89
    unfold f8_12
    refine hQ _ _ ⟨_, c1, o, _, _, _, rfl, e2, e3, e4, e5, e6, hoL, hom, ⟨S, t, B, hP3, by rw [hv, hie], by omega, hg, by omega⟩, hap3, .inl hxb, ?_⟩
    rw [hb89, ho]; rfl
   ·unfold f8_12
    refine hQ _ _ ⟨_, c1, o, _, _, _, rfl, e2, e3, e4, e5, e6, hoL, hom, ⟨S, t, B, hP2, by rw [hv, hie], by omega, hg, by omega⟩, hap2, hxb, ?_⟩
    have ho : og = false := by simpa using ho
    rw [hh, ho]; rfl
  unfold f8_10
  refine kfld_of ?_
  refine kld_at (v := .bool wd) hI.hx rfl ?_
  refine kB_at ?_
  refine kIf_of (fun hw => ?_) (fun hw => ?_)
  ·refine kN_at ?_
   refine kfld_of ?_
   refine kst1_of hI.hh rfl rfl (by show 0 < 5; omega) fun w85 h85 hs85 hb85 => ?_
   obtain ⟨hP3, hap3⟩ := pPut hP hI.ap hI.at'.2.2.2 h85
   refine f11 _ _ _ hP3 hap3 (.inl hI.at'.2.2.2) (h85.get hI.hx (by omega)) ?_
   rw [hb85, hw]; rfl
  ·refine f11 _ _ _ hP hI.ap hI.at'.2.2.2 hI.hx ?_
   have hw : wd = false := by simpa using hw
   rw [hI.hh, hw]; rfl
 unfold f8_2
 refine kfld_of ?_
 refine kld_at (v := .slice a M.length cp) hI.hx rfl ?_
 refine klen_at ?_
 refine lss_at ?_
 refine kB_at ?_
 refine kIf_dec (fun hlt => ?_) (fun hge => ?_)
 ·refine lss_at ?_
  unfold f8_3
  refine kB_at ?_
  refine kIf_dec (fun h20 => ?_) (fun h20 => ?_)
  ·exact laid_parts hL h6 hD hs hM e2 (by omega) (by omega) (by omega) hI _ _ fun X' w' hI' => hJ _ _ (by omega) ⟨rfl, X', hI'⟩
  ·exact fin (by omega) fun v w' h => h
 ·unfold f8_3
  refine kB_at ?_
  refine kIf_F rfl ?_
  exact fin (by omega) fun v w' h => h
end
end
end Go.Proofs.YtmdcoaljjnbhlaaGreatDoor
