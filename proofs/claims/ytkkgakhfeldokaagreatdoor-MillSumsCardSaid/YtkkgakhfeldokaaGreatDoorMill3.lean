/-
Lemmas for the statements of this seat: no statement of the seat is proved in this part (3 of 3); the conditions stand in each theorem.
-/
import Derived.Test.YtkkgakhfeldokaaGreatDoorMill2
import Derived.Test.YtkkgakhfeldokaaGreatDoorRows
import Derived.ProofKit
import Derived.Stop.Joined
import Derived.LaidMore
import Derived.LaidHandle
import Derived.LaidSub
section
namespace Go.Proofs.YtkkgakhfeldokaaGreatDoor
open Go Go.Ev
set_option linter.unusedVariables false
set_option linter.unusedSimpArgs false
set_option maxRecDepth 100000

/-! ### What awake asks of the first mill: fuel 10 -/
def OneInvA (op y x : Int) (w8 : World) (bM : Nat) (la : Option Addr) (lc : Nat) (v : Value) (wr : World) : Prop :=
  ∃ (i : Nat) (sv : Value), i ≤ 3 ∧ v = .int .i64 i ∧ MillAt wr bM la lc (oneL op y x) i sv (oneS op y x i) (10 - i) false ∧ Mod (fun k => k = bM ∨ w8.heap.size ≤ k) w8 wr ∧ (∀ b, vblk sv b → w8.heap.size ≤ b)
theorem oneStepA {w8 wr : World} {op y x : Int} {bM : Nat} {la : Option Addr} {lc : Nat} (hr : RowsAt wr) (hrM : bM ≠ 18) (n : Nat) (hn : n < 36) (hop : op = (n : Int)) (h2 : two n) (i : Nat) (hi : i < 3) (h : OneInvA op y x w8 bM la lc (.int .i64 i) wr) :
    Meets Tryz.prog 11 #[.pointer (some ⟨bM, 0, none⟩)] wr fun v w' => v = .tuple #[.bool true, .nilIface] ∧ OneInvA op y x w8 bM la lc (.int .i64 ((i + 1 : Nat) : Int)) w' := by
  obtain ⟨j, sv, hj, e, hM, hm, hv⟩ := h
  have e : i = j := by
    have := congrArg RowKit.intOf e
    have this : (i : Int) = (j : Int) := this
    omega
  subst e
  have fin : ∀ (v : Value) (w' : World), (v = .tuple #[.bool true, .nilIface] ∧ ∃ sv', MillAt w' bM la lc (oneL op y x) ((i : Int) + 1) sv' (oneS op y x (i + 1)) (10 - (i : Int) - 1) false ∧ Mod (fun k => k = bM ∨ vblk sv k) wr w' ∧ (∀ b, vblk sv' b → vblk sv b ∨ wr.heap.size ≤ b)) →
      v = .tuple #[.bool true, .nilIface] ∧ OneInvA op y x w8 bM la lc (.int .i64 ((i + 1 : Nat) : Int)) w' := by
    rintro v w' ⟨rfl, sv', hM', hm', hv'⟩
    refine ⟨rfl, i + 1, sv', by omega, rfl, ?_, hm.trans (hm'.mono fun k _ h => h.imp id (hv k)), fun b hb => ?_⟩
    · have e1 : ((i + 1 : Nat) : Int) = (i : Int) + 1 := by omega
      have e2 : (10 : Int) - ((i + 1 : Nat) : Int) = 10 - (i : Int) - 1 := by omega
      rw [e2, e1]; exact hM'
    · rcases hv' b hb with h | h
      · exact hv b h
      · exact Nat.le_trans hm.size h
  have hi3 : i = 0 ∨ i = 1 ∨ i = 2 := by omega
  rcases hi3 with rfl | rfl | rfl
  · exact (stepGood_spec hr hM hrM (by simp [oneL]) 1 rfl (by decide) (by decide) (by decide) (by decide) (by simp [oneL]) 0 1 rowOf1.1 rowOf1.2 (by simp [oneS]) (by simp [oneS]) (by simp [oneS]) _ _ _ (fun w1 sv1 t hM1 _ => doPush_spec hM1 _ rfl t (by simp [oneS]))).mono fun v w' h => fin v w' h
  · exact (stepGood_spec hr hM hrM (by simp [oneL]) 1 rfl (by decide) (by decide) (by decide) (by decide) (by simp [oneL]) 0 1 rowOf1.1 rowOf1.2 (by simp [oneS]) (by simp [oneS]) (by simp [oneS]) _ _ _ (fun w1 sv1 t hM1 _ => doPush_spec hM1 _ rfl t (by simp [oneS]))).mono fun v w' h => fin v w' h
  · exact (stepGood_spec hr hM hrM (by simp [oneL]) n hop hn (by unfold two at h2; omega) (by decide) (by decide) (by simp [oneL]) 2 1 (rowOfTwo n hn h2).1 (rowOfTwo n hn h2).2 (by simp [oneS]) (by simp [oneS]) (by simp [oneS]) _ _ _ (fun w1 sv1 t hM1 ho => doCalc_spec hM1 _ (by rw [show ((oneL op y x)[2]).op = op from rfl, hop]; exact h2) y x t ho (by simp [oneS]))).mono fun v w' h => fin v w' h
end Go.Proofs.YtkkgakhfeldokaaGreatDoor
end
section
namespace Go.Ev
open Go Go.RowKit
/-! ### Steps by 'refine' alone: what a script of steps tries, one after the other -/
/-- The nth of a list: by its constructors alone, so that what it finds is told as it stands. -/
def nth {α : Type} : List α → Nat → Option α
  | [], _ => none
  | x :: _, 0 => some x
  | _ :: l, n + 1 => nth l n
theorem nth_eq {α : Type} : ∀ (l : List α) (n : Nat), nth l n = l[n]?
  | [], _ => by simp [nth]
  | _ :: _, 0 => by simp [nth]
  | _ :: l, n + 1 => by simp [nth, nth_eq l n]
/-- n of a list, from o on. -/
def segL {α : Type} : List α → Nat → Nat → Option (List α)
  | _, 0, 0 => some []
  | [], 0, _ + 1 => none
  | x :: l, 0, n + 1 => match segL l 0 n with
    | some r => some (x :: r)
    | none => none
  | [], _ + 1, _ => none
  | _ :: l, o + 1, n => segL l o n
theorem segL_spec {α : Type} : ∀ (l : List α) (o n : Nat) (r : List α), segL l o n = some r → o + n ≤ l.length ∧ (l.drop o).take n = r
  | l, 0, 0, r, h => by cases l <;> (simp [segL] at h; subst h; simp)
  | [], 0, _ + 1, _, h => by simp [segL] at h
  | x :: l, 0, n + 1, r, h => by
    simp only [segL] at h
    split at h
    · rename_i r' hr
      cases h
      obtain ⟨h1, h2⟩ := segL_spec l 0 n r' hr
      refine ⟨by simp only [List.length_cons]; omega, ?_⟩
      simp only [List.drop_zero] at h2 ⊢
      simp [h2]
    · cases h
  | [], _ + 1, _, _, h => by simp [segL] at h
  | _ :: l, o + 1, n, r, h => by
    obtain ⟨h1, h2⟩ := segL_spec l o n r (by simpa [segL] using h)
    exact ⟨by simp only [List.length_cons]; omega, by simpa using h2⟩
section
variable {P : Program} {w : World}
theorem kN_at {a : Addr} {K : Prop} (h : K) : kN (.pointer (some a)) K := h
theorem kN_fat {f : FuncId} {x y : Array Value} {K : Prop} (h : K) : kN (.func (.func f) x y) K := h
theorem kN_iat {t : TypeId} {x : Value} {K : Prop} (h : K) : kN (.iface t x) K := h
theorem kO_at {α : Type} {a : α} {K : α → Prop} (h : K a) : kO (some a) K := h
theorem kB_at {b : Bool} {K : Bool → Prop} (h : K b) : kB (.bool b) K := h
theorem kStr_at {s : ByteArray} {K : ByteArray → Prop} (h : K s) : kStr (.string s) K := h
theorem kInt_at {k : IntKind} {n : Int} {K : Int → Prop} (h : K n) : kInt (.int k n) K := h
theorem kld_at {b o : Nat} {K : Value → Prop} {c : Array Value} {t : TypeId} {f : Nat × Nat} {v : Value} (hb : Ev.blk w b = some (.cells c t f)) (hc : nth c.toList o = some v) (h : K v) : kld (.pointer (some ⟨b, o, none⟩)) w K :=
  kld_of hb (by rw [nth_eq] at hc; simpa using hc) h
theorem kldN_at {n b o : Nat} {K : Value → Prop} {c : Array Value} {t : TypeId} {f : Nat × Nat} {cs : List Value} (hb : Ev.blk w b = some (.cells c t f)) (hc : segL c.toList o n = some cs) (hn : 0 < n) (h : K (.agg cs.toArray)) : kldN n (.pointer (some ⟨b, o, none⟩)) w K := by
  obtain ⟨h1, h2⟩ := segL_spec _ _ _ _ hc
  exact kldN_of hb (by simpa using h1) h2 hn h
theorem kext_at {vs : Array Value} {i : Nat} {v : Value} {K : Value → Prop} (h : nth vs.toList i = some v) (hk : K v) : kext (.tuple vs) i K :=
  kext_of (by rw [nth_eq] at h; simpa using h) hk
theorem kprt_at {vs : Array Value} {i : Nat} {v : Value} {K : Value → Prop} (h : nth vs.toList i = some v) (hk : K v) : kprt (.agg vs) i K := by
  rw [kprt_agg]
  exact kO_of (by rw [nth_eq] at h; simpa using h) hk
theorem kprtN_at {vs : Array Value} {i n : Nat} {cs : List Value} {K : Value → Prop} (h : segL vs.toList i n = some cs) (hk : K (.agg cs.toArray)) : kprtN (.agg vs) i n K := by
  rw [kprtN_agg]
  obtain ⟨h1, h2⟩ := segL_spec _ _ _ _ h
  have : vs.extract i (i + n) = cs.toArray := by
    apply Array.ext'
    rw [← h2]
    simp [List.take_drop]
  rw [this]; exact hk
theorem klen_at {a : Option Addr} {n c : Nat} {K : Value → Prop} (h : K (.int .i64 n)) : klen (.slice a n c) K := h
theorem kcap_at {a : Option Addr} {n c : Nat} {K : Value → Prop} (h : K (.int .i64 c)) : kcap (.slice a n c) K := h
theorem klenStr_at {s : ByteArray} {K : Value → Prop} (h : K (.int .i64 s.size)) : klenStr (.string s) K := h
theorem kIf_T {b : Bool} {X Y : Prop} (h : b = true) (x : X) : kIf b X Y := by subst h; exact x
theorem kIf_F {b : Bool} {X Y : Prop} (h : b = false) (y : Y) : kIf b X Y := by subst h; exact y
theorem decT {p : Prop} [Decidable p] (h : p) : decide p = true := decide_eq_true h
theorem decF {p : Prop} [Decidable p] (h : ¬ p) : decide p = false := decide_eq_false h
theorem notT {b : Bool} (h : b = false) : (!b) = true := by rw [h]; rfl
theorem notF {b : Bool} (h : b = true) : (!b) = false := by rw [h]; rfl
section
variable {k : IntKind} {a b : Int} {K : Value → Prop}
theorem add_at {K : Value → Prop} {a b : Int} (h1 : -9223372036854775808 ≤ a + b) (h2 : a + b ≤ 9223372036854775807) (h : K (.int .i64 (a + b))) : kint .i64 .add (.int .i64 a) (.int .i64 b) K := by
  rw [kint_add, wrap_i64 h1 h2]; exact h
theorem sub_at {K : Value → Prop} {a b : Int} (h1 : -9223372036854775808 ≤ a - b) (h2 : a - b ≤ 9223372036854775807) (h : K (.int .i64 (a - b))) : kint .i64 .sub (.int .i64 a) (.int .i64 b) K := by
  rw [kint_sub, wrap_i64 h1 h2]; exact h
theorem eql_at (h : K (.bool (decide (a = b)))) : kint k .eql (.int k a) (.int k b) K := by rw [kint_eql]; exact h
theorem neq_at (h : K (.bool (decide (a ≠ b)))) : kint k .neq (.int k a) (.int k b) K := by rw [kint_neq]; exact h
theorem lss_at (h : K (.bool (decide (a < b)))) : kint k .lss (.int k a) (.int k b) K := by rw [kint_lss]; exact h
theorem leq_at (h : K (.bool (decide (a ≤ b)))) : kint k .leq (.int k a) (.int k b) K := by rw [kint_leq]; exact h
theorem gtr_at (h : K (.bool (decide (b < a)))) : kint k .gtr (.int k a) (.int k b) K := by rw [kint_gtr]; exact h
theorem geq_at (h : K (.bool (decide (b ≤ a)))) : kint k .geq (.int k a) (.int k b) K := by rw [kint_geq]; exact h
theorem not_at {d : Option TypeDesc} {b : Bool} (h : K (.bool (!b))) : kun .not d (.bool b) K := by rw [kun_not]; exact h
theorem kstr_eql_at {x y : ByteArray} (h : K (.bool (decide (x = y)))) : kstr .eql (.string x) (.string y) K := by rw [kstr_eql]; exact h
end
end
/-- A store of one cell. -/
theorem kst1_of {P : Program} {b o : Nat} {v : Value} {w : World} {K : World → Prop} {c : Array Value} {t : TypeId} (hb : Ev.blk w b = some (.cells c t)) (hv : v.cells = #[v]) (h1 : v.oneCell' = true) (hle : o < c.size)
    (h : ∀ w2, Mod (fun k => k = b) w w2 → w2.heap.size = w.heap.size → Ev.blk w2 b = some (.cells (c.setIfInBounds o v) t) → K w2) : kst 1 (.pointer (some ⟨b, o, none⟩)) v w K :=
  kst_of (vs := [v]) hb (congrArg Array.toList hv) rfl (by unfold oneCells; rw [h1]; rfl) hle (by simp) h
/-! ### Loops of at most n rounds, by what holds ahead of round i: the measure is made here -/
open Classical in
/-- The greatest i up to n of which p holds. -/
noncomputable def maxI (p : Nat → Prop) : Nat → Nat
  | 0 => 0
  | n + 1 => if p (n + 1) then n + 1 else maxI p n
theorem maxI_spec (p : Nat → Prop) : ∀ n, (∃ i, i ≤ n ∧ p i) → p (maxI p n) ∧ maxI p n ≤ n ∧ ∀ i, i ≤ n → p i → i ≤ maxI p n
  | 0, ⟨i, hi, h⟩ => by
    obtain rfl : i = 0 := by omega
    exact ⟨h, Nat.le_refl _, fun j hj _ => hj⟩
  | n + 1, ⟨i, hi, h⟩ => by
    unfold maxI
    by_cases hp : p (n + 1)
    · rw [if_pos hp]; exact ⟨hp, Nat.le_refl _, fun j hj _ => hj⟩
    · rw [if_neg hp]
      have hin : i ≤ n := by
        rcases Nat.lt_or_ge i (n + 1) with h1 | h1
        · omega
        · have e : i = n + 1 := by omega
          exact absurd (e ▸ h) hp
      obtain ⟨h1, h2, h3⟩ := maxI_spec p n ⟨i, hin, h⟩
      refine ⟨h1, by omega, fun j hj hpj => ?_⟩
      rcases Nat.lt_or_ge j (n + 1) with h4 | h4
      · exact h3 j (by omega) hpj
      · have : j = n + 1 := by omega
        subst this; exact absurd hpj hp
noncomputable def lI {σ : Type} (n : Nat) (Inv : Nat → σ → Prop) (s : σ) : Prop := ∃ i, i ≤ n ∧ Inv i s
noncomputable def lM {σ : Type} (n : Nat) (Inv : Nat → σ → Prop) (s : σ) : Nat := n - maxI (fun i => Inv i s) n
theorem lI_0 {σ : Type} {n : Nat} {Inv : Nat → σ → Prop} {s : σ} (h : Inv 0 s) : lI n Inv s := ⟨0, by omega, h⟩
theorem lI_step {σ : Type} {n : Nat} {Inv : Nat → σ → Prop} {s : σ} (hs : lI n Inv s) : ∃ i, i ≤ n ∧ Inv i s ∧ ∀ s', i < n → Inv (i + 1) s' → lI n Inv s' ∧ lM n Inv s' < lM n Inv s := by
  obtain ⟨h1, h2, h3⟩ := maxI_spec (fun i => Inv i s) n hs
  refine ⟨_, h2, h1, fun s' hlt hs' => ?_⟩
  have hex : ∃ i, i ≤ n ∧ Inv i s' := ⟨_, hlt, hs'⟩
  obtain ⟨g1, g2, g3⟩ := maxI_spec (fun i => Inv i s') n hex
  have := g3 _ hlt hs'
  exact ⟨hex, by
    show n - maxI (fun i => Inv i s') n < n - maxI (fun i => Inv i s) n
    omega⟩
def inv1 (Inv : Nat → Value → World → Prop) : Nat → Value × World → Prop := fun i s => Inv i s.1 s.2
def inv2 (Inv : Nat → Value → Value → World → Prop) : Nat → Value × Value × World → Prop := fun i s => Inv i s.1 s.2.1 s.2.2
def inv3 (Inv : Nat → Value → Value → Value → World → Prop) : Nat → Value × Value × Value × World → Prop := fun i s => Inv i s.1 s.2.1 s.2.2.1 s.2.2.2
def inv4 (Inv : Nat → Value → Value → Value → Value → World → Prop) : Nat → Value × Value × Value × Value × World → Prop := fun i s => Inv i s.1 s.2.1 s.2.2.1 s.2.2.2.1 s.2.2.2.2
theorem kL0_of (n : Nat) (Inv : Nat → World → Prop) {F : (World → Prop) → (World → Nat) → Prop} (h : F (lI n Inv) (lM n Inv)) : kL F := ⟨_, _, h⟩
theorem kL1_of (n : Nat) (Inv : Nat → Value → World → Prop) {F : (Value → World → Prop) → (Value → World → Nat) → Prop} (h : F (fun x w => lI n (inv1 Inv) (x, w)) (fun x w => lM n (inv1 Inv) (x, w))) : kL F := ⟨_, _, h⟩
theorem kL2_of (n : Nat) (Inv : Nat → Value → Value → World → Prop) {F : (Value → Value → World → Prop) → (Value → Value → World → Nat) → Prop} (h : F (fun x y w => lI n (inv2 Inv) (x, y, w)) (fun x y w => lM n (inv2 Inv) (x, y, w))) : kL F := ⟨_, _, h⟩
theorem kL3_of (n : Nat) (Inv : Nat → Value → Value → Value → World → Prop) {F : (Value → Value → Value → World → Prop) → (Value → Value → Value → World → Nat) → Prop} (h : F (fun x y z w => lI n (inv3 Inv) (x, y, z, w)) (fun x y z w => lM n (inv3 Inv) (x, y, z, w))) : kL F := ⟨_, _, h⟩
theorem kL4_of (n : Nat) (Inv : Nat → Value → Value → Value → Value → World → Prop) {F : (Value → Value → Value → Value → World → Prop) → (Value → Value → Value → Value → World → Nat) → Prop} (h : F (fun x y z u w => lI n (inv4 Inv) (x, y, z, u, w)) (fun x y z u w => lM n (inv4 Inv) (x, y, z, u, w))) : kL F := ⟨_, _, h⟩
theorem lI1_0 {n : Nat} {Inv : Nat → Value → World → Prop} {x : Value} {w : World} (h : Inv 0 x w) : lI n (inv1 Inv) (x, w) := lI_0 (Inv := inv1 Inv) h
theorem lI2_0 {n : Nat} {Inv : Nat → Value → Value → World → Prop} {x y : Value} {w : World} (h : Inv 0 x y w) : lI n (inv2 Inv) (x, y, w) := lI_0 (Inv := inv2 Inv) h
theorem lI3_0 {n : Nat} {Inv : Nat → Value → Value → Value → World → Prop} {x y z : Value} {w : World} (h : Inv 0 x y z w) : lI n (inv3 Inv) (x, y, z, w) := lI_0 (Inv := inv3 Inv) h
theorem lI4_0 {n : Nat} {Inv : Nat → Value → Value → Value → Value → World → Prop} {x y z u : Value} {w : World} (h : Inv 0 x y z u w) : lI n (inv4 Inv) (x, y, z, u, w) := lI_0 (Inv := inv4 Inv) h
theorem lI1_step {n : Nat} {Inv : Nat → Value → World → Prop} {x : Value} {w : World} (hs : lI n (inv1 Inv) (x, w)) : ∃ i, i ≤ n ∧ Inv i x w ∧ ∀ x' w', i < n → Inv (i + 1) x' w' → lI n (inv1 Inv) (x', w') ∧ lM n (inv1 Inv) (x', w') < lM n (inv1 Inv) (x, w) := by
  obtain ⟨i, h1, h2, h3⟩ := lI_step hs
  exact ⟨i, h1, h2, fun x' w' hlt h => h3 (x', w') hlt h⟩
theorem lI2_step {n : Nat} {Inv : Nat → Value → Value → World → Prop} {x y : Value} {w : World} (hs : lI n (inv2 Inv) (x, y, w)) : ∃ i, i ≤ n ∧ Inv i x y w ∧ ∀ x' y' w', i < n → Inv (i + 1) x' y' w' → lI n (inv2 Inv) (x', y', w') ∧ lM n (inv2 Inv) (x', y', w') < lM n (inv2 Inv) (x, y, w) := by
  obtain ⟨i, h1, h2, h3⟩ := lI_step hs
  exact ⟨i, h1, h2, fun x' y' w' hlt h => h3 (x', y', w') hlt h⟩
theorem lI3_step {n : Nat} {Inv : Nat → Value → Value → Value → World → Prop} {x y z : Value} {w : World} (hs : lI n (inv3 Inv) (x, y, z, w)) : ∃ i, i ≤ n ∧ Inv i x y z w ∧ ∀ x' y' z' w', i < n → Inv (i + 1) x' y' z' w' → lI n (inv3 Inv) (x', y', z', w') ∧ lM n (inv3 Inv) (x', y', z', w') < lM n (inv3 Inv) (x, y, z, w) := by
  obtain ⟨i, h1, h2, h3⟩ := lI_step hs
  exact ⟨i, h1, h2, fun x' y' z' w' hlt h => h3 (x', y', z', w') hlt h⟩
theorem lI4_step {n : Nat} {Inv : Nat → Value → Value → Value → Value → World → Prop} {x y z u : Value} {w : World} (hs : lI n (inv4 Inv) (x, y, z, u, w)) : ∃ i, i ≤ n ∧ Inv i x y z u w ∧ ∀ x' y' z' u' w', i < n → Inv (i + 1) x' y' z' u' w' → lI n (inv4 Inv) (x', y', z', u', w') ∧ lM n (inv4 Inv) (x', y', z', u', w') < lM n (inv4 Inv) (x, y, z, u, w) := by
  obtain ⟨i, h1, h2, h3⟩ := lI_step hs
  exact ⟨i, h1, h2, fun x' y' z' u' w' hlt h => h3 (x', y', z', u', w') hlt h⟩
/-- A loop's counter, one more. -/
theorem cast_succ (i : Nat) : (i : Int) + 1 = ((i + 1 : Nat) : Int) := by omega
end Go.Ev
end
section
namespace Go.Proofs.YtkkgakhfeldokaaGreatDoor
open Go Go.Ev
set_option linter.unusedVariables false
set_option linter.unusedSimpArgs false
set_option maxRecDepth 100000
attribute [local irreducible] kO kB kStr kInt kN kG kIf kfld kld kldN kst knew kmap kbld kbldS kext kcnv klenStr klen kcap kprt kprtN kbool kint kstr keq kun ksl kix kiv kta kmk kmm ksem ksemU kextf kcallV kcallM kcall kL

/-! ### pasodobleref04.Same: whether two rows of numbers are the same -/
theorem nV_inj (x y : Int) : (nV x = nV y) ↔ x = y := by simp [nV]
theorem sameI_spec {w : World} {a b : Option Addr} {l1 l2 : List Int} {c1 c2 : Nat} (h1 : SlIs w a l1.length 1 (l1.map nV)) (h2 : SlIs w b l2.length 1 (l2.map nV)) (hl : l1.length ≤ 1099511627776) :
    Meets Tryz.prog 13 #[.slice a l1.length c1, .slice b l2.length c2] w fun v w' => v = .bool (decide (l1 = l2)) ∧ Same w w' := by
  refine f13_ok ?_
  unfold f13
  repeat (first | refine kN_at ?_ | refine kB_at ?_ | refine kfld_of ?_ | refine kext_at rfl ?_ | refine kG_of (by first | exact rfl | omega) ?_ | refine klen_at ?_ | refine eql_at ?_ | refine neq_at ?_ | refine lss_at ?_ | refine leq_at ?_ | refine gtr_at ?_ | refine geq_at ?_ | refine add_at (by omega) (by omega) ?_ | refine sub_at (by omega) (by omega) ?_ | refine not_at ?_ | refine kO_at ?_ | refine kprt_at rfl ?_ | refine kprtN_at rfl ?_ | refine kcap_at ?_ | refine klenStr_at ?_ | refine kN_iat ?_ | refine kN_fat ?_ | refine kIf_T (by first | exact rfl | exact decT (by omega) | exact notT (decF (by omega))) ?_ | refine kIf_F (by first | exact rfl | exact decF (by omega) | exact notF (decT (by omega))) ?_)
  refine kIf_dec (fun hne => ⟨?_, Mod.refl _ _⟩) (fun heq => ?_)
  · rw [decide_eq_false]
    rintro rfl
    exact hne rfl
  have hlen : l1.length = l2.length := by omega
  unfold f13_0
  refine kL1_of l1.length (fun i x wr => x = .int .i64 i ∧ Same w wr ∧ l1.take i = l2.take i) ⟨lI1_0 ⟨rfl, Mod.refl _ _, by simp⟩, fun x wr hx => ?_⟩
  obtain ⟨i, hi, ⟨rfl, hm, ht⟩, hJ⟩ := lI1_step hx
  unfold f13_1
  refine klen_at ?_
  refine lss_at ?_
  refine kB_at ?_
  refine kIf_dec (fun hlt => ?_) (fun hge => ?_)
  · have hlt : i < l1.length := by omega
    unfold f13_2
    refine kixld_of (F := nV) (h1.same hm) hlt rfl ?_
    refine kG_of rfl ?_
    refine kixld_of (F := nV) (h2.same hm) (by omega) rfl ?_
    refine kG_of rfl ?_
    refine neq_at ?_
    refine kB_at ?_
    have t1 := List.take_add_one (l := l1) (i := i)
    have t2 := List.take_add_one (l := l2) (i := i)
    rw [List.getElem?_eq_getElem hlt] at t1
    rw [List.getElem?_eq_getElem (show i < l2.length by omega)] at t2
    refine kIf_dec (fun hne => ⟨?_, hm.drew⟩) (fun heq => ?_)
    · rw [decide_eq_false]
      rintro rfl
      exact hne rfl
    · unfold f13_3
      repeat (first | refine kN_at ?_ | refine kB_at ?_ | refine kfld_of ?_ | refine kext_at rfl ?_ | refine kG_of (by first | exact rfl | omega) ?_ | refine klen_at ?_ | refine eql_at ?_ | refine neq_at ?_ | refine lss_at ?_ | refine leq_at ?_ | refine gtr_at ?_ | refine geq_at ?_ | refine add_at (by omega) (by omega) ?_ | refine sub_at (by omega) (by omega) ?_ | refine not_at ?_ | refine kO_at ?_ | refine kprt_at rfl ?_ | refine kprtN_at rfl ?_ | refine kcap_at ?_ | refine klenStr_at ?_ | refine kN_iat ?_ | refine kN_fat ?_ | refine kIf_T (by first | exact rfl | exact decT (by omega) | exact notT (decF (by omega))) ?_ | refine kIf_F (by first | exact rfl | exact decF (by omega) | exact notF (decT (by omega))) ?_)
      rw [cast_succ]
      refine hJ _ _ hlt ⟨rfl, hm.drew, ?_⟩
      rw [t1, t2, ht, Decidable.not_not.1 heq]
  · unfold f13_4
    have hi' : i = l1.length := by omega
    subst hi'
    refine ⟨?_, hm⟩
    rw [List.take_length, hlen, List.take_length] at ht
    rw [decide_eq_true ht]
/-! ### Runs -/
/-- A step of what is over. -/
theorem stepOver_spec {w : World} {bM : Nat} {la : Option Addr} {lc : Nat} {l : List IN} {p : Int} {sv : Value} {st : List Int} {fuel : Int} {over : Bool} (h : MillAt w bM la lc l p sv st fuel over) (ho : (over || decide (p = l.length)) = true) :
    Meets Tryz.prog 11 #[.pointer (some ⟨bM, 0, none⟩)] w fun v w' => v = .tuple #[.bool false, .nilIface] ∧ Same w w' := by
  refine f11_ok ?_
  unfold f11
  rw [keq_ptr_nil ptMill]
  repeat (first | refine kN_at ?_ | refine kB_at ?_ | refine kfld_of ?_ | refine kext_at rfl ?_ | refine kG_of (by first | exact rfl | omega) ?_ | refine klen_at ?_ | refine eql_at ?_ | refine neq_at ?_ | refine lss_at ?_ | refine leq_at ?_ | refine gtr_at ?_ | refine geq_at ?_ | refine add_at (by omega) (by omega) ?_ | refine sub_at (by omega) (by omega) ?_ | refine not_at ?_ | refine kO_at ?_ | refine kprt_at rfl ?_ | refine kprtN_at rfl ?_ | refine kcap_at ?_ | refine klenStr_at ?_ | refine kN_iat ?_ | refine kN_fat ?_ | refine kIf_T (by first | exact rfl | exact decT (by omega) | exact notT (decF (by omega))) ?_ | refine kIf_F (by first | exact rfl | exact decF (by omega) | exact notF (decT (by omega))) ?_)
  refine kcall_of (over_spec h) ?_
  rintro v w7 ⟨rfl, h7⟩
  rw [ho]
  repeat (first | refine kN_at ?_ | refine kB_at ?_ | refine kfld_of ?_ | refine kext_at rfl ?_ | refine kG_of (by first | exact rfl | omega) ?_ | refine klen_at ?_ | refine eql_at ?_ | refine neq_at ?_ | refine lss_at ?_ | refine leq_at ?_ | refine gtr_at ?_ | refine geq_at ?_ | refine add_at (by omega) (by omega) ?_ | refine sub_at (by omega) (by omega) ?_ | refine not_at ?_ | refine kO_at ?_ | refine kprt_at rfl ?_ | refine kprtN_at rfl ?_ | refine kcap_at ?_ | refine klenStr_at ?_ | refine kN_iat ?_ | refine kN_fat ?_ | refine kIf_T (by first | exact rfl | exact decT (by omega) | exact notT (decF (by omega))) ?_ | refine kIf_F (by first | exact rfl | exact decF (by omega) | exact notF (decT (by omega))) ?_)
  exact ⟨rfl, h7⟩
/-- 'Run' of code without a host: a row of steps that go well, and one that ends. -/
theorem run_spec {w : World} (l : List IN) (a : Option Addr) (c : Nat) (hs : SlIs w a l.length 3 (l.flatMap IN.cells)) (hn : l.length ≤ 1000000) (fuel : Int) (n : Nat) (Inv : World → Nat → Option Addr → Nat → Nat → World → Prop)
    (h0 : ∀ w8 bM la lc, Same w w8 → w.heap.size ≤ bM → MillAt w8 bM la lc l 0 (.slice none 0 0) [] (min (max fuel 0) 4096) false → Inv w8 bM la lc 0 w8)
    (hstep : ∀ w8 bM la lc i w1, Same w w8 → w.heap.size ≤ bM → i < n → Inv w8 bM la lc i w1 → Meets Tryz.prog 11 #[.pointer (some ⟨bM, 0, none⟩)] w1 fun v w' => v = .tuple #[.bool true, .nilIface] ∧ Inv w8 bM la lc (i + 1) w')
    (e : Value → World → Prop) (left : Int)
    (hend : ∀ w8 bM la lc w1, Same w w8 → w.heap.size ≤ bM → Inv w8 bM la lc n w1 → Meets Tryz.prog 11 #[.pointer (some ⟨bM, 0, none⟩)] w1 fun v w' => (∃ x, v = .tuple #[.bool false, x] ∧ e x w') ∧ Mod (fun k => k = bM ∨ w8.heap.size ≤ k) w8 w' ∧ ∃ p sv st, MillAt w' bM la lc l p sv st left true ∨ MillAt w' bM la lc l p sv st left false) :
    Meets Tryz.prog 12 #[.agg #[.pointer none, .pointer none, .int .i64 0, .int .i64 0, .int .i64 0], .slice a l.length c, .int .i64 fuel] w fun v w' => ∃ x, v = .tuple #[.int .i64 left, x] ∧ e x w' ∧ Same w w' := by
  refine f12_ok ?_
  unfold f12
  refine knew_of fun w2 h2 hs2 hb2 => ?_
  have hb2 : blk w2 w.heap.size = some (.cells #[.pointer none, .pointer none, .int .i64 0, .int .i64 0, .int .i64 0] 47) := hb2
  repeat (first | refine kN_at ?_ | refine kB_at ?_ | refine kfld_of ?_ | refine kext_at rfl ?_ | refine kld_at hb2 rfl ?_ | refine kldN_at hb2 rfl (by omega) ?_ | refine kG_of (by first | exact rfl | omega) ?_ | refine klen_at ?_ | refine eql_at ?_ | refine neq_at ?_ | refine lss_at ?_ | refine leq_at ?_ | refine gtr_at ?_ | refine geq_at ?_ | refine add_at (by omega) (by omega) ?_ | refine sub_at (by omega) (by omega) ?_ | refine not_at ?_ | refine kO_at ?_ | refine kprt_at rfl ?_ | refine kprtN_at rfl ?_ | refine kcap_at ?_ | refine klenStr_at ?_ | refine kN_iat ?_ | refine kN_fat ?_ | refine kIf_T (by first | exact rfl | exact decT (by omega) | exact notT (decF (by omega))) ?_ | refine kIf_F (by first | exact rfl | exact decF (by omega) | exact notF (decT (by omega))) ?_)
  refine kcall_of (new_spec l a c (hs.same h2) hn fuel) ?_
  rintro v w8 ⟨bM, la, lc, rfl, hbM, h8, hM⟩
  have m8 := h2.trans h8
  have hbM' := Nat.le_trans h2.size hbM
  refine kL0_of n (Inv w8 bM la lc) ⟨lI_0 (h0 w8 bM la lc m8 hbM' hM), fun w1 hx => ?_⟩
  obtain ⟨i, hi, hI, hJ⟩ := lI_step hx
  unfold f12_0
  rcases Nat.lt_or_ge i n with hlt | hge
  · refine kcall_of (hstep w8 bM la lc i w1 m8 hbM' hlt hI) ?_
    rintro v w' ⟨rfl, hI'⟩
    repeat (first | refine kN_at ?_ | refine kB_at ?_ | refine kfld_of ?_ | refine kext_at rfl ?_ | refine kG_of (by first | exact rfl | omega) ?_ | refine klen_at ?_ | refine eql_at ?_ | refine neq_at ?_ | refine lss_at ?_ | refine leq_at ?_ | refine gtr_at ?_ | refine geq_at ?_ | refine add_at (by omega) (by omega) ?_ | refine sub_at (by omega) (by omega) ?_ | refine not_at ?_ | refine kO_at ?_ | refine kprt_at rfl ?_ | refine kprtN_at rfl ?_ | refine kcap_at ?_ | refine klenStr_at ?_ | refine kN_iat ?_ | refine kN_fat ?_ | refine kIf_T (by first | exact rfl | exact decT (by omega) | exact notT (decF (by omega))) ?_ | refine kIf_F (by first | exact rfl | exact decF (by omega) | exact notF (decT (by omega))) ?_)
    exact hJ _ hlt hI'
  · have : i = n := by omega
    subst this
    refine kcall_of (hend w8 bM la lc w1 m8 hbM' hI) ?_
    rintro v w' ⟨⟨x, rfl, he⟩, hm, p, sv, st, hM'⟩
    repeat (first | refine kN_at ?_ | refine kB_at ?_ | refine kfld_of ?_ | refine kext_at rfl ?_ | refine kG_of (by first | exact rfl | omega) ?_ | refine klen_at ?_ | refine eql_at ?_ | refine neq_at ?_ | refine lss_at ?_ | refine leq_at ?_ | refine gtr_at ?_ | refine geq_at ?_ | refine add_at (by omega) (by omega) ?_ | refine sub_at (by omega) (by omega) ?_ | refine not_at ?_ | refine kO_at ?_ | refine kprt_at rfl ?_ | refine kprtN_at rfl ?_ | refine kcap_at ?_ | refine klenStr_at ?_ | refine kN_iat ?_ | refine kN_fat ?_ | refine kIf_T (by first | exact rfl | exact decT (by omega) | exact notT (decF (by omega))) ?_ | refine kIf_F (by first | exact rfl | exact decF (by omega) | exact notF (decT (by omega))) ?_)
    have hf : Meets Tryz.prog 15 #[.pointer (some ⟨bM, 0, none⟩)] w' fun v w'' => v = .int .i64 left ∧ w'' = w' := by
      rcases hM' with hM' | hM'
      · exact fuel_spec hM'
      · exact fuel_spec hM'
    refine kcall_of hf ?_
    rintro v w'' ⟨rfl, rfl⟩
    exact ⟨x, rfl, he, m8.trans' (hm.mono fun k _ h => .inr (by rcases h with h | h <;> have := h2.size <;> have := h8.size <;> omega))⟩
end Go.Proofs.YtkkgakhfeldokaaGreatDoor
end
section
namespace Go.Proofs.YtkkgakhfeldokaaGreatDoor
open Go Go.Ev
set_option linter.unusedVariables false
set_option linter.unusedSimpArgs false
set_option maxRecDepth 100000

/-! ### The three runs that awake asks for -/
/-- The errors that the mill's statements lay. -/
def millP (k : Nat) : Prop := k ∈ [1, 2, 6, 7, 8, 12, 13, 14, 15, 17]
def hostV : Value := .agg #[.pointer none, .pointer none, .int .i64 0, .int .i64 0, .int .i64 0]
def ErrAt (S : Nat → Addr) (k : Nat) (x : Value) (w : World) : Prop := ∃ bE wh, x = .iface 116 (.pointer (some ⟨bE, 0, none⟩)) ∧ blk w bE = some (.cells #[.string wh, errV S k] 118)
theorem rowOfJump : (opRows[20]'(by decide)).2.2.1 = ((0 : Nat) : Int) ∧ (opRows[20]'(by decide)).2.2.2 = ((0 : Nat) : Int) := ⟨rfl, rfl⟩
theorem rowOfHalt : (opRows[35]'(by decide)).2.2.1 = ((0 : Nat) : Int) ∧ (opRows[35]'(by decide)).2.2.2 = ((0 : Nat) : Int) := ⟨rfl, rfl⟩
theorem rowOfAdd : (opRows[6]'(by decide)).2.2.1 = ((2 : Nat) : Int) ∧ (opRows[6]'(by decide)).2.2.2 = ((1 : Nat) : Int) := ⟨rfl, rfl⟩
theorem RowsAt.ne {w w8 : World} (h : RowsAt w) {bM : Nat} (hb : w.heap.size ≤ bM) : bM ≠ 18 := by
  obtain ⟨t, f, hbk⟩ := h
  have := lt_of_blk hbk
  omega
theorem RowsAt.modNew' {w w8 w' : World} {bM : Nat} (h0 : RowsAt w8) (hm : Mod (fun k => k = bM ∨ w8.heap.size ≤ k) w8 w') (hb : bM ≠ 18) : RowsAt w' := h0.modNew hm hb
theorem LaidP.modNew {p : Nat → Prop} {S : Nat → Addr} {w w8 w' : World} {bM : Nat} (h0 : LaidP p S w) (hw : Same w w8) (hb : w.heap.size ≤ bM) (hm : Mod (fun k => k = bM ∨ w8.heap.size ≤ k) w8 w') : LaidP p S w' :=
  (h0.same hw).mod hm fun k hk => by
    have := h0.lt hk
    have := hw.size
    constructor <;> (rintro (h | h) <;> omega)
/-- What holds of a mill under way ahead of a step. -/
def RunInv (l : List IN) (place : Nat → Int) (st : Nat → List Int) (fuel : Nat → Int) (w8 : World) (bM : Nat) (la : Option Addr) (lc : Nat) (i : Nat) (w1 : World) : Prop :=
  ∃ sv, MillAt w1 bM la lc l (place i) sv (st i) (fuel i) false ∧ Mod (fun k => k = bM ∨ w8.heap.size ≤ k) w8 w1 ∧ (∀ b, vblk sv b → w8.heap.size ≤ b)
theorem RunInv.next {l : List IN} {place : Nat → Int} {st : Nat → List Int} {fuel : Nat → Int} {w8 : World} {bM : Nat} {la : Option Addr} {lc : Nat} {i : Nat} {w1 w' : World} {sv : Value} (hm : Mod (fun k => k = bM ∨ w8.heap.size ≤ k) w8 w1) (hv : ∀ b, vblk sv b → w8.heap.size ≤ b)
    (h : ∃ sv', MillAt w' bM la lc l (place (i + 1)) sv' (st (i + 1)) (fuel (i + 1)) false ∧ Mod (fun k => k = bM ∨ vblk sv k) w1 w' ∧ (∀ b, vblk sv' b → vblk sv b ∨ w1.heap.size ≤ b)) : RunInv l place st fuel w8 bM la lc (i + 1) w' := by
  obtain ⟨sv', hM', hm', hv'⟩ := h
  refine ⟨sv', hM', hm.trans (hm'.mono fun k _ h => h.imp id (hv k)), fun b hb => ?_⟩
  rcases hv' b hb with h | h
  · exact hv b h
  · exact Nat.le_trans hm.size h
theorem nv_none (b : Nat) : ¬ vblk (.slice none 0 0) b := by
  rintro ⟨_, _, _, e⟩; cases e
theorem stepWrong_end {p : Nat → Prop} {S : Nat → Addr} {w8 w1 w' : World} {k : Nat} {v : Value} {l : List IN} {bM : Nat} {la : Option Addr} {lc : Nat} {pl : Int} {sv : Value} {st : List Int} {fuel : Int} (hm : Mod (fun k => k = bM ∨ w8.heap.size ≤ k) w8 w1)
    (h : ∃ bE wh, v = .tuple #[.bool false, .iface 116 (.pointer (some ⟨bE, 0, none⟩))] ∧ w1.heap.size ≤ bE ∧ blk w' bE = some (.cells #[.string wh, errV S k] 118) ∧ MillAt w' bM la lc l pl sv st fuel true ∧ Mod (fun k => k = bM) w1 w') :
    (∃ x, v = .tuple #[.bool false, x] ∧ ErrAt S k x w') ∧ Mod (fun k => k = bM ∨ w8.heap.size ≤ k) w8 w' ∧ ∃ p sv st, MillAt w' bM la lc l p sv st fuel true ∨ MillAt w' bM la lc l p sv st fuel false := by
  obtain ⟨bE, wh, rfl, h1, h2, h3, h4⟩ := h
  exact ⟨⟨_, rfl, bE, wh, rfl, h2⟩, hm.trans (h4.mono fun k _ h => .inl h), _, _, _, .inl h3⟩
/-- A jump to itself: until no fuel is left. -/
theorem runJump_spec {S : Nat → Addr} {w : World} (hL : LaidP millP S w) (hr : RowsAt w) (a : Option Addr) (c : Nat) (hs : SlIs w a 1 3 [.int .i64 20, .int .i64 0, .int .i64 0]) :
    Meets Tryz.prog 12 #[hostV, .slice a 1 c, .int .i64 10] w fun v w' => ∃ x, v = .tuple #[.int .i64 0, x] ∧ ErrAt S 15 x w' ∧ Same w w' := by
  refine run_spec [⟨20, 0, 0⟩] a c hs (by decide) 10 10 (RunInv [⟨20, 0, 0⟩] (fun _ => 0) (fun _ => []) (fun i => 10 - i)) ?_ ?_ _ 0 ?_
  · intro w8 bM la lc hw hb hM
    exact ⟨_, hM, Mod.refl _ _, fun b h => absurd h (nv_none b)⟩
  · rintro w8 bM la lc i w1 hw hb hi ⟨sv, hM, hm, hv⟩
    have hM : MillAt w1 bM la lc [⟨20, 0, 0⟩] 0 sv [] (10 - (i : Int)) false := hM
    have hrM := hr.ne (w8 := w8) hb
    have hr1 := (hr.same hw).modNew hm hrM
    refine (stepAny_spec hr1 (p := 0) hM hrM (by decide) 20 rfl (by decide) (by omega) (by decide) 0 0 rowOfJump.1 rowOfJump.2 (by simp) (by simp)
      (fun w2 hr2 hM2 => checkJump_spec hr2 hM2 _ 20 rfl (by decide) (.inl rfl) (by decide) (by omega) 0 0 rowOfJump.1 rowOfJump.2 (by simp) (by simp) (by simp)) _ _ _ (fun w2 sv2 t hM2 _ => doJump_spec hM2 _ rfl t)).mono ?_
    rintro v w' ⟨rfl, h⟩
    refine ⟨rfl, RunInv.next hm hv ?_⟩
    rw [show (10 : Int) - ((i + 1 : Nat) : Int) = 10 - (i : Int) - 1 by omega]
    exact h
  · rintro w8 bM la lc w1 hw hb ⟨sv, hM, hm, hv⟩
    have hrM := hr.ne (w8 := w8) hb
    have hr1 := (hr.same hw).modNew hm hrM
    have hL1 := hL.modNew hw hb hm
    refine (stepWrong_spec hr1 (p := 0) hM hrM (by decide) (by decide) (errV S 15) _ _ rfl (fun w2 hm2 hr2 hM2 => checkFuel_spec (hL1.same hm2) (kF := 15) (by simp [millP]) rfl hr2 hM2 _ 20 rfl (by decide))).mono ?_
    intro v w' h
    exact stepWrong_end (p := millP) hm h
/-- 'add' of nothing. -/
theorem runAdd_spec {S : Nat → Addr} {w : World} (hL : LaidP millP S w) (hr : RowsAt w) (a : Option Addr) (c : Nat) (hs : SlIs w a 1 3 [.int .i64 6, .int .i64 0, .int .i64 0]) :
    Meets Tryz.prog 12 #[hostV, .slice a 1 c, .int .i64 10] w fun v w' => ∃ x, v = .tuple #[.int .i64 10, x] ∧ ErrAt S 12 x w' ∧ Same w w' := by
  refine run_spec [⟨6, 0, 0⟩] a c hs (by decide) 10 0 (RunInv [⟨6, 0, 0⟩] (fun _ => 0) (fun _ => []) (fun i => 10)) ?_ ?_ _ 10 ?_
  · intro w8 bM la lc hw hb hM
    exact ⟨_, hM, Mod.refl _ _, fun b h => absurd h (nv_none b)⟩
  · rintro w8 bM la lc i w1 hw hb hi
    exact absurd hi (by omega)
  · rintro w8 bM la lc w1 hw hb ⟨sv, hM, hm, hv⟩
    have hrM := hr.ne (w8 := w8) hb
    have hr1 := (hr.same hw).modNew hm hrM
    have hL1 := hL.modNew hw hb hm
    refine (stepWrong_spec hr1 (p := 0) hM hrM (by decide) (by decide) (errV S 12) _ _ rfl (fun w2 hm2 hr2 hM2 => checkStack_spec (hL1.same hm2) (kF := 12) (by simp [millP]) rfl hr2 hM2 _ 6 rfl (by decide) (by decide) 2 1 rowOfAdd.1 rowOfAdd.2 (by simp) (by simp))).mono ?_
    intro v w' h
    exact stepWrong_end (p := millP) hm h
/-- push, halt. -/
theorem runHalt_spec {w : World} (hr : RowsAt w) (a : Option Addr) (c : Nat) (hs : SlIs w a 3 3 [.int .i64 1, .int .i64 0, .int .i64 0, .int .i64 35, .int .i64 0, .int .i64 0, .int .i64 6, .int .i64 0, .int .i64 0]) :
    Meets Tryz.prog 12 #[hostV, .slice a 3 c, .int .i64 10] w fun v w' => ∃ x, v = .tuple #[.int .i64 8, x] ∧ x = .nilIface ∧ Same w w' := by
  refine run_spec [⟨1, 0, 0⟩, ⟨35, 0, 0⟩, ⟨6, 0, 0⟩] a c hs (by decide) 10 2 (fun w8 bM la lc i w1 => ∃ sv, MillAt w1 bM la lc [⟨1, 0, 0⟩, ⟨35, 0, 0⟩, ⟨6, 0, 0⟩] i sv (if i = 0 then [] else [0]) (10 - i) (decide (i = 2)) ∧ Mod (fun k => k = bM ∨ w8.heap.size ≤ k) w8 w1 ∧ (∀ b, vblk sv b → w8.heap.size ≤ b)) ?_ ?_ _ 8 ?_
  · intro w8 bM la lc hw hb hM
    exact ⟨_, hM, Mod.refl _ _, fun b h => absurd h (nv_none b)⟩
  · rintro w8 bM la lc i w1 hw hb hi ⟨sv, hM, hm, hv⟩
    have hrM := hr.ne (w8 := w8) hb
    have hr1 := (hr.same hw).modNew hm hrM
    have fin : ∀ (v : Value) (w' : World) (st : List Int) (ov : Bool) (pl fu : Int), (v = .tuple #[.bool true, .nilIface] ∧ ∃ sv', MillAt w' bM la lc [⟨1, 0, 0⟩, ⟨35, 0, 0⟩, ⟨6, 0, 0⟩] pl sv' st fu ov ∧ Mod (fun k => k = bM ∨ vblk sv k) w1 w' ∧ (∀ b, vblk sv' b → vblk sv b ∨ w1.heap.size ≤ b)) →
        v = .tuple #[.bool true, .nilIface] ∧ ∃ sv', MillAt w' bM la lc [⟨1, 0, 0⟩, ⟨35, 0, 0⟩, ⟨6, 0, 0⟩] pl sv' st fu ov ∧ Mod (fun k => k = bM ∨ w8.heap.size ≤ k) w8 w' ∧ (∀ b, vblk sv' b → w8.heap.size ≤ b) := by
      rintro v w' st ov pl fu ⟨rfl, sv', hM', hm', hv'⟩
      refine ⟨rfl, sv', hM', hm.trans (hm'.mono fun k _ h => h.imp id (hv k)), fun b hb => ?_⟩
      rcases hv' b hb with h | h
      · exact hv b h
      · exact Nat.le_trans hm.size h
    have hi2 : i = 0 ∨ i = 1 := by omega
    rcases hi2 with rfl | rfl
    · exact (stepGood_spec hr1 (p := 0) hM hrM (by decide) 1 rfl (by decide) (by decide) (by decide) (by decide) (by decide) 0 1 rowOf1.1 rowOf1.2 (by simp) (by simp) (by simp) _ _ _ (fun w2 sv1 t hM1 _ => doPush_spec hM1 _ rfl t (by simp))).mono fun v w' h => fin v w' _ _ _ _ h
    · exact (stepGood_spec hr1 (p := 1) hM hrM (by decide) 35 rfl (by decide) (by decide) (by decide) (by decide) (by decide) 0 0 rowOfHalt.1 rowOfHalt.2 (by simp) (by simp) (by simp) _ _ _ (fun w2 sv1 t hM1 _ => doHalt_spec hM1 _ rfl t)).mono fun v w' h => fin v w' _ _ _ _ h
  · rintro w8 bM la lc w1 hw hb ⟨sv, hM, hm, hv⟩
    refine (stepOver_spec hM rfl).mono ?_
    rintro v w' ⟨rfl, h⟩
    exact ⟨⟨_, rfl, rfl⟩, hm.trans (Mod.of_same h), _, _, _, .inl (hM.same h)⟩
end Go.Proofs.YtkkgakhfeldokaaGreatDoor
end
section
namespace Go.Proofs.YtkkgakhfeldokaaGreatDoor
open Go Go.Ev
set_option linter.unusedVariables false
set_option linter.unusedSimpArgs false
set_option maxRecDepth 100000
attribute [local irreducible] kO kB kStr kInt kN kG kIf kfld kld kldN kst knew kmap kbld kbldS kext kcnv klenStr klen kcap kprt kprtN kbool kint kstr keq kun ksl kix kiv kta kmk kmm ksem ksemU kextf kcallV kcallM kcall kL

theorem ErrAt.same {S : Nat → Addr} {k : Nat} {x : Value} {w w' : World} (h : ErrAt S k x w) (hm : Same w w') : ErrAt S k x w' := by
  obtain ⟨bE, wh, rfl, hb⟩ := h
  exact ⟨bE, wh, rfl, hm.get hb (fun h => h)⟩
theorem isErrAt_spec {S : Nat → Addr} {k : Nat} {x : Value} {w : World} (h : ErrAt S k x w) : Meets Tryz.prog 17 #[x, errV S k] w fun v w' => v = .bool true ∧ w' = w := by
  obtain ⟨bE, wh, rfl, hb⟩ := h
  exact isAt_spec k hb
theorem awake17_spec {S : Nat → Addr} {w : World} (hL : LaidP millP S w) (hr : RowsAt w) : Meets Tryz.prog 5 #[] w fun v w' => v = .bool true ∧ Same w w' := by
  refine f5_ok ?_
  unfold f5
  refine kbld_of (cs := [.pointer none, .pointer none, .int .i64 0, .int .i64 0, .int .i64 0]) rfl ?_
  refine kbld_of (cs := (⟨1, 7, 0⟩ : IN).cells) rfl ?_
  refine kbld_of (cs := (⟨1, 2, 0⟩ : IN).cells) rfl ?_
  refine kbld_of (cs := (⟨7, 0, 0⟩ : IN).cells) rfl ?_
  refine kbldS_of (cs := (oneL 7 7 2).flatMap IN.cells) rfl fun w6 h6 hs6 hb6 => ?_
  refine kcall_of (new_spec (oneL 7 7 2) _ _ (SlIs.blk hb6 rfl) (by simp [oneL]) 10) ?_
  rintro v w8 ⟨bM, la, lc, rfl, hbM, h8, hM⟩
  have m8 := h6.trans h8
  have hr8 := hr.same m8
  have hrM : bM ≠ 18 := hr.ne (w8 := w8) (Nat.le_trans h6.size hbM)
  rw [keq_ptr_nil ptMill]
  repeat (first | refine kN_at ?_ | refine kB_at ?_ | refine kfld_of ?_ | refine kext_at rfl ?_ | refine kG_of (by first | exact rfl | omega) ?_ | refine klen_at ?_ | refine eql_at ?_ | refine neq_at ?_ | refine lss_at ?_ | refine leq_at ?_ | refine gtr_at ?_ | refine geq_at ?_ | refine add_at (by omega) (by omega) ?_ | refine sub_at (by omega) (by omega) ?_ | refine not_at ?_ | refine kO_at ?_ | refine kprt_at rfl ?_ | refine kprtN_at rfl ?_ | refine kcap_at ?_ | refine klenStr_at ?_ | refine kN_iat ?_ | refine kN_fat ?_ | refine kIf_T (by first | exact rfl | exact decT (by omega) | exact notT (decF (by omega))) ?_ | refine kIf_F (by first | exact rfl | exact decF (by omega) | exact notF (decT (by omega))) ?_)
  unfold f5_0
  refine kL1_of 3 (fun i x wr => OneInvA 7 7 2 w8 bM la lc x wr ∧ x = .int .i64 i) ⟨lI1_0 ⟨⟨0, _, by omega, rfl, hM, Mod.refl _ _, fun b hb => absurd hb (nv_none b)⟩, rfl⟩, fun x wr hx => ?_⟩
  obtain ⟨i, hi, ⟨hI, rfl⟩, hJ⟩ := lI1_step hx
  unfold f5_1
  refine lss_at ?_
  refine kB_at ?_
  refine kIf_dec (fun hlt => ?_) (fun hge => ?_)
  · have hlt : i < 3 := by omega
    unfold f5_2
    have hrr : RowsAt wr := by
      obtain ⟨j, sv, hj, e, hMi, hm, hv⟩ := hI
      exact hr8.modNew hm hrM
    refine kcall_of (oneStepA hrr hrM 7 (by decide) rfl (by unfold two; decide) i hlt hI) ?_
    rintro v w13 ⟨rfl, hI'⟩
    repeat (first | refine kN_at ?_ | refine kB_at ?_ | refine kfld_of ?_ | refine kext_at rfl ?_ | refine kG_of (by first | exact rfl | omega) ?_ | refine klen_at ?_ | refine eql_at ?_ | refine neq_at ?_ | refine lss_at ?_ | refine leq_at ?_ | refine gtr_at ?_ | refine geq_at ?_ | refine add_at (by omega) (by omega) ?_ | refine sub_at (by omega) (by omega) ?_ | refine not_at ?_ | refine kO_at ?_ | refine kprt_at rfl ?_ | refine kprtN_at rfl ?_ | refine kcap_at ?_ | refine klenStr_at ?_ | refine kN_iat ?_ | refine kN_fat ?_ | refine kIf_T (by first | exact rfl | exact decT (by omega) | exact notT (decF (by omega))) ?_ | refine kIf_F (by first | exact rfl | exact decF (by omega) | exact notF (decT (by omega))) ?_)
    rw [keq_nil_nil' ifErr]
    repeat (first | refine kN_at ?_ | refine kB_at ?_ | refine kfld_of ?_ | refine kext_at rfl ?_ | refine kG_of (by first | exact rfl | omega) ?_ | refine klen_at ?_ | refine eql_at ?_ | refine neq_at ?_ | refine lss_at ?_ | refine leq_at ?_ | refine gtr_at ?_ | refine geq_at ?_ | refine add_at (by omega) (by omega) ?_ | refine sub_at (by omega) (by omega) ?_ | refine not_at ?_ | refine kO_at ?_ | refine kprt_at rfl ?_ | refine kprtN_at rfl ?_ | refine kcap_at ?_ | refine klenStr_at ?_ | refine kN_iat ?_ | refine kN_fat ?_ | refine kIf_T (by first | exact rfl | exact decT (by omega) | exact notT (decF (by omega))) ?_ | refine kIf_F (by first | exact rfl | exact decF (by omega) | exact notF (decT (by omega))) ?_)
    rw [cast_succ]
    exact hJ _ _ hlt ⟨hI', rfl⟩
  · have : i = 3 := by omega
    subst this
    obtain ⟨j, sv, hj, e, hMi, hm, hv⟩ := hI
    have e : j = 3 := by
      have := congrArg RowKit.intOf e
      have this : ((3 : Nat) : Int) = (j : Int) := this
      omega
    subst e
    have mr : Same w wr := m8.trans' (hm.mono fun k _ h => .inr (by rcases h with h | h <;> have := h6.size <;> omega))
    clear hJ hx
    unfold f5_5
    refine kbld_of (cs := [.pointer none, .pointer none, .int .i64 0, .int .i64 0, .int .i64 0]) rfl ?_
    refine kbld_of (cs := (⟨20, 0, 0⟩ : IN).cells) rfl ?_
    refine kbldS_of (cs := [.int .i64 20, .int .i64 0, .int .i64 0]) rfl fun w25 h25 hs25 hb25 => ?_
    have m25 := mr.trans h25
    refine kcall_of (runJump_spec (hL.same m25) (hr.same m25) _ _ (SlIs.blk hb25 rfl)) ?_
    rintro v w27 ⟨x, rfl, hx, h27⟩
    have m27 := m25.trans h27
    repeat (first | refine kN_at ?_ | refine kB_at ?_ | refine kfld_of ?_ | refine kext_at rfl ?_ | refine kG_of (by first | exact rfl | omega) ?_ | refine klen_at ?_ | refine eql_at ?_ | refine neq_at ?_ | refine lss_at ?_ | refine leq_at ?_ | refine gtr_at ?_ | refine geq_at ?_ | refine add_at (by omega) (by omega) ?_ | refine sub_at (by omega) (by omega) ?_ | refine not_at ?_ | refine kO_at ?_ | refine kprt_at rfl ?_ | refine kprtN_at rfl ?_ | refine kcap_at ?_ | refine klenStr_at ?_ | refine kN_iat ?_ | refine kN_fat ?_ | refine kIf_T (by first | exact rfl | exact decT (by omega) | exact notT (decF (by omega))) ?_ | refine kIf_F (by first | exact rfl | exact decF (by omega) | exact notF (decT (by omega))) ?_)
    refine kbld_of (cs := [.pointer none, .pointer none, .int .i64 0, .int .i64 0, .int .i64 0]) rfl ?_
    refine kbld_of (cs := (⟨1, 0, 0⟩ : IN).cells) rfl ?_
    refine kbld_of (cs := (⟨35, 0, 0⟩ : IN).cells) rfl ?_
    refine kbld_of (cs := (⟨6, 0, 0⟩ : IN).cells) rfl ?_
    refine kbldS_of (cs := [.int .i64 1, .int .i64 0, .int .i64 0, .int .i64 35, .int .i64 0, .int .i64 0, .int .i64 6, .int .i64 0, .int .i64 0]) rfl fun w35 h35 hs35 hb35 => ?_
    have m35 := m27.trans h35
    refine kcall_of (runHalt_spec (hr.same m35) _ _ (SlIs.blk hb35 rfl)) ?_
    rintro v w37 ⟨y, rfl, rfl, h37⟩
    have m37 := m35.trans h37
    repeat (first | refine kN_at ?_ | refine kB_at ?_ | refine kfld_of ?_ | refine kext_at rfl ?_ | refine kG_of (by first | exact rfl | omega) ?_ | refine klen_at ?_ | refine eql_at ?_ | refine neq_at ?_ | refine lss_at ?_ | refine leq_at ?_ | refine gtr_at ?_ | refine geq_at ?_ | refine add_at (by omega) (by omega) ?_ | refine sub_at (by omega) (by omega) ?_ | refine not_at ?_ | refine kO_at ?_ | refine kprt_at rfl ?_ | refine kprtN_at rfl ?_ | refine kcap_at ?_ | refine klenStr_at ?_ | refine kN_iat ?_ | refine kN_fat ?_ | refine kIf_T (by first | exact rfl | exact decT (by omega) | exact notT (decF (by omega))) ?_ | refine kIf_F (by first | exact rfl | exact decF (by omega) | exact notF (decT (by omega))) ?_)
    refine kbld_of (cs := [.pointer none, .pointer none, .int .i64 0, .int .i64 0, .int .i64 0]) rfl ?_
    refine kbld_of (cs := (⟨6, 0, 0⟩ : IN).cells) rfl ?_
    refine kbldS_of (cs := [.int .i64 6, .int .i64 0, .int .i64 0]) rfl fun w43 h43 hs43 hb43 => ?_
    have m43 := m37.trans h43
    refine kcall_of (runAdd_spec (hL.same m43) (hr.same m43) _ _ (SlIs.blk hb43 rfl)) ?_
    rintro v w45 ⟨z, rfl, hz, h45⟩
    have m45 := m43.trans h45
    repeat (first | refine kN_at ?_ | refine kB_at ?_ | refine kfld_of ?_ | refine kext_at rfl ?_ | refine kG_of (by first | exact rfl | omega) ?_ | refine klen_at ?_ | refine eql_at ?_ | refine neq_at ?_ | refine lss_at ?_ | refine leq_at ?_ | refine gtr_at ?_ | refine geq_at ?_ | refine add_at (by omega) (by omega) ?_ | refine sub_at (by omega) (by omega) ?_ | refine not_at ?_ | refine kO_at ?_ | refine kprt_at rfl ?_ | refine kprtN_at rfl ?_ | refine kcap_at ?_ | refine klenStr_at ?_ | refine kN_iat ?_ | refine kN_fat ?_ | refine kIf_T (by first | exact rfl | exact decT (by omega) | exact notT (decF (by omega))) ?_ | refine kIf_F (by first | exact rfl | exact decF (by omega) | exact notF (decT (by omega))) ?_)
    have hr45 : Same wr w45 := h25.trans (h27.trans (h35.trans (h37.trans (h43.trans h45))))
    have hM45 := hMi.same hr45
    refine kcall_of (stack_spec hM45 (by simp [oneS])) ?_
    rintro v w49 ⟨ho, h49⟩
    obtain ⟨a, m, c, rfl, hsl, hm1⟩ := ho.is
    have hm1 : m = [calcF 7 7 2].length := by simpa [oneS] using hm1 rfl
    subst hm1
    refine kbldS_of (cs := [.int .i64 5]) rfl fun w51 h51 hs51 hb51 => ?_
    have hsl : SlIs w49 a [calcF 7 7 2].length 1 ([calcF 7 7 2].map nV) := hsl
    refine kcall_of (sameI_spec (l1 := [calcF 7 7 2]) (l2 := [5]) (hsl.same h51) (SlIs.blk hb51 rfl) (by simp)) ?_
    rintro v w53 ⟨rfl, h53⟩
    have h53' := (h49.trans h51).trans h53
    have m53 := m45.trans h53'
    have hM53 := hM45.same h53'
    rw [decide_eq_true (show [calcF 7 7 2] = [5] by decide)]
    repeat (first | refine kN_at ?_ | refine kB_at ?_ | refine kfld_of ?_ | refine kext_at rfl ?_ | refine kG_of (by first | exact rfl | omega) ?_ | refine klen_at ?_ | refine eql_at ?_ | refine neq_at ?_ | refine lss_at ?_ | refine leq_at ?_ | refine gtr_at ?_ | refine geq_at ?_ | refine add_at (by omega) (by omega) ?_ | refine sub_at (by omega) (by omega) ?_ | refine not_at ?_ | refine kO_at ?_ | refine kprt_at rfl ?_ | refine kprtN_at rfl ?_ | refine kcap_at ?_ | refine klenStr_at ?_ | refine kN_iat ?_ | refine kN_fat ?_ | refine kIf_T (by first | exact rfl | exact decT (by omega) | exact notT (decF (by omega))) ?_ | refine kIf_F (by first | exact rfl | exact decF (by omega) | exact notF (decT (by omega))) ?_)
    refine kcall_of (fuel_spec hM53) ?_
    rintro v w56 ⟨rfl, rfl⟩
    rw [show (10 : Int) - ((3 : Nat) : Int) = 7 by decide]
    repeat (first | refine kN_at ?_ | refine kB_at ?_ | refine kfld_of ?_ | refine kext_at rfl ?_ | refine kG_of (by first | exact rfl | omega) ?_ | refine klen_at ?_ | refine eql_at ?_ | refine neq_at ?_ | refine lss_at ?_ | refine leq_at ?_ | refine gtr_at ?_ | refine geq_at ?_ | refine add_at (by omega) (by omega) ?_ | refine sub_at (by omega) (by omega) ?_ | refine not_at ?_ | refine kO_at ?_ | refine kprt_at rfl ?_ | refine kprtN_at rfl ?_ | refine kcap_at ?_ | refine klenStr_at ?_ | refine kN_iat ?_ | refine kN_fat ?_ | refine kIf_T (by first | exact rfl | exact decT (by omega) | exact notT (decF (by omega))) ?_ | refine kIf_F (by first | exact rfl | exact decF (by omega) | exact notF (decT (by omega))) ?_)
    refine kcall_of (over_spec hM53) ?_
    rintro v w60 ⟨rfl, h60⟩
    rw [show (false || decide (((3 : Nat) : Int) = ((oneL 7 7 2).length : Int))) = true by simp [oneL]]
    have m60 := m53.trans h60
    repeat (first | refine kN_at ?_ | refine kB_at ?_ | refine kfld_of ?_ | refine kext_at rfl ?_ | refine kG_of (by first | exact rfl | omega) ?_ | refine klen_at ?_ | refine eql_at ?_ | refine neq_at ?_ | refine lss_at ?_ | refine leq_at ?_ | refine gtr_at ?_ | refine geq_at ?_ | refine add_at (by omega) (by omega) ?_ | refine sub_at (by omega) (by omega) ?_ | refine not_at ?_ | refine kO_at ?_ | refine kprt_at rfl ?_ | refine kprtN_at rfl ?_ | refine kcap_at ?_ | refine klenStr_at ?_ | refine kN_iat ?_ | refine kN_fat ?_ | refine kIf_T (by first | exact rfl | exact decT (by omega) | exact notT (decF (by omega))) ?_ | refine kIf_F (by first | exact rfl | exact decF (by omega) | exact notF (decT (by omega))) ?_)
    refine kld_err (hL.same m60) (k := 15) (by simp [millP]) rfl rfl ?_
    have hx60 : ErrAt S 15 x w60 := hx.same ((h35.trans (h37.trans (h43.trans h45))).trans (h53'.trans h60))
    refine kcall_of (isErrAt_spec hx60) ?_
    rintro v w66 ⟨rfl, rfl⟩
    repeat (first | refine kN_at ?_ | refine kB_at ?_ | refine kfld_of ?_ | refine kext_at rfl ?_ | refine kG_of (by first | exact rfl | omega) ?_ | refine klen_at ?_ | refine eql_at ?_ | refine neq_at ?_ | refine lss_at ?_ | refine leq_at ?_ | refine gtr_at ?_ | refine geq_at ?_ | refine add_at (by omega) (by omega) ?_ | refine sub_at (by omega) (by omega) ?_ | refine not_at ?_ | refine kO_at ?_ | refine kprt_at rfl ?_ | refine kprtN_at rfl ?_ | refine kcap_at ?_ | refine klenStr_at ?_ | refine kN_iat ?_ | refine kN_fat ?_ | refine kIf_T (by first | exact rfl | exact decT (by omega) | exact notT (decF (by omega))) ?_ | refine kIf_F (by first | exact rfl | exact decF (by omega) | exact notF (decT (by omega))) ?_)
    rw [keq_nil_nil ifErr]
    repeat (first | refine kN_at ?_ | refine kB_at ?_ | refine kfld_of ?_ | refine kext_at rfl ?_ | refine kG_of (by first | exact rfl | omega) ?_ | refine klen_at ?_ | refine eql_at ?_ | refine neq_at ?_ | refine lss_at ?_ | refine leq_at ?_ | refine gtr_at ?_ | refine geq_at ?_ | refine add_at (by omega) (by omega) ?_ | refine sub_at (by omega) (by omega) ?_ | refine not_at ?_ | refine kO_at ?_ | refine kprt_at rfl ?_ | refine kprtN_at rfl ?_ | refine kcap_at ?_ | refine klenStr_at ?_ | refine kN_iat ?_ | refine kN_fat ?_ | refine kIf_T (by first | exact rfl | exact decT (by omega) | exact notT (decF (by omega))) ?_ | refine kIf_F (by first | exact rfl | exact decF (by omega) | exact notF (decT (by omega))) ?_)
    refine kld_err (hL.same m60) (k := 12) (by simp [millP]) rfl rfl ?_
    have hz60 : ErrAt S 12 z w66 := hz.same (h53'.trans h60)
    refine kcall_of (isErrAt_spec hz60) ?_
    rintro v w75 ⟨rfl, rfl⟩
    exact ⟨rfl, m60⟩
theorem MillSums_spec {S : Nat → Addr} {w : World} (hL : LaidP millP S w) (hr : RowsAt w) (y x : Int) (hy : Sgn y) (hx : Sgn x) : Meets Tryz.prog 3 #[.int .i64 y, .int .i64 x] w fun v w' => v = .bool true ∧ Same w w' := by
  refine f3_ok ?_
  unfold f3
  refine kcall_of (awake17_spec hL hr) ?_
  rintro v w2 ⟨rfl, h2⟩
  repeat (first | refine kN_at ?_ | refine kB_at ?_ | refine kfld_of ?_ | refine kext_at rfl ?_ | refine kG_of (by first | exact rfl | omega) ?_ | refine klen_at ?_ | refine eql_at ?_ | refine neq_at ?_ | refine lss_at ?_ | refine leq_at ?_ | refine gtr_at ?_ | refine geq_at ?_ | refine add_at (by omega) (by omega) ?_ | refine sub_at (by omega) (by omega) ?_ | refine not_at ?_ | refine kO_at ?_ | refine kprt_at rfl ?_ | refine kprtN_at rfl ?_ | refine kcap_at ?_ | refine klenStr_at ?_ | refine kN_iat ?_ | refine kN_fat ?_ | refine kIf_T (by first | exact rfl | exact decT (by omega) | exact notT (decF (by omega))) ?_ | refine kIf_F (by first | exact rfl | exact decF (by omega) | exact notF (decT (by omega))) ?_)
  exact sums_spec h2 (hr.same h2) y x hy hx
end Go.Proofs.YtkkgakhfeldokaaGreatDoor
end
section
namespace Go.Proofs.YtkkgakhfeldokaaGreatDoor
open Go Go.Ev Go.RowKit Go.ChangeShapes
set_option linter.unusedVariables false
set_option maxRecDepth 100000

/-! ### What the laid condition tells, whatever else it lists -/
theorem own : ownKnob Tryz.prog.godebug = none := by kernel_rfl
theorem laidOut : laidOutB Tryz.prog = true := by kernel_rfl
theorem star : "*" ++ "errors.errorString" = "*errors.errorString" := by decide
theorem rowSen (u : TypeId) (h : Tryz.prog.typeName? 3 u = some "*errors.errorString") : u = 334 :=
  typeName_ptr_named (nm := "errors.errorString") (by rw [star]; kernel_rfl) (by kernel_rfl) (by decide) u (by rw [star]; exact h)
theorem cSen : Tryz.prog.cellsOf 360 = 1 := by kernel_rfl
theorem cStr : Tryz.prog.cellsOf 9 = 1 := by kernel_rfl
theorem c3 : Tryz.prog.cellsOf 3 = 1 := by kernel_rfl
theorem i64_wf {n : Int} (h : (Lit.int .i64 n).wf = true) : -9223372036854775808 ≤ n ∧ n ≤ 9223372036854775807 := by
  simp [Lit.wf, IntKind.min, IntKind.max, IntKind.signed, IntKind.bits] at h
  exact h
theorem u32_wf {n : Int} (h : (Lit.int .u32 n).wf = true) : 0 ≤ n ∧ n < 4294967296 := by
  simp [Lit.wf, IntKind.min, IntKind.max, IntKind.signed, IntKind.bits] at h
  omega
/-- The name and the text of a laid sentinel. -/
def sentOf : String × DataW Unit → String × List UInt8
  | (n, .iface _ (.ptr (.agg [.lit (.string s)]))) => (n, s)
  | (n, _) => (n, [])
def isSent : String × DataW Unit → Bool
  | (_, .iface _ (.ptr (.agg [.lit (.string _)]))) => true
  | _ => false
/-- The sentinels' variables, in the order of their numbers. -/
def errG : Nat → String
  | 1 => "pasodoble/api.ErrArg" | 2 => "pasodoble/api.ErrNil" | 3 => "pasodoble/api.ErrForm" | 4 => "pasodoble/api.ErrLong" | 5 => "pasodoble/api.ErrSum" | 6 => "pasodoble/api.ErrFull" | 7 => "pasodoble/api.ErrNone" | 8 => "pasodoble/api.ErrState" | 9 => "pasodoble/api.ErrTwice"
  | 10 => "pasodoble/api.ErrName" | 11 => "pasodoble/api.ErrCycle" | 12 => "pasodoble/api.ErrStack" | 13 => "pasodoble/api.ErrJump" | 14 => "pasodoble/api.ErrOp" | 15 => "pasodoble/api.ErrFuel" | 16 => "pasodoble/api.ErrRange" | 17 => "pasodoble/api.ErrDead" | _ => "pasodoble/api.ErrWord"
theorem errG_at (k : Nat) (h1 : 1 ≤ k) (h2 : k ≤ 18) : Tryz.prog.globalNamed (errG k) = some (gErr k) ∧ (Tryz.prog.globals[gErr k]?).map (·.type) = some 36 := by
  have hk : k = 1 ∨ k = 2 ∨ k = 3 ∨ k = 4 ∨ k = 5 ∨ k = 6 ∨ k = 7 ∨ k = 8 ∨ k = 9 ∨ k = 10 ∨ k = 11 ∨ k = 12 ∨ k = 13 ∨ k = 14 ∨ k = 15 ∨ k = 16 ∨ k = 17 ∨ k = 18 := by omega
  rcases hk with rfl | rfl | rfl | rfl | rfl | rfl | rfl | rfl | rfl | rfl | rfl | rfl | rfl | rfl | rfl | rfl | rfl | rfl <;>
    exact ⟨by kernel_rfl, by kernel_rfl⟩
theorem laidP_of {W : World} {L : List (String × DataW Unit)} (ks : List Nat) (sl : List (String × List UInt8)) (hpl : (L.all fun x => x.2.handleName?.isNone) = true) (hs : L.filter isSent = sl.map (sentD "*errors.errorString")) (hn : sl.map (·.1) = ks.map errG)
    (hk : ∀ k ∈ ks, 1 ≤ k ∧ k ≤ 18) (hnd : ks.Nodup) (h : laidMetH Tryz.prog L W) : ∃ S, LaidP (· ∈ ks) S W := by
  rw [MakeChecks.laidMetH_plain _ _ _ hpl] at h
  obtain ⟨ps, hv, hps, hrows⟩ := laidMet.filter isSent h
  rw [hs] at hv
  have hlen : sl.length = ks.length := by
    have := congrArg List.length hn
    simpa using this
  have hat : ∀ i (hi : i < ks.length), ∃ t, sl[i]? = some (errG ks[i], t) := by
    intro i hi
    have hi' : i < sl.length := by omega
    have e := congrArg (fun l : List String => l[i]?) hn
    simp only [List.getElem?_map, List.getElem?_eq_getElem hi, List.getElem?_eq_getElem hi', Option.map_some, Option.some.injEq] at e
    exact ⟨sl[i].2, by rw [List.getElem?_eq_getElem hi', ← e]⟩
  obtain ⟨zs, h1, h2, h3⟩ := sent_list Tryz.underlying36 rowSen Tryz.underlying334 Tryz.underlying360 rfl rfl Tryz.underlying9 cSen cStr sl ps hv
    (fun x hx => by
      obtain ⟨i, hi, rfl⟩ := List.mem_iff_getElem.1 hx
      obtain ⟨t, e1⟩ := hat i (by omega)
      rw [List.getElem?_eq_getElem hi, Option.some.injEq] at e1
      rw [e1]
      obtain ⟨k1, k2⟩ := hk _ (List.getElem_mem (show i < ks.length by omega))
      exact ⟨_, errG_at _ k1 k2⟩) hrows
  have key : ∀ k ∈ ks, ∃ i a, i < ks.length ∧ ks[i]? = some k ∧ ks.idxOf k = i ∧ zs[i]? = some a ∧ W.var? Tryz.prog (errG k) = some #[.iface 334 (.pointer (some a))] ∧ ∃ c t, W.heap[a.block]? = some (.cells c t (0, 0)) := by
    intro k hkm
    have hi : ks.idxOf k < ks.length := List.idxOf_lt_length_of_mem hkm
    obtain ⟨t, e1⟩ := hat _ hi
    rw [List.getElem_idxOf hi] at e1
    obtain ⟨a, s, g1, g2, _, _, _, g3⟩ := h3 _ _ e1
    exact ⟨_, a, hi, by rw [List.getElem?_eq_getElem hi, List.getElem_idxOf hi], rfl, g1, g2, g3⟩
  refine ⟨fun k => (zs[ks.idxOf k]?).getD ⟨0, 0, none⟩, ?_, ?_, ?_⟩
  · intro k hkm
    obtain ⟨i, a, hi, hik, e, g1, g2, _⟩ := key k hkm
    obtain ⟨k1, k2⟩ := hk k hkm
    obtain ⟨t, f, hb⟩ := blk_of_var (errG_at k k1 k2).1 g2
    refine ⟨_, t, f, hb, ?_⟩
    simp [errV, e, g1]
  · intro j k hj hkm hne
    obtain ⟨i, a, hi, hik, e, g1, _⟩ := key j hj
    obtain ⟨i', b, hi', hik', e', g1', _⟩ := key k hkm
    simp only [e, e', g1, g1', Option.getD_some]
    refine sent_ne h2 hps g1 g1' ?_
    rintro rfl
    rw [hik] at hik'
    exact hne (Option.some.inj hik')
  · intro k hkm
    obtain ⟨i, a, hi, hik, e, g1, _, c, t, g2⟩ := key k hkm
    simp only [e, g1, Option.getD_some]
    exact ⟨c, t, g2⟩
/-- A laid variable of the list. -/
theorem laidD_of {W : World} {L : List (String × DataW Unit)} (hpl : (L.all fun x => x.2.handleName?.isNone) = true) (keep : String × DataW Unit → Bool) (n : String) (d : DataW Unit) (hs : L.filter keep = [(n, d)]) (h : laidMetH Tryz.prog L W) :
    ∃ g t cs f p, Tryz.prog.globalNamed n = some g ∧ (Tryz.prog.globals[g]?).map (·.type) = some t ∧ W.var? Tryz.prog n = some cs ∧ DataW.trod (fun _ => ()) Tryz.prog W 0 (fun _ => true) false f t cs.toList = some (d, p) := by
  rw [MakeChecks.laidMetH_plain _ _ _ hpl] at h
  obtain ⟨ps, hv, _, _⟩ := laidMet.filter keep h
  rw [hs] at hv
  obtain ⟨g, t, cs, f, p, q, h1, h2, h3, h4, _⟩ := hv
  exact ⟨g, t, cs, f, p, h1, h2, h3, h4⟩
end Go.Proofs.YtkkgakhfeldokaaGreatDoor
end
section
namespace Go.Proofs.YtkkgakhfeldokaaGreatDoor
open Go Go.Ev Go.RowKit Go.ChangeShapes
set_option linter.unusedVariables false
set_option maxRecDepth 100000
namespace ML
def rowD (r : OpRow) : DataW Unit := .agg [.lit (.string r.1), .lit (.int .i64 r.2.1), .lit (.int .i64 r.2.2.1), .lit (.int .i64 r.2.2.2)]
theorem rows_lits : Rows.laid_pasodoble_code_rows (H := Unit) = .agg (opRows.map rowD) := by rfl
theorem cRow : Tryz.prog.cellsOf 125 = 4 := by kernel_rfl
theorem gRows : Tryz.prog.globalNamed "pasodoble/code.rows" = some 18 := by kernel_rfl
theorem tRows : (Tryz.prog.globals[18]?).map (·.type) = some 169 := by kernel_rfl
theorem cRows : Tryz.prog.cellsOf 169 = 144 := by kernel_rfl
theorem tx_of (s : ByteArray) : tx s.data.toList = s := by
  unfold tx; cases s; simp
theorem row_cells {W : World} {f : Nat} {cs : List Value} {r : OpRow} {p : List MemPlace} (h : DataW.trod (fun _ => ()) Tryz.prog W 0 (fun _ => true) false f 125 cs = some (rowD r, p)) : cs = rowC r := by
  obtain ⟨xs, m, _, hx, hl, hxl, hel⟩ := DataW.trod_struct Tryz.underlying125 h
  rw [cRow] at hl
  match cs, hl with
  | [a, b, c, d], _ =>
    have e0 := hel 0 _ rfl
    have e1 := hel 1 _ rfl
    have e2 := hel 2 _ rfl
    have e3 := hel 3 _ rfl
    simp only [List.getElem_toArray, List.getElem_cons_zero, List.getElem_cons_succ, cStr, c3] at e0 e1 e2 e3
    have hxl4 : xs.length = 4 := hxl
    match xs, hxl4 with
    | [x0, x1, x2, x3], _ =>
      obtain ⟨s, f0, g0, _⟩ := DataW.trod_string Tryz.underlying9 e0
      obtain ⟨i, f1, g1, _⟩ := DataW.trod_int Tryz.underlying3 e1
      obtain ⟨j, f2, g2, _⟩ := DataW.trod_int Tryz.underlying3 e2
      obtain ⟨k, f3, g3, _⟩ := DataW.trod_int Tryz.underlying3 e3
      simp at f0 f1 f2 f3
      subst g0 g1 g2 g3 f0 f1 f2 f3
      simp only [rowD, List.map_cons, List.map_nil, Prod.mk.injEq, DataW.agg.injEq, List.cons.injEq, DataW.lit.injEq, Lit.string.injEq, Lit.int.injEq, true_and, and_true] at hx
      obtain ⟨⟨h0, h1, h2, h3⟩, _⟩ := hx
      simp only [rowC, h0, h1, h2, h3, tx_of]
theorem rowsAt_of {W : World} (h : ∃ g t cs f p, Tryz.prog.globalNamed "pasodoble/code.rows" = some g ∧ (Tryz.prog.globals[g]?).map (·.type) = some t ∧ W.var? Tryz.prog "pasodoble/code.rows" = some cs ∧ DataW.trod (fun _ => ()) Tryz.prog W 0 (fun _ => true) false f t cs.toList = some (Rows.laid_pasodoble_code_rows, p)) : RowsAt W := by
  obtain ⟨g0, t0, cs0, f0, p0, hg0, ht0, hv0, hd0⟩ := h
  obtain rfl := Option.some.inj (gRows.symm.trans hg0)
  obtain rfl := Option.some.inj (tRows.symm.trans ht0)
  obtain ⟨xs, m, _, hx, hl, hxl, hel⟩ := DataW.trod_array Tryz.underlying169 hd0
  rw [cRows] at hl
  rw [rows_lits] at hx
  simp only [Prod.mk.injEq, DataW.agg.injEq] at hx
  obtain ⟨t, f, hb⟩ := blk_of_var gRows hv0
  refine ⟨t, f, ?_⟩
  rw [hb]
  congr 2
  apply Array.ext'
  show cs0.toList = opRows.flatMap rowC
  have hgr : ∀ i (hi : i < 36), (cs0.toList.drop (i * 4)).take 4 = rowC (opRows[i]'hi) := by
    intro i hi
    have h1 := hel i hi
    rw [cRow, List.getElem?_eq_getElem (show i < xs.length by omega)] at h1
    have h2 := congrArg (fun l : List (DataW Unit) => l[i]?) hx.1
    simp only [List.getElem?_map, List.getElem?_eq_getElem (show i < xs.length by omega), List.getElem?_eq_getElem (show i < opRows.length from hi), Option.map_some, Option.some.injEq] at h2
    exact row_cells (W := W) (p := (xs[i]'(by omega)).2) (f := m) (h1.trans (congrArg some (Prod.ext h2.symm rfl)))
  have hfl : (opRows.flatMap rowC).length = 144 := flat_len rowC 4 (fun _ => rfl) opRows
  apply List.ext_getElem?
  intro j
  by_cases hj : j < 144
  · have hq : j / 4 < 36 := by omega
    have e1 := congrArg (fun l : List Value => l[j % 4]?) (hgr (j / 4) hq)
    have e2 := flat_cell (F := rowC) (sz := 4) (fun _ => rfl) (l := opRows) (i := j / 4) (j := j % 4) hq (by omega)
    simp only [List.getElem?_take_of_lt (show j % 4 < 4 by omega), List.getElem?_drop] at e1
    rw [show j / 4 * 4 + j % 4 = j by omega] at e1 e2
    rw [e1, e2]
  · rw [List.getElem?_eq_none (by omega), List.getElem?_eq_none (by omega)]
theorem laid_of {W : World} (h : laidMetH Tryz.prog Rows.millSumsRow.laid W) : (∃ S, LaidP millP S W) ∧ RowsAt W :=
  ⟨laidP_of [1, 2, 6, 7, 8, 12, 13, 14, 15, 17] ((Rows.millSumsRow.laid.filter isSent).map sentOf) (by kernel_rfl) (by rfl) (by rfl) (by decide) (by decide) h,
    rowsAt_of (laidD_of (by kernel_rfl) (fun x => !isSent x) _ _ (by rfl) h)⟩
end ML
end Go.Proofs.YtkkgakhfeldokaaGreatDoor
end
