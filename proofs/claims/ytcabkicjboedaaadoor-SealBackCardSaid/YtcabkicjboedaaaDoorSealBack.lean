/-
SealBack returns true for every input and leaves its arguments as they were; and that is the given, tied card.
Conditions: the package variables that the row lists hold what the program's text lays (the card ties them to that text); nothing else is asked of the input.
-/
import Derived.Test.YtcabkicjboedaaaDoorSeal4
import Derived.DeepKeys
import Derived.Laws.StructEq
import Derived.Test.YtcabkicjboedaaaDoorChecked
import Derived.Test.YtcabkicjboedaaaDoorTie
import Derived.Test.YtcabkicjboedaaaDoorCards
import Derived.SevenTiedAt
section
namespace Go.Proofs.YtcabkicjboedaaaDoor
open Go Go.Ev Go.RowKit Go.ChangeShapes Go.WideShapes Go.ChangeAt
open Go.ChangeMaps (open_string shut_string)
set_option linter.unusedVariables false
set_option maxRecDepth 100000
namespace SC2
theorem i64_of {n : Int} (h : (Lit.int .i64 n).wf = true) : I64 n := by
  simp [Lit.wf, IntKind.min, IntKind.max, IntKind.signed, IntKind.bits] at h
  exact h
theorem c3 : Tryd.prog.cellsOf 3 = 1 := by kernel_rfl
theorem cArr4 : Tryd.prog.cellsOf 71 = 4 := by kernel_rfl
theorem cPart : Tryd.prog.cellsOf 73 = 6 := by kernel_rfl
theorem cBeing : Tryd.prog.cellsOf 85 = 2 := by kernel_rfl
theorem cState : Tryd.prog.cellsOf 55 = 5 := by kernel_rfl
theorem cSlP : Tryd.prog.cellsOf 31 = 1 := by kernel_rfl
theorem cSlB : Tryd.prog.cellsOf 52 = 1 := by kernel_rfl
theorem cSlI : Tryd.prog.cellsOf 53 = 1 := by kernel_rfl
/-- Four numbers, read. -/
theorem four_of {w : World} {n : Nat} {a b c d : Value} (h : Rd Tryd.prog w (n + 2) 71 [a, b, c, d]) : ∃ x y z u : Int, I64 x ∧ I64 y ∧ I64 z ∧ I64 u ∧ a = .int .i64 x ∧ b = .int .i64 y ∧ c = .int .i64 z ∧ d = .int .i64 u := by
  obtain ⟨_, h⟩ := rd_array Tryd.underlying71 h
  simp only [c3] at h
  obtain ⟨t0, f0, g0⟩ := rd_int Tryd.underlying3 (h 0 (by decide))
  obtain ⟨t1, f1, g1⟩ := rd_int Tryd.underlying3 (h 1 (by decide))
  obtain ⟨t2, f2, g2⟩ := rd_int Tryd.underlying3 (h 2 (by decide))
  obtain ⟨t3, f3, g3⟩ := rd_int Tryd.underlying3 (h 3 (by decide))
  simp at f0 f1 f2 f3
  exact ⟨t0, t1, t2, t3, i64_of g0, i64_of g1, i64_of g2, i64_of g3, f0, f1, f2, f3⟩
/-- A part, read. -/
theorem part_of {w : World} {n : Nat} {cs : List Value} (h : Rd Tryd.prog w (n + 3) 73 cs) : ∃ x : Part, x.ok ∧ x.cells = cs := by
  obtain ⟨hl, hf⟩ := rd_struct Tryd.underlying73 h
  rw [cPart] at hl
  match cs, hl with
  | [a, d0, d1, d2, d3, b], _ =>
    simp only [RdF] at hf
    obtain ⟨h0, h1, h2, _⟩ := hf
    simp only [c3, cArr4] at h0 h1 h2
    obtain ⟨s, e0, g0⟩ := rd_int Tryd.underlying3 h0
    obtain ⟨x0, x1, x2, x3, k0, k1, k2, k3, f0, f1, f2, f3⟩ := four_of h1
    obtain ⟨i, e1, g1⟩ := rd_int Tryd.underlying3 h2
    simp at e0 e1
    subst e0 e1 f0 f1 f2 f3
    exact ⟨⟨s, x0, x1, x2, x3, i⟩, ⟨i64_of g0, k0, k1, k2, k3, i64_of g1⟩, rfl⟩
/-- A being, read. -/
theorem being_of {w : World} {n : Nat} {cs : List Value} (h : Rd Tryd.prog w (n + 5) 85 cs) : ∃ x : BV, x.ok w ∧ x.cells = cs := by
  obtain ⟨hl, hf⟩ := rd_struct Tryd.underlying85 h
  rw [cBeing] at hl
  match cs, hl with
  | [a, b], _ =>
    simp only [RdF] at hf
    obtain ⟨h0, h1, _⟩ := hf
    simp only [c3, cSlP] at h0 h1
    obtain ⟨i, e0, g0⟩ := rd_int Tryd.underlying3 h0
    obtain ⟨pa, l, c, e1, hok, _, _, hsl⟩ := slIs_of_rd (F := Part.cells) (sz := 6) (fun _ => rfl) (by omega) Tryd.underlying31 cPart (fun ec h => part_of h) h1
    simp at e0 e1
    subst e0 e1
    exact ⟨⟨i, pa, c, l⟩, ⟨i64_of g0, hok, hsl⟩, rfl⟩
theorem flat_int : ∀ rl : List Int, rl.flatMap (fun z : Int => [intV z]) = rl.map intV
  | [] => rfl
  | x :: rl => by rw [List.flatMap_cons, flat_int rl]; rfl
/-- A state, read. -/
theorem state_of {w : World} {n : Nat} {cs : List Value} (h : Rd Tryd.prog w (n + 7) 55 cs) : ∃ s : SV, s.ok w ∧ s.cells = cs := by
  obtain ⟨hl, hf⟩ := rd_struct Tryd.underlying55 h
  rw [cState] at hl
  match cs, hl with
  | [a, b, c, d, e], _ =>
    simp only [RdF] at hf
    obtain ⟨h0, h1, h2, h3, h4, _⟩ := hf
    simp only [c3, cSlB, cSlI] at h0 h1 h2 h3 h4
    obtain ⟨i, e0, g0⟩ := rd_int Tryd.underlying3 h0
    obtain ⟨j, e1, g1⟩ := rd_int Tryd.underlying3 h1
    obtain ⟨k, e2, g2⟩ := rd_int Tryd.underlying3 h2
    obtain ⟨ba, bl, bc, e3, hbok, _, _, hbsl⟩ := slIs_of_rd (F := BV.cells) (sz := 2) (fun _ => rfl) (by omega) Tryd.underlying52 cBeing (fun ec h => being_of h) h3
    obtain ⟨ra, rl, rc, e4, hrok, _, _, hrsl⟩ := slIs_of_rd (F := fun z : Int => [intV z]) (sz := 1) (ok := I64) (fun _ => rfl) (by omega) Tryd.underlying53 c3 (fun ec h => by
      obtain ⟨z, e, g⟩ := rd_int Tryd.underlying3 h
      exact ⟨z, i64_of g, e.symm⟩) h4
    have hfm := flat_int rl
    rw [hfm] at hrsl
    simp at e0 e1 e2 e3 e4
    subst e0 e1 e2 e3 e4
    exact ⟨⟨i, j, k, ba, bc, bl, ra, rc, rl⟩, ⟨i64_of g0, i64_of g1, i64_of g2, hrok, hbok, hbsl, hrsl⟩, rfl⟩
theorem agg_of {v : Value} {cs1 cs2 : Array Value} (h : v = .agg cs1) (h2 : cs2.toList = v.cells.toList) : v = .agg cs2 := by
  subst h
  congr 1
  exact Array.ext' h2.symm
end SC2
end Go.Proofs.YtcabkicjboedaaaDoor
end
section
namespace Go.Proofs.YtcabkicjboedaaaDoor
open Go Go.Ev
set_option linter.unusedVariables false
set_option linter.unusedSimpArgs false
set_option maxRecDepth 100000

/-! ### Equality of states -/
deriving instance DecidableEq for Part
deriving instance DecidableEq for BM
deriving instance DecidableEq for SM
theorem wf_i64 {n : Int} (h : I64 n) : (Lit.int .i64 n).wf = true := by
  simp [Lit.wf, IntKind.min, IntKind.max, IntKind.signed, IntKind.bits]
  exact h
theorem cellsInt : Tryd.prog.cellsOf 3 = 1 := by kernel_rfl
theorem cellsArr : Tryd.prog.cellsOf 71 = 4 := by kernel_rfl
theorem cellsPart : Tryd.prog.cellsOf 73 = 6 := by kernel_rfl
theorem kl_int {n : Int} (h : I64 n) (d : Nat) : Tryd.prog.keyLits (d + 1) 3 [.int .i64 n] = some [.int .i64 n] := by
  unfold Program.keyLits
  simp only [Tryd.underlying3]
  rw [if_pos ⟨trivial, wf_i64 h⟩]
theorem kl_arr {a b c e : Int} (h1 : I64 a) (h2 : I64 b) (h3 : I64 c) (h4 : I64 e) (d : Nat) :
    Tryd.prog.keyLits (d + 2) 71 [.int .i64 a, .int .i64 b, .int .i64 c, .int .i64 e] = some [.int .i64 a, .int .i64 b, .int .i64 c, .int .i64 e] := by
  unfold Program.keyLits
  simp only [Tryd.underlying71, cellsInt, cellsArr]
  rw [if_pos (by rfl), show List.range 4 = [0, 1, 2, 3] from rfl]
  simp [kl_int h1, kl_int h2, kl_int h3, kl_int h4]
theorem kl_part {p : Part} (h : p.ok) (d : Nat) :
    Tryd.prog.keyLits (d + 3) 73 p.cells = some [.int .i64 p.comp, .int .i64 p.v0, .int .i64 p.v1, .int .i64 p.v2, .int .i64 p.v3, .int .i64 p.tick] := by
  obtain ⟨h1, h2, h3, h4, h5, h6⟩ := h
  unfold Program.keyLits
  simp only [Tryd.underlying73, cellsPart]
  rw [if_pos ⟨by rfl, by kernel_rfl⟩]
  simp [cellsInt, cellsArr, Part.cells, kl_int h1, kl_int h6, kl_arr h2 h3 h4 h5]
theorem keyPart : Tryd.prog.keyTypeAt 10 73 = true := by kernel_rfl
theorem guardPart : Tryd.prog.eqGuardType Tryd.prog.depth 73 = false := by kernel_rfl
theorem formPart (p : Part) : Value.formed Tryd.prog 73 (.agg p.cells.toArray) = true := by
  unfold Value.formed
  simp only [Tryd.underlying73, cellsPart]
  rfl
theorem keq_part {p q : Part} (hp : p.ok) (hq : q.ok) {w : World} {K : Value → World → Prop} {cx cy : Bool} :
    keq Tryd.prog .neq 73 cx cy (.agg p.cells.toArray) (.agg q.cells.toArray) w K = K (.bool (!decide (p = q))) w := by
  obtain ⟨r, hr, hiff⟩ := run_equalIn_deep (P := Tryd.prog) 9990 10 73 keyPart w 3 3 (.agg p.cells.toArray) (.agg q.cells.toArray) _ _ (formPart p) (formPart q) (kl_part hp 0) (kl_part hq 0)
  have hr2 : r = decide (p = q) := by
    rw [Bool.eq_iff_iff, hiff, decide_eq_true_eq]
    cases p; cases q
    simp
  rw [hr2] at hr
  simp only [keq, eqW, semV, Sem.run_bind, run_eqGuard_agg w .neq 73 _ _ p.cells.toArray q.cells.toArray guardPart, Result.andThen_ok, run_neq_struct]
  rw [show (10000 : Nat) = 9990 + 10 from rfl, hr]
  rfl

def EqInv (n : Nat) (r : Nat → Bool) (w : World) (x : Value) (wr : World) : Prop := ∃ i : Nat, i ≤ n ∧ x = .int .i64 i ∧ (∀ j, j < i → r j = true) ∧ Same w wr
/-- Whether two lists' images are the same, place by place. -/
def rr {α β γ : Type} [DecidableEq β] (F : α → β) (G : γ → β) (l1 : List α) (l2 : List γ) (i : Nat) : Bool := match l1[i]?, l2[i]? with
  | some a, some b => decide (F a = G b)
  | _, _ => true
theorem rr_at {α β γ : Type} [DecidableEq β] (F : α → β) (G : γ → β) (l1 : List α) (l2 : List γ) (i : Nat) (h1 : i < l1.length) (h2 : i < l2.length) : rr F G l1 l2 i = decide (F l1[i] = G l2[i]) := by
  unfold rr
  rw [List.getElem?_eq_getElem h1, List.getElem?_eq_getElem h2]
theorem rr_law {α β γ : Type} [DecidableEq β] (F : α → β) (G : γ → β) (l1 : List α) (l2 : List γ) : (decide (l1.length = l2.length) && (List.range l1.length).all (rr F G l1 l2)) = decide (l1.map F = l2.map G) := by
  rw [Bool.eq_iff_iff, Bool.and_eq_true, decide_eq_true_eq, decide_eq_true_eq, List.all_eq_true]
  constructor
  · rintro ⟨hl, hall⟩
    apply List.ext_getElem (by simp [hl])
    intro i h1 h2
    have h1 : i < l1.length := by simpa using h1
    have h2 : i < l2.length := by simpa using h2
    have := hall i (by simpa using h1)
    rw [rr_at F G l1 l2 i h1 h2] at this
    simpa using this
  · intro h
    have hl : l1.length = l2.length := by simpa using congrArg List.length h
    refine ⟨hl, fun i hi => ?_⟩
    have h1 : i < l1.length := by simpa using hi
    rw [rr_at F G l1 l2 i h1 (by omega), decide_eq_true_eq]
    have := List.getElem_of_eq h (i := i) (by simpa using h1)
    simpa using this

theorem eqParts_spec {w : World} (l1 l2 : List Part) (k1 : ∀ p ∈ l1, p.ok) (k2 : ∀ p ∈ l2, p.ok) (a1 a2 : Option Addr) (c1 c2 : Nat) (h1 : SlIs w a1 l1.length 6 (l1.flatMap Part.cells)) (h2 : SlIs w a2 l2.length 6 (l2.flatMap Part.cells)) (hn : l1.length ≤ 1073741824) :
    Meets Tryd.prog 57 #[.slice a1 l1.length c1, .slice a2 l2.length c2] w fun v w' => v = .bool (decide (l1 = l2)) ∧ Same w w' := by
  have law := rr_law (fun p : Part => p) (fun p : Part => p) l1 l2
  simp only [List.map_id'] at law
  rw [← law]
  clear law
  refine f57_ok ?_
  unfold f57
  rw [klen_slice, klen_slice, kint_neq, kB_bool]
  refine kIf_dec (fun hne => ?_) (fun heq => ?_)
  · exact ⟨by rw [decide_eq_false (by omega), Bool.false_and], Mod.refl _ _⟩
  have hl : l1.length = l2.length := by omega
  rw [decide_eq_true hl, Bool.true_and]
  unfold f57_0
  rw [klen_slice]
  refine kL_of (EqInv l1.length (rr (fun p : Part => p) (fun p : Part => p) l1 l2) w) (fun x _ => l1.length - (RowKit.intOf x).toNat) ⟨⟨0, by omega, rfl, by simp, Mod.refl _ _⟩, ?_⟩
  rintro x wr ⟨i, hi, rfl, hr, hm⟩
  unfold f57_1
  rw [kint_lss, kB_bool]
  refine kIf_dec (fun hlt => ?_) (fun hge => ?_)
  · have hlt : i < l1.length := by omega
    unfold f57_2
    refine kixldN_of (F := Part.cells) (fun _ => rfl) (by omega) (h1.same hm) hlt rfl ?_
    refine kG_of rfl ?_
    refine kixldN_of (F := Part.cells) (fun _ => rfl) (by omega) (h2.same hm) (show i < l2.length by omega) rfl ?_
    refine kG_of rfl ?_
    rw [keq_part (k1 _ (List.getElem_mem hlt)) (k2 _ (List.getElem_mem (by omega)))]
    refine kG_of rfl ?_
    have hr' := rr_at (fun p : Part => p) (fun p : Part => p) l1 l2 i hlt (by omega)
    rw [kB_bool]
    refine kIf_of (fun hb => ?_) (fun hb => ?_)
    · refine ⟨?_, hm.drew⟩
      congr 1
      symm
      rw [List.all_eq_false]
      exact ⟨i, by simpa using hlt, by rw [hr']; simpa using hb⟩
    · unfold f57_3
      rw [kint_add, i64_succ (by omega)]
      refine ⟨⟨i + 1, by omega, rfl, fun j hj => ?_, hm.drew⟩, by simp [RowKit.intOf]; omega⟩
      by_cases e : j = i
      · rw [e, hr']; simpa using hb
      · exact hr j (by omega)
  · have : i = l1.length := by omega
    subst this
    unfold f57_4
    refine ⟨?_, hm⟩
    congr 1
    symm
    rw [List.all_eq_true]
    intro j hj
    exact hr j (by simpa using hj)
theorem eqInts_spec {w : World} (l1 l2 : List Int) (a1 a2 : Option Addr) (c1 c2 : Nat) (h1 : SlIs w a1 l1.length 1 (l1.map intV)) (h2 : SlIs w a2 l2.length 1 (l2.map intV)) (hn : l1.length ≤ 1073741824) :
    Meets Tryd.prog 59 #[.slice a1 l1.length c1, .slice a2 l2.length c2] w fun v w' => v = .bool (decide (l1 = l2)) ∧ Same w w' := by
  have law := rr_law (fun p : Int => p) (fun p : Int => p) l1 l2
  simp only [List.map_id'] at law
  rw [← law]
  clear law
  refine f59_ok ?_
  unfold f59
  rw [klen_slice, klen_slice, kint_neq, kB_bool]
  refine kIf_dec (fun hne => ?_) (fun heq => ?_)
  · exact ⟨by rw [decide_eq_false (by omega), Bool.false_and], Mod.refl _ _⟩
  have hl : l1.length = l2.length := by omega
  rw [decide_eq_true hl, Bool.true_and]
  unfold f59_0
  rw [klen_slice]
  refine kL_of (EqInv l1.length (rr (fun p : Int => p) (fun p : Int => p) l1 l2) w) (fun x _ => l1.length - (RowKit.intOf x).toNat) ⟨⟨0, by omega, rfl, by simp, Mod.refl _ _⟩, ?_⟩
  rintro x wr ⟨i, hi, rfl, hr, hm⟩
  unfold f59_1
  rw [kint_lss, kB_bool]
  refine kIf_dec (fun hlt => ?_) (fun hge => ?_)
  · have hlt : i < l1.length := by omega
    unfold f59_2
    refine kixld_of (F := intV) (h1.same hm) hlt rfl ?_
    refine kG_of rfl ?_
    refine kixld_of (F := intV) (h2.same hm) (show i < l2.length by omega) rfl ?_
    refine kG_of rfl ?_
    rw [intV, intV, kint_neq]
    have hr' := rr_at (fun p : Int => p) (fun p : Int => p) l1 l2 i hlt (by omega)
    rw [kB_bool]
    refine kIf_dec (fun hb => ?_) (fun hb => ?_)
    · refine ⟨?_, hm.drew⟩
      congr 1
      symm
      rw [List.all_eq_false]
      exact ⟨i, by simpa using hlt, by rw [hr']; simpa using hb⟩
    · unfold f59_3
      rw [kint_add, i64_succ (by omega)]
      refine ⟨⟨i + 1, by omega, rfl, fun j hj => ?_, hm.drew⟩, by simp [RowKit.intOf]; omega⟩
      by_cases e : j = i
      · rw [e, hr']; simpa using hb
      · exact hr j (by omega)
  · have : i = l1.length := by omega
    subst this
    unfold f59_4
    refine ⟨?_, hm⟩
    congr 1
    symm
    rw [List.all_eq_true]
    intro j hj
    exact hr j (by simpa using hj)

/-! ### world.Same -/
theorem same1_spec {w : World} (x y : BV) (hx : x.ok w) (hy : y.ok w) (hn : x.parts.length ≤ 1073741824) :
    Meets Tryd.prog 56 #[.agg x.cells.toArray, .agg y.cells.toArray] w fun v w' => v = .bool (decide (x.m = y.m)) ∧ Same w w' := by
  have hdec : decide (x.m = y.m) = (decide (x.id = y.id) && decide (x.parts = y.parts)) := by
    rw [Bool.eq_iff_iff, Bool.and_eq_true, decide_eq_true_eq, decide_eq_true_eq, decide_eq_true_eq]
    unfold BV.m
    simp
  rw [hdec]
  refine f56_ok ?_
  unfold f56
  refine knew_of fun w2 h2 hs2 hb1 => ?_
  refine knew_of fun w4 h4 hs4 hb3 => ?_
  have hb1 := h4.get hb1 (fun h => h)
  have m4 := h2.trans h4
  refine kfld_of ?_
  refine kld_of (v := .int .i64 x.id) hb1 rfl ?_
  refine kfld_of ?_
  refine kld_of (v := .int .i64 y.id) hb3 rfl ?_
  rw [kint_eql, kB_bool]
  refine kIf_dec (fun e => ?_) (fun e => ?_)
  · rw [decide_eq_true e, Bool.true_and]
    refine kfld_of ?_
    refine kld_of (v := .slice x.pa x.parts.length x.pc) hb1 rfl ?_
    refine kfld_of ?_
    refine kld_of (v := .slice y.pa y.parts.length y.pc) hb3 rfl ?_
    refine kcall_of (eqParts_spec x.parts y.parts hx.2.1 hy.2.1 _ _ _ _ (hx.2.2.same m4) (hy.2.2.same m4) hn) ?_
    rintro v w' ⟨rfl, h'⟩
    exact ⟨rfl, m4.trans h'⟩
  · exact ⟨by rw [decide_eq_false e, Bool.false_and], m4⟩
/-- A state of no more than that many things. -/
def SV.few (s : SV) : Prop := s.bl.length ≤ 1073741824 ∧ s.rl.length ≤ 1073741824 ∧ ∀ b ∈ s.bl, b.parts.length ≤ 1073741824
theorem Same_spec {w : World} (s t : SV) (hs : s.ok w) (ht : t.ok w) (hf : s.few) :
    Meets Tryd.prog 23 #[s.val, t.val] w fun v w' => v = .bool (decide (s.m = t.m)) ∧ Same w w' := by
  obtain ⟨_, _, _, _, hsb, hsba, hsra⟩ := hs
  obtain ⟨_, _, _, _, htb, htba, htra⟩ := ht
  obtain ⟨f1, f2, f3⟩ := hf
  have hdec : decide (s.m = t.m) = (decide (s.frame = t.frame) && (decide (s.next = t.next) && (decide (s.seed = t.seed) && (decide (s.bl.map BV.m = t.bl.map BV.m) && decide (s.rl = t.rl))))) := by
    rw [Bool.eq_iff_iff]
    simp only [Bool.and_eq_true, decide_eq_true_eq]
    unfold SV.m
    simp
  rw [hdec]
  refine f23_ok ?_
  unfold f23
  refine knew_of fun w2 h2 hs2 hb1 => ?_
  refine knew_of fun w4 h4 hs4 hb3 => ?_
  have hb1 := h4.get hb1 (fun h => h)
  have m4 := h2.trans h4
  refine kfld_of ?_
  refine kld_of (v := .int .i64 s.frame) hb1 rfl ?_
  refine kfld_of ?_
  refine kld_of (v := .int .i64 t.frame) hb3 rfl ?_
  rw [kint_eql, kB_bool]
  refine kIf_dec (fun e => ?_) (fun e => ⟨by rw [decide_eq_false e, Bool.false_and], m4⟩)
  rw [decide_eq_true e, Bool.true_and]
  refine kfld_of ?_
  refine kld_of (v := .int .i64 s.next) hb1 rfl ?_
  refine kfld_of ?_
  refine kld_of (v := .int .i64 t.next) hb3 rfl ?_
  rw [kint_eql, kB_bool]
  refine kIf_dec (fun e => ?_) (fun e => ⟨by rw [decide_eq_false e, Bool.false_and], m4⟩)
  rw [decide_eq_true e, Bool.true_and]
  refine kfld_of ?_
  refine kld_of (v := .int .i64 s.seed) hb1 rfl ?_
  refine kfld_of ?_
  refine kld_of (v := .int .i64 t.seed) hb3 rfl ?_
  rw [kint_eql, kB_bool]
  refine kIf_dec (fun e => ?_) (fun e => ⟨by rw [decide_eq_false e, Bool.false_and], m4⟩)
  rw [decide_eq_true e, Bool.true_and]
  refine kfld_of ?_
  refine kld_of (v := .slice s.ba s.bl.length s.bc) hb1 rfl ?_
  refine kfld_of ?_
  refine kld_of (v := .slice t.ba t.bl.length t.bc) hb3 rfl ?_
  refine kcall_of (EqualFunc_spec s.bl t.bl _ _ _ _ (hsba.same m4) (htba.same m4) f1 56 (rr BV.m BV.m s.bl t.bl) fun i i1 i2 w' hw' => ?_) ?_
  · rw [rr_at BV.m BV.m s.bl t.bl i i1 i2]
    exact same1_spec _ _ ((hsb _ (List.getElem_mem i1)).same (m4.trans hw')) ((htb _ (List.getElem_mem i2)).same (m4.trans hw')) (f3 _ (List.getElem_mem i1))
  rintro v w28 ⟨rfl, h28⟩
  rw [rr_law, kB_bool]
  have m28 := m4.trans h28
  refine kIf_of (fun e => ?_) (fun e => ⟨by rw [e, Bool.false_and], m28⟩)
  rw [e, Bool.true_and]
  have hb1 := h28.get hb1 (fun h => h)
  have hb3 := h28.get hb3 (fun h => h)
  refine kfld_of ?_
  refine kld_of (v := .slice s.ra s.rl.length s.rc) hb1 rfl ?_
  refine kfld_of ?_
  refine kld_of (v := .slice t.ra t.rl.length t.rc) hb3 rfl ?_
  refine kcall_of (eqInts_spec s.rl t.rl _ _ _ _ (hsra.same m28) (htra.same m28) f2) ?_
  rintro v w' ⟨rfl, h'⟩
  exact ⟨rfl, m28.trans h'⟩
end Go.Proofs.YtcabkicjboedaaaDoor
end
section
namespace Go.Proofs.YtcabkicjboedaaaDoor
open Go Go.Ev
set_option linter.unusedVariables false
set_option maxRecDepth 100000

/-! internal/strconv.numDigits -/
def f110 (x0 : Value) (Q : Value → World → Prop) (w : World) : Prop :=
  kcall Tryd.prog 114 #[x0] w fun v1 w2 =>
  kcall Tryd.prog 113 #[v1] w2 fun v3 w4 =>
  kix (some (.array 20 68)) (some 1) (.pointer (some ⟨20, 0, none⟩)) v3 fun v5 =>
  kld v5 w4 fun v6 =>
  kint .u64 .geq x0 v6 fun v7 =>
  kcall Tryd.prog 115 #[v7] w4 fun v8 w9 =>
  kint .i64 .add v3 v8 fun v10 =>
  Q v10 w9

theorem f110_eq (x0 : Value) (Q : Value → World → Prop) (w : World) : f110 x0 Q w = fnVC Tryd.prog Tryd.f110 [] (Tryd.f110.body.get rfl) [x0] w Q := by kernel_rfl
theorem f110_ok {x0 : Value} {Q : Value → World → Prop} {w : World} (h : f110 x0 Q w) : Meets Tryd.prog 110 #[x0] w Q :=
  sound (c := (Tryd.f110.body.get rfl)) [] Tryd.func110 rfl rfl (args := [x0]) rfl (Eq.mp (f110_eq x0 Q w) h)

/-! internal/strconv.formatBase10 -/
def f111_1 (x0 : Value) (x1 : Value) (x4 : Value) (J1 : Value → Value → World → Prop) (Q : Value → World → Prop) (w : World) : Prop :=
  kint .u64 .rem x1 (.int .u64 100000000) fun v4 =>
  kcnv .u32 v4 fun v5 =>
  kint .u64 .quo x1 (.int .u64 100000000) fun v6 =>
  kint .u32 .quo v5 (.int .u32 10000) fun v7 =>
  kint .u32 .rem v5 (.int .u32 10000) fun v8 =>
  kint .u32 .quo v8 (.int .u32 100) fun v9 =>
  kint .u32 .mul v9 (.int .u32 2) fun v10 =>
  kint .u32 .rem v8 (.int .u32 100) fun v11 =>
  kint .u32 .mul v11 (.int .u32 2) fun v12 =>
  kint .u32 .quo v7 (.int .u32 100) fun v13 =>
  kint .u32 .mul v13 (.int .u32 2) fun v14 =>
  kint .u32 .rem v7 (.int .u32 100) fun v15 =>
  kint .u32 .mul v15 (.int .u32 2) fun v16 =>
  kint .i64 .sub x4 (.int .i64 1) fun v17 =>
  kint .i64 .sub x4 (.int .i64 2) fun v18 =>
  kint .u32 .add v12 (.int .u32 1) fun v19 =>
  kiv Tryd.prog (some .string) (.string ⟨#[48, 48, 48, 49, 48, 50, 48, 51, 48, 52, 48, 53, 48, 54, 48, 55, 48, 56, 48, 57, 49, 48, 49, 49, 49, 50, 49, 51, 49, 52, 49, 53, 49, 54, 49, 55, 49, 56, 49, 57, 50, 48, 50, 49, 50, 50, 50, 51, 50, 52, 50, 53, 50, 54, 50, 55, 50, 56, 50, 57, 51, 48, 51, 49, 51, 50, 51, 51, 51, 52, 51, 53, 51, 54, 51, 55, 51, 56, 51, 57, 52, 48, 52, 49, 52, 50, 52, 51, 52, 52, 52, 53, 52, 54, 52, 55, 52, 56, 52, 57, 53, 48, 53, 49, 53, 50, 53, 51, 53, 52, 53, 53, 53, 54, 53, 55, 53, 56, 53, 57, 54, 48, 54, 49, 54, 50, 54, 51, 54, 52, 54, 53, 54, 54, 54, 55, 54, 56, 54, 57, 55, 48, 55, 49, 55, 50, 55, 51, 55, 52, 55, 53, 55, 54, 55, 55, 55, 56, 55, 57, 56, 48, 56, 49, 56, 50, 56, 51, 56, 52, 56, 53, 56, 54, 56, 55, 56, 56, 56, 57, 57, 48, 57, 49, 57, 50, 57, 51, 57, 52, 57, 53, 57, 54, 57, 55, 57, 56, 57, 57]⟩) v19 fun v20 =>
  kiv Tryd.prog (some .string) (.string ⟨#[48, 48, 48, 49, 48, 50, 48, 51, 48, 52, 48, 53, 48, 54, 48, 55, 48, 56, 48, 57, 49, 48, 49, 49, 49, 50, 49, 51, 49, 52, 49, 53, 49, 54, 49, 55, 49, 56, 49, 57, 50, 48, 50, 49, 50, 50, 50, 51, 50, 52, 50, 53, 50, 54, 50, 55, 50, 56, 50, 57, 51, 48, 51, 49, 51, 50, 51, 51, 51, 52, 51, 53, 51, 54, 51, 55, 51, 56, 51, 57, 52, 48, 52, 49, 52, 50, 52, 51, 52, 52, 52, 53, 52, 54, 52, 55, 52, 56, 52, 57, 53, 48, 53, 49, 53, 50, 53, 51, 53, 52, 53, 53, 53, 54, 53, 55, 53, 56, 53, 57, 54, 48, 54, 49, 54, 50, 54, 51, 54, 52, 54, 53, 54, 54, 54, 55, 54, 56, 54, 57, 55, 48, 55, 49, 55, 50, 55, 51, 55, 52, 55, 53, 55, 54, 55, 55, 55, 56, 55, 57, 56, 48, 56, 49, 56, 50, 56, 51, 56, 52, 56, 53, 56, 54, 56, 55, 56, 56, 56, 57, 57, 48, 57, 49, 57, 50, 57, 51, 57, 52, 57, 53, 57, 54, 57, 55, 57, 56, 57, 57]⟩) v12 fun v21 =>
  kix (some (.slice 5)) (some 1) x0 v17 fun v22 =>
  kst 1 v22 v20 w.drew fun w23 =>
  kix (some (.slice 5)) (some 1) x0 v18 fun v24 =>
  kst 1 v24 v21 w23 fun w25 =>
  kint .i64 .sub x4 (.int .i64 3) fun v26 =>
  kint .i64 .sub x4 (.int .i64 4) fun v27 =>
  kint .u32 .add v10 (.int .u32 1) fun v28 =>
  kiv Tryd.prog (some .string) (.string ⟨#[48, 48, 48, 49, 48, 50, 48, 51, 48, 52, 48, 53, 48, 54, 48, 55, 48, 56, 48, 57, 49, 48, 49, 49, 49, 50, 49, 51, 49, 52, 49, 53, 49, 54, 49, 55, 49, 56, 49, 57, 50, 48, 50, 49, 50, 50, 50, 51, 50, 52, 50, 53, 50, 54, 50, 55, 50, 56, 50, 57, 51, 48, 51, 49, 51, 50, 51, 51, 51, 52, 51, 53, 51, 54, 51, 55, 51, 56, 51, 57, 52, 48, 52, 49, 52, 50, 52, 51, 52, 52, 52, 53, 52, 54, 52, 55, 52, 56, 52, 57, 53, 48, 53, 49, 53, 50, 53, 51, 53, 52, 53, 53, 53, 54, 53, 55, 53, 56, 53, 57, 54, 48, 54, 49, 54, 50, 54, 51, 54, 52, 54, 53, 54, 54, 54, 55, 54, 56, 54, 57, 55, 48, 55, 49, 55, 50, 55, 51, 55, 52, 55, 53, 55, 54, 55, 55, 55, 56, 55, 57, 56, 48, 56, 49, 56, 50, 56, 51, 56, 52, 56, 53, 56, 54, 56, 55, 56, 56, 56, 57, 57, 48, 57, 49, 57, 50, 57, 51, 57, 52, 57, 53, 57, 54, 57, 55, 57, 56, 57, 57]⟩) v28 fun v29 =>
  kiv Tryd.prog (some .string) (.string ⟨#[48, 48, 48, 49, 48, 50, 48, 51, 48, 52, 48, 53, 48, 54, 48, 55, 48, 56, 48, 57, 49, 48, 49, 49, 49, 50, 49, 51, 49, 52, 49, 53, 49, 54, 49, 55, 49, 56, 49, 57, 50, 48, 50, 49, 50, 50, 50, 51, 50, 52, 50, 53, 50, 54, 50, 55, 50, 56, 50, 57, 51, 48, 51, 49, 51, 50, 51, 51, 51, 52, 51, 53, 51, 54, 51, 55, 51, 56, 51, 57, 52, 48, 52, 49, 52, 50, 52, 51, 52, 52, 52, 53, 52, 54, 52, 55, 52, 56, 52, 57, 53, 48, 53, 49, 53, 50, 53, 51, 53, 52, 53, 53, 53, 54, 53, 55, 53, 56, 53, 57, 54, 48, 54, 49, 54, 50, 54, 51, 54, 52, 54, 53, 54, 54, 54, 55, 54, 56, 54, 57, 55, 48, 55, 49, 55, 50, 55, 51, 55, 52, 55, 53, 55, 54, 55, 55, 55, 56, 55, 57, 56, 48, 56, 49, 56, 50, 56, 51, 56, 52, 56, 53, 56, 54, 56, 55, 56, 56, 56, 57, 57, 48, 57, 49, 57, 50, 57, 51, 57, 52, 57, 53, 57, 54, 57, 55, 57, 56, 57, 57]⟩) v10 fun v30 =>
  kix (some (.slice 5)) (some 1) x0 v26 fun v31 =>
  kst 1 v31 v29 w25.drew fun w32 =>
  kix (some (.slice 5)) (some 1) x0 v27 fun v33 =>
  kst 1 v33 v30 w32 fun w34 =>
  kint .i64 .sub x4 (.int .i64 5) fun v35 =>
  kint .i64 .sub x4 (.int .i64 6) fun v36 =>
  kint .u32 .add v16 (.int .u32 1) fun v37 =>
  kiv Tryd.prog (some .string) (.string ⟨#[48, 48, 48, 49, 48, 50, 48, 51, 48, 52, 48, 53, 48, 54, 48, 55, 48, 56, 48, 57, 49, 48, 49, 49, 49, 50, 49, 51, 49, 52, 49, 53, 49, 54, 49, 55, 49, 56, 49, 57, 50, 48, 50, 49, 50, 50, 50, 51, 50, 52, 50, 53, 50, 54, 50, 55, 50, 56, 50, 57, 51, 48, 51, 49, 51, 50, 51, 51, 51, 52, 51, 53, 51, 54, 51, 55, 51, 56, 51, 57, 52, 48, 52, 49, 52, 50, 52, 51, 52, 52, 52, 53, 52, 54, 52, 55, 52, 56, 52, 57, 53, 48, 53, 49, 53, 50, 53, 51, 53, 52, 53, 53, 53, 54, 53, 55, 53, 56, 53, 57, 54, 48, 54, 49, 54, 50, 54, 51, 54, 52, 54, 53, 54, 54, 54, 55, 54, 56, 54, 57, 55, 48, 55, 49, 55, 50, 55, 51, 55, 52, 55, 53, 55, 54, 55, 55, 55, 56, 55, 57, 56, 48, 56, 49, 56, 50, 56, 51, 56, 52, 56, 53, 56, 54, 56, 55, 56, 56, 56, 57, 57, 48, 57, 49, 57, 50, 57, 51, 57, 52, 57, 53, 57, 54, 57, 55, 57, 56, 57, 57]⟩) v37 fun v38 =>
  kiv Tryd.prog (some .string) (.string ⟨#[48, 48, 48, 49, 48, 50, 48, 51, 48, 52, 48, 53, 48, 54, 48, 55, 48, 56, 48, 57, 49, 48, 49, 49, 49, 50, 49, 51, 49, 52, 49, 53, 49, 54, 49, 55, 49, 56, 49, 57, 50, 48, 50, 49, 50, 50, 50, 51, 50, 52, 50, 53, 50, 54, 50, 55, 50, 56, 50, 57, 51, 48, 51, 49, 51, 50, 51, 51, 51, 52, 51, 53, 51, 54, 51, 55, 51, 56, 51, 57, 52, 48, 52, 49, 52, 50, 52, 51, 52, 52, 52, 53, 52, 54, 52, 55, 52, 56, 52, 57, 53, 48, 53, 49, 53, 50, 53, 51, 53, 52, 53, 53, 53, 54, 53, 55, 53, 56, 53, 57, 54, 48, 54, 49, 54, 50, 54, 51, 54, 52, 54, 53, 54, 54, 54, 55, 54, 56, 54, 57, 55, 48, 55, 49, 55, 50, 55, 51, 55, 52, 55, 53, 55, 54, 55, 55, 55, 56, 55, 57, 56, 48, 56, 49, 56, 50, 56, 51, 56, 52, 56, 53, 56, 54, 56, 55, 56, 56, 56, 57, 57, 48, 57, 49, 57, 50, 57, 51, 57, 52, 57, 53, 57, 54, 57, 55, 57, 56, 57, 57]⟩) v16 fun v39 =>
  kix (some (.slice 5)) (some 1) x0 v35 fun v40 =>
  kst 1 v40 v38 w34.drew fun w41 =>
  kix (some (.slice 5)) (some 1) x0 v36 fun v42 =>
  kst 1 v42 v39 w41 fun w43 =>
  kint .i64 .sub x4 (.int .i64 7) fun v44 =>
  kint .i64 .sub x4 (.int .i64 8) fun v45 =>
  kint .u32 .add v14 (.int .u32 1) fun v46 =>
  kiv Tryd.prog (some .string) (.string ⟨#[48, 48, 48, 49, 48, 50, 48, 51, 48, 52, 48, 53, 48, 54, 48, 55, 48, 56, 48, 57, 49, 48, 49, 49, 49, 50, 49, 51, 49, 52, 49, 53, 49, 54, 49, 55, 49, 56, 49, 57, 50, 48, 50, 49, 50, 50, 50, 51, 50, 52, 50, 53, 50, 54, 50, 55, 50, 56, 50, 57, 51, 48, 51, 49, 51, 50, 51, 51, 51, 52, 51, 53, 51, 54, 51, 55, 51, 56, 51, 57, 52, 48, 52, 49, 52, 50, 52, 51, 52, 52, 52, 53, 52, 54, 52, 55, 52, 56, 52, 57, 53, 48, 53, 49, 53, 50, 53, 51, 53, 52, 53, 53, 53, 54, 53, 55, 53, 56, 53, 57, 54, 48, 54, 49, 54, 50, 54, 51, 54, 52, 54, 53, 54, 54, 54, 55, 54, 56, 54, 57, 55, 48, 55, 49, 55, 50, 55, 51, 55, 52, 55, 53, 55, 54, 55, 55, 55, 56, 55, 57, 56, 48, 56, 49, 56, 50, 56, 51, 56, 52, 56, 53, 56, 54, 56, 55, 56, 56, 56, 57, 57, 48, 57, 49, 57, 50, 57, 51, 57, 52, 57, 53, 57, 54, 57, 55, 57, 56, 57, 57]⟩) v46 fun v47 =>
  kiv Tryd.prog (some .string) (.string ⟨#[48, 48, 48, 49, 48, 50, 48, 51, 48, 52, 48, 53, 48, 54, 48, 55, 48, 56, 48, 57, 49, 48, 49, 49, 49, 50, 49, 51, 49, 52, 49, 53, 49, 54, 49, 55, 49, 56, 49, 57, 50, 48, 50, 49, 50, 50, 50, 51, 50, 52, 50, 53, 50, 54, 50, 55, 50, 56, 50, 57, 51, 48, 51, 49, 51, 50, 51, 51, 51, 52, 51, 53, 51, 54, 51, 55, 51, 56, 51, 57, 52, 48, 52, 49, 52, 50, 52, 51, 52, 52, 52, 53, 52, 54, 52, 55, 52, 56, 52, 57, 53, 48, 53, 49, 53, 50, 53, 51, 53, 52, 53, 53, 53, 54, 53, 55, 53, 56, 53, 57, 54, 48, 54, 49, 54, 50, 54, 51, 54, 52, 54, 53, 54, 54, 54, 55, 54, 56, 54, 57, 55, 48, 55, 49, 55, 50, 55, 51, 55, 52, 55, 53, 55, 54, 55, 55, 55, 56, 55, 57, 56, 48, 56, 49, 56, 50, 56, 51, 56, 52, 56, 53, 56, 54, 56, 55, 56, 56, 56, 57, 57, 48, 57, 49, 57, 50, 57, 51, 57, 52, 57, 53, 57, 54, 57, 55, 57, 56, 57, 57]⟩) v14 fun v48 =>
  kix (some (.slice 5)) (some 1) x0 v44 fun v49 =>
  kst 1 v49 v47 w43.drew fun w50 =>
  kix (some (.slice 5)) (some 1) x0 v45 fun v51 =>
  kst 1 v51 v48 w50 fun w52 =>
  kint .i64 .sub x4 (.int .i64 8) fun v53 =>
  J1 v6 v53 w52

def f111_4 (x0 : Value) (x4 : Value) (x12 : Value) (Q : Value → World → Prop) (w : World) : Prop :=
  kint .i64 .gtr x4 (.int .i64 0) fun v95 =>
  kB v95 fun b100 => kIf b100
  (kint .u32 .add (.int .u32 48) x12 fun v96 =>
  kcnv .u8 v96 fun v97 =>
  kix (some (.slice 5)) (some 1) x0 (.int .i64 0) fun v98 =>
  kst 1 v98 v97 w fun w99 =>
  Q (.tuple #[]) w99)
  (Q (.tuple #[]) w)

def f111_3 (x0 : Value) (x4 : Value) (x12 : Value) (Q : Value → World → Prop) (w : World) : Prop :=
  kint .i64 .geq x4 (.int .i64 2) fun v81 =>
  kB v81 fun b101 => kIf b101
  (kint .u32 .rem x12 (.int .u32 100) fun v82 =>
  kint .u32 .mul v82 (.int .u32 2) fun v83 =>
  kint .u32 .quo x12 (.int .u32 100) fun v84 =>
  kint .i64 .sub x4 (.int .i64 1) fun v85 =>
  kint .i64 .sub x4 (.int .i64 2) fun v86 =>
  kint .u32 .add v83 (.int .u32 1) fun v87 =>
  kiv Tryd.prog (some .string) (.string ⟨#[48, 48, 48, 49, 48, 50, 48, 51, 48, 52, 48, 53, 48, 54, 48, 55, 48, 56, 48, 57, 49, 48, 49, 49, 49, 50, 49, 51, 49, 52, 49, 53, 49, 54, 49, 55, 49, 56, 49, 57, 50, 48, 50, 49, 50, 50, 50, 51, 50, 52, 50, 53, 50, 54, 50, 55, 50, 56, 50, 57, 51, 48, 51, 49, 51, 50, 51, 51, 51, 52, 51, 53, 51, 54, 51, 55, 51, 56, 51, 57, 52, 48, 52, 49, 52, 50, 52, 51, 52, 52, 52, 53, 52, 54, 52, 55, 52, 56, 52, 57, 53, 48, 53, 49, 53, 50, 53, 51, 53, 52, 53, 53, 53, 54, 53, 55, 53, 56, 53, 57, 54, 48, 54, 49, 54, 50, 54, 51, 54, 52, 54, 53, 54, 54, 54, 55, 54, 56, 54, 57, 55, 48, 55, 49, 55, 50, 55, 51, 55, 52, 55, 53, 55, 54, 55, 55, 55, 56, 55, 57, 56, 48, 56, 49, 56, 50, 56, 51, 56, 52, 56, 53, 56, 54, 56, 55, 56, 56, 56, 57, 57, 48, 57, 49, 57, 50, 57, 51, 57, 52, 57, 53, 57, 54, 57, 55, 57, 56, 57, 57]⟩) v87 fun v88 =>
  kiv Tryd.prog (some .string) (.string ⟨#[48, 48, 48, 49, 48, 50, 48, 51, 48, 52, 48, 53, 48, 54, 48, 55, 48, 56, 48, 57, 49, 48, 49, 49, 49, 50, 49, 51, 49, 52, 49, 53, 49, 54, 49, 55, 49, 56, 49, 57, 50, 48, 50, 49, 50, 50, 50, 51, 50, 52, 50, 53, 50, 54, 50, 55, 50, 56, 50, 57, 51, 48, 51, 49, 51, 50, 51, 51, 51, 52, 51, 53, 51, 54, 51, 55, 51, 56, 51, 57, 52, 48, 52, 49, 52, 50, 52, 51, 52, 52, 52, 53, 52, 54, 52, 55, 52, 56, 52, 57, 53, 48, 53, 49, 53, 50, 53, 51, 53, 52, 53, 53, 53, 54, 53, 55, 53, 56, 53, 57, 54, 48, 54, 49, 54, 50, 54, 51, 54, 52, 54, 53, 54, 54, 54, 55, 54, 56, 54, 57, 55, 48, 55, 49, 55, 50, 55, 51, 55, 52, 55, 53, 55, 54, 55, 55, 55, 56, 55, 57, 56, 48, 56, 49, 56, 50, 56, 51, 56, 52, 56, 53, 56, 54, 56, 55, 56, 56, 56, 57, 57, 48, 57, 49, 57, 50, 57, 51, 57, 52, 57, 53, 57, 54, 57, 55, 57, 56, 57, 57]⟩) v83 fun v89 =>
  kix (some (.slice 5)) (some 1) x0 v85 fun v90 =>
  kst 1 v90 v88 w.drew fun w91 =>
  kix (some (.slice 5)) (some 1) x0 v86 fun v92 =>
  kst 1 v92 v89 w91 fun w93 =>
  kint .i64 .sub x4 (.int .i64 2) fun v94 =>
  f111_4 x0 v94 v84 Q w93)
  (f111_4 x0 x4 x12 Q w)

def f111_2 (x0 : Value) (x1 : Value) (x4 : Value) (Q : Value → World → Prop) (w : World) : Prop :=
  kcnv .u32 x1 fun v54 =>
  kint .i64 .geq x4 (.int .i64 4) fun v55 =>
  kB v55 fun b102 => kIf b102
  (kint .u32 .rem v54 (.int .u32 10000) fun v56 =>
  kint .u32 .quo v54 (.int .u32 10000) fun v57 =>
  kint .u32 .quo v56 (.int .u32 100) fun v58 =>
  kint .u32 .mul v58 (.int .u32 2) fun v59 =>
  kint .u32 .rem v56 (.int .u32 100) fun v60 =>
  kint .u32 .mul v60 (.int .u32 2) fun v61 =>
  kint .i64 .sub x4 (.int .i64 1) fun v62 =>
  kint .i64 .sub x4 (.int .i64 2) fun v63 =>
  kint .u32 .add v61 (.int .u32 1) fun v64 =>
  kiv Tryd.prog (some .string) (.string ⟨#[48, 48, 48, 49, 48, 50, 48, 51, 48, 52, 48, 53, 48, 54, 48, 55, 48, 56, 48, 57, 49, 48, 49, 49, 49, 50, 49, 51, 49, 52, 49, 53, 49, 54, 49, 55, 49, 56, 49, 57, 50, 48, 50, 49, 50, 50, 50, 51, 50, 52, 50, 53, 50, 54, 50, 55, 50, 56, 50, 57, 51, 48, 51, 49, 51, 50, 51, 51, 51, 52, 51, 53, 51, 54, 51, 55, 51, 56, 51, 57, 52, 48, 52, 49, 52, 50, 52, 51, 52, 52, 52, 53, 52, 54, 52, 55, 52, 56, 52, 57, 53, 48, 53, 49, 53, 50, 53, 51, 53, 52, 53, 53, 53, 54, 53, 55, 53, 56, 53, 57, 54, 48, 54, 49, 54, 50, 54, 51, 54, 52, 54, 53, 54, 54, 54, 55, 54, 56, 54, 57, 55, 48, 55, 49, 55, 50, 55, 51, 55, 52, 55, 53, 55, 54, 55, 55, 55, 56, 55, 57, 56, 48, 56, 49, 56, 50, 56, 51, 56, 52, 56, 53, 56, 54, 56, 55, 56, 56, 56, 57, 57, 48, 57, 49, 57, 50, 57, 51, 57, 52, 57, 53, 57, 54, 57, 55, 57, 56, 57, 57]⟩) v64 fun v65 =>
  kiv Tryd.prog (some .string) (.string ⟨#[48, 48, 48, 49, 48, 50, 48, 51, 48, 52, 48, 53, 48, 54, 48, 55, 48, 56, 48, 57, 49, 48, 49, 49, 49, 50, 49, 51, 49, 52, 49, 53, 49, 54, 49, 55, 49, 56, 49, 57, 50, 48, 50, 49, 50, 50, 50, 51, 50, 52, 50, 53, 50, 54, 50, 55, 50, 56, 50, 57, 51, 48, 51, 49, 51, 50, 51, 51, 51, 52, 51, 53, 51, 54, 51, 55, 51, 56, 51, 57, 52, 48, 52, 49, 52, 50, 52, 51, 52, 52, 52, 53, 52, 54, 52, 55, 52, 56, 52, 57, 53, 48, 53, 49, 53, 50, 53, 51, 53, 52, 53, 53, 53, 54, 53, 55, 53, 56, 53, 57, 54, 48, 54, 49, 54, 50, 54, 51, 54, 52, 54, 53, 54, 54, 54, 55, 54, 56, 54, 57, 55, 48, 55, 49, 55, 50, 55, 51, 55, 52, 55, 53, 55, 54, 55, 55, 55, 56, 55, 57, 56, 48, 56, 49, 56, 50, 56, 51, 56, 52, 56, 53, 56, 54, 56, 55, 56, 56, 56, 57, 57, 48, 57, 49, 57, 50, 57, 51, 57, 52, 57, 53, 57, 54, 57, 55, 57, 56, 57, 57]⟩) v61 fun v66 =>
  kix (some (.slice 5)) (some 1) x0 v62 fun v67 =>
  kst 1 v67 v65 w.drew fun w68 =>
  kix (some (.slice 5)) (some 1) x0 v63 fun v69 =>
  kst 1 v69 v66 w68 fun w70 =>
  kint .i64 .sub x4 (.int .i64 3) fun v71 =>
  kint .i64 .sub x4 (.int .i64 4) fun v72 =>
  kint .u32 .add v59 (.int .u32 1) fun v73 =>
  kiv Tryd.prog (some .string) (.string ⟨#[48, 48, 48, 49, 48, 50, 48, 51, 48, 52, 48, 53, 48, 54, 48, 55, 48, 56, 48, 57, 49, 48, 49, 49, 49, 50, 49, 51, 49, 52, 49, 53, 49, 54, 49, 55, 49, 56, 49, 57, 50, 48, 50, 49, 50, 50, 50, 51, 50, 52, 50, 53, 50, 54, 50, 55, 50, 56, 50, 57, 51, 48, 51, 49, 51, 50, 51, 51, 51, 52, 51, 53, 51, 54, 51, 55, 51, 56, 51, 57, 52, 48, 52, 49, 52, 50, 52, 51, 52, 52, 52, 53, 52, 54, 52, 55, 52, 56, 52, 57, 53, 48, 53, 49, 53, 50, 53, 51, 53, 52, 53, 53, 53, 54, 53, 55, 53, 56, 53, 57, 54, 48, 54, 49, 54, 50, 54, 51, 54, 52, 54, 53, 54, 54, 54, 55, 54, 56, 54, 57, 55, 48, 55, 49, 55, 50, 55, 51, 55, 52, 55, 53, 55, 54, 55, 55, 55, 56, 55, 57, 56, 48, 56, 49, 56, 50, 56, 51, 56, 52, 56, 53, 56, 54, 56, 55, 56, 56, 56, 57, 57, 48, 57, 49, 57, 50, 57, 51, 57, 52, 57, 53, 57, 54, 57, 55, 57, 56, 57, 57]⟩) v73 fun v74 =>
  kiv Tryd.prog (some .string) (.string ⟨#[48, 48, 48, 49, 48, 50, 48, 51, 48, 52, 48, 53, 48, 54, 48, 55, 48, 56, 48, 57, 49, 48, 49, 49, 49, 50, 49, 51, 49, 52, 49, 53, 49, 54, 49, 55, 49, 56, 49, 57, 50, 48, 50, 49, 50, 50, 50, 51, 50, 52, 50, 53, 50, 54, 50, 55, 50, 56, 50, 57, 51, 48, 51, 49, 51, 50, 51, 51, 51, 52, 51, 53, 51, 54, 51, 55, 51, 56, 51, 57, 52, 48, 52, 49, 52, 50, 52, 51, 52, 52, 52, 53, 52, 54, 52, 55, 52, 56, 52, 57, 53, 48, 53, 49, 53, 50, 53, 51, 53, 52, 53, 53, 53, 54, 53, 55, 53, 56, 53, 57, 54, 48, 54, 49, 54, 50, 54, 51, 54, 52, 54, 53, 54, 54, 54, 55, 54, 56, 54, 57, 55, 48, 55, 49, 55, 50, 55, 51, 55, 52, 55, 53, 55, 54, 55, 55, 55, 56, 55, 57, 56, 48, 56, 49, 56, 50, 56, 51, 56, 52, 56, 53, 56, 54, 56, 55, 56, 56, 56, 57, 57, 48, 57, 49, 57, 50, 57, 51, 57, 52, 57, 53, 57, 54, 57, 55, 57, 56, 57, 57]⟩) v59 fun v75 =>
  kix (some (.slice 5)) (some 1) x0 v71 fun v76 =>
  kst 1 v76 v74 w70.drew fun w77 =>
  kix (some (.slice 5)) (some 1) x0 v72 fun v78 =>
  kst 1 v78 v75 w77 fun w79 =>
  kint .i64 .sub x4 (.int .i64 4) fun v80 =>
  f111_3 x0 v80 v57 Q w79)
  (f111_3 x0 x4 v54 Q w)

def f111_0 (x1 : Value) (x4 : Value) (x0 : Value) (J1 : Value → Value → World → Prop) (Q : Value → World → Prop) (w : World) : Prop :=
  kint .i64 .geq x4 (.int .i64 8) fun v3 =>
  kB v3 fun b103 => kIf b103
  (f111_1 x0 x1 x4 J1 Q w)
  (f111_2 x0 x1 x4 Q w)

def f111 (x0 : Value) (x1 : Value) (Q : Value → World → Prop) (w : World) : Prop :=
  klen x0 fun v1 =>
  kL fun (I : Value → Value → World → Prop) (μ : Value → Value → World → Nat) => I x1 v1 w ∧ ∀ (x1 x4 : Value) (w1 : World), I x1 x4 w1 →
  f111_0 x1 x4 x0 (fun y1 y4 w2 => I y1 y4 w2 ∧ μ y1 y4 w2 < μ x1 x4 w1) Q w1

theorem f111_eq (x0 : Value) (x1 : Value) (Q : Value → World → Prop) (w : World) : f111 x0 x1 Q w = fnVC Tryd.prog Tryd.f111 [(1, [1, 4])] (Tryd.f111.body.get rfl) [x0, x1] w Q := by kernel_rfl
theorem f111_ok {x0 : Value} {x1 : Value} {Q : Value → World → Prop} {w : World} (h : f111 x0 x1 Q w) : Meets Tryd.prog 111 #[x0, x1] w Q :=
  sound (c := (Tryd.f111.body.get rfl)) [(1, [1, 4])] Tryd.func111 rfl rfl (args := [x0, x1]) rfl (Eq.mp (f111_eq x0 x1 Q w) h)

/-! internal/strconv.log10Pow2 -/
def f113 (x0 : Value) (Q : Value → World → Prop) (w : World) : Prop :=
  kint .i64 .mul x0 (.int .i64 78913) fun v1 =>
  kint .i64 .shr v1 (.int .u64 18) fun v2 =>
  Q v2 w

theorem f113_eq (x0 : Value) (Q : Value → World → Prop) (w : World) : f113 x0 Q w = fnVC Tryd.prog Tryd.f113 [] (Tryd.f113.body.get rfl) [x0] w Q := by kernel_rfl
theorem f113_ok {x0 : Value} {Q : Value → World → Prop} {w : World} (h : f113 x0 Q w) : Meets Tryd.prog 113 #[x0] w Q :=
  sound (c := (Tryd.f113.body.get rfl)) [] Tryd.func113 rfl rfl (args := [x0]) rfl (Eq.mp (f113_eq x0 Q w) h)

/-! math/bits.Len64 -/
def f114_2 (x0 : Value) (x2 : Value) (Q : Value → World → Prop) (w : World) : Prop :=
  kcnv .u8 x0 fun v9 =>
  kiv Tryd.prog (some .string) (.string ⟨#[0, 1, 2, 2, 3, 3, 3, 3, 4, 4, 4, 4, 4, 4, 4, 4, 5, 5, 5, 5, 5, 5, 5, 5, 5, 5, 5, 5, 5, 5, 5, 5, 6, 6, 6, 6, 6, 6, 6, 6, 6, 6, 6, 6, 6, 6, 6, 6, 6, 6, 6, 6, 6, 6, 6, 6, 6, 6, 6, 6, 6, 6, 6, 6, 7, 7, 7, 7, 7, 7, 7, 7, 7, 7, 7, 7, 7, 7, 7, 7, 7, 7, 7, 7, 7, 7, 7, 7, 7, 7, 7, 7, 7, 7, 7, 7, 7, 7, 7, 7, 7, 7, 7, 7, 7, 7, 7, 7, 7, 7, 7, 7, 7, 7, 7, 7, 7, 7, 7, 7, 7, 7, 7, 7, 7, 7, 7, 7, 8, 8, 8, 8, 8, 8, 8, 8, 8, 8, 8, 8, 8, 8, 8, 8, 8, 8, 8, 8, 8, 8, 8, 8, 8, 8, 8, 8, 8, 8, 8, 8, 8, 8, 8, 8, 8, 8, 8, 8, 8, 8, 8, 8, 8, 8, 8, 8, 8, 8, 8, 8, 8, 8, 8, 8, 8, 8, 8, 8, 8, 8, 8, 8, 8, 8, 8, 8, 8, 8, 8, 8, 8, 8, 8, 8, 8, 8, 8, 8, 8, 8, 8, 8, 8, 8, 8, 8, 8, 8, 8, 8, 8, 8, 8, 8, 8, 8, 8, 8, 8, 8, 8, 8, 8, 8, 8, 8, 8, 8, 8, 8, 8, 8, 8, 8, 8, 8, 8, 8, 8, 8, 8, 8, 8, 8, 8, 8]⟩) v9 fun v10 =>
  kcnv .i64 v10 fun v11 =>
  kint .i64 .add x2 v11 fun v12 =>
  Q v12 w

def f114_1 (x0 : Value) (x2 : Value) (Q : Value → World → Prop) (w : World) : Prop :=
  kint .u64 .geq x0 (.int .u64 256) fun v6 =>
  kB v6 fun b13 => kIf b13
  (kint .u64 .shr x0 (.int .u64 8) fun v7 =>
  kint .i64 .add x2 (.int .i64 8) fun v8 =>
  f114_2 v7 v8 Q w)
  (f114_2 x0 x2 Q w)

def f114_0 (x0 : Value) (x2 : Value) (Q : Value → World → Prop) (w : World) : Prop :=
  kint .u64 .geq x0 (.int .u64 65536) fun v3 =>
  kB v3 fun b14 => kIf b14
  (kint .u64 .shr x0 (.int .u64 16) fun v4 =>
  kint .i64 .add x2 (.int .i64 16) fun v5 =>
  f114_1 v4 v5 Q w)
  (f114_1 x0 x2 Q w)

def f114 (x0 : Value) (Q : Value → World → Prop) (w : World) : Prop :=
  kint .u64 .geq x0 (.int .u64 4294967296) fun v1 =>
  kB v1 fun b15 => kIf b15
  (kint .u64 .shr x0 (.int .u64 32) fun v2 =>
  f114_0 v2 (.int .i64 32) Q w)
  (f114_0 x0 (.int .i64 0) Q w)

theorem f114_eq (x0 : Value) (Q : Value → World → Prop) (w : World) : f114 x0 Q w = fnVC Tryd.prog Tryd.f114 [] (Tryd.f114.body.get rfl) [x0] w Q := by kernel_rfl
theorem f114_ok {x0 : Value} {Q : Value → World → Prop} {w : World} (h : f114 x0 Q w) : Meets Tryd.prog 114 #[x0] w Q :=
  sound (c := (Tryd.f114.body.get rfl)) [] Tryd.func114 rfl rfl (args := [x0]) rfl (Eq.mp (f114_eq x0 Q w) h)

/-! internal/strconv.bool2[int] -/
def f115_0 (Q : Value → World → Prop) (w : World) : Prop :=
  Q (.int .i64 0) w

def f115 (x0 : Value) (Q : Value → World → Prop) (w : World) : Prop :=
  kB x0 fun b1 => kIf b1
  (Q (.int .i64 1) w)
  (f115_0 Q w)

theorem f115_eq (x0 : Value) (Q : Value → World → Prop) (w : World) : f115 x0 Q w = fnVC Tryd.prog Tryd.f115 [] (Tryd.f115.body.get rfl) [x0] w Q := by kernel_rfl
theorem f115_ok {x0 : Value} {Q : Value → World → Prop} {w : World} (h : f115 x0 Q w) : Meets Tryd.prog 115 #[x0] w Q :=
  sound (c := (Tryd.f115.body.get rfl)) [] Tryd.func115 rfl rfl (args := [x0]) rfl (Eq.mp (f115_eq x0 Q w) h)

/-! pasodoble/seal.Sum -/
def f25_0 (x3 : Value) (Q : Value → World → Prop) (w : World) : Prop :=
  kbldS [(.string ⟨#[]⟩)] 1 [(0, 1, x3)] 9 w fun v10 w11 =>
  kcall Tryd.prog 61 #[v10] w11 fun v12 w13 =>
  Q v12 w13

def f25 (x0 : Value) (Q : Value → World → Prop) (w : World) : Prop :=
  knew (Value.cells x0) 55 w fun v1 w2 =>
  kldN 5 v1 w2 fun v3 =>
  kcall Tryd.prog 22 #[v3] w2 fun v4 w5 =>
  kext v4 0 fun v6 =>
  kext v4 1 fun v7 =>
  keq Tryd.prog .neq 36 false true v7 .nilIface w5 fun v8 w9 =>
  kB v8 fun b14 => kIf b14
  (Q (.int .u64 0) w9)
  (f25_0 v6 Q w9)

theorem f25_eq (x0 : Value) (Q : Value → World → Prop) (w : World) : f25 x0 Q w = fnVC Tryd.prog Tryd.f25 [] (Tryd.f25.body.get rfl) [x0] w Q := by kernel_rfl
theorem f25_ok {x0 : Value} {Q : Value → World → Prop} {w : World} (h : f25 x0 Q w) : Meets Tryd.prog 25 #[x0] w Q :=
  sound (c := (Tryd.f25.body.get rfl)) [] Tryd.func25 rfl rfl (args := [x0]) rfl (Eq.mp (f25_eq x0 Q w) h)

/-! pasodoble/tally.Of -/
def f61_2 (x3 : Value) (x7 : Value) (x8 : Value) (x9 : Value) (J3 : Value → World → Prop) (Q : Value → World → Prop) (w : World) : Prop :=
  kint .i64 .add x9 (.int .i64 1) fun v10 =>
  J3 v10 w

def f61_1 (x3 : Value) (x7 : Value) (x8 : Value) (x9 : Value) (J3 : Value → World → Prop) (Q : Value → World → Prop) (w : World) : Prop :=
  kix (some (.slice 9)) (some 1) x7 x9 fun v6 =>
  kld v6 w fun v7 =>
  kcall Tryd.prog 87 #[x3, v7] w fun v8 w9 =>
  f61_2 x3 x7 x8 x9 J3 Q w9

def f61_3 (x3 : Value) (Q : Value → World → Prop) (w : World) : Prop :=
  kcall Tryd.prog 88 #[x3] w fun v11 w12 =>
  Q v11 w12

def f61_0 (x9 : Value) (x3 : Value) (x7 : Value) (x8 : Value) (J3 : Value → World → Prop) (Q : Value → World → Prop) (w : World) : Prop :=
  kint .i64 .lss x9 x8 fun v5 =>
  kB v5 fun b13 => kIf b13
  (f61_1 x3 x7 x8 x9 J3 Q w)
  (f61_3 x3 Q w)

def f61 (x0 : Value) (Q : Value → World → Prop) (w : World) : Prop :=
  kcall Tryd.prog 86 #[] w fun v1 w2 =>
  klen x0 fun v3 =>
  kL fun (I : Value → World → Prop) (μ : Value → World → Nat) => I (.int .i64 0) w2 ∧ ∀ (x9 : Value) (w1 : World), I x9 w1 →
  f61_0 x9 v1 x0 v3 (fun y9 w2 => I y9 w2 ∧ μ y9 w2 < μ x9 w1) Q w1

theorem f61_eq (x0 : Value) (Q : Value → World → Prop) (w : World) : f61 x0 Q w = fnVC Tryd.prog Tryd.f61 [(3, [9])] (Tryd.f61.body.get rfl) [x0] w Q := by kernel_rfl
theorem f61_ok {x0 : Value} {Q : Value → World → Prop} {w : World} (h : f61 x0 Q w) : Meets Tryd.prog 61 #[x0] w Q :=
  sound (c := (Tryd.f61.body.get rfl)) [(3, [9])] Tryd.func61 rfl rfl (args := [x0]) rfl (Eq.mp (f61_eq x0 Q w) h)

/-! pasodoble/tally.New -/
def f86 (Q : Value → World → Prop) (w : World) : Prop :=
  kbld [(.int .u64 0)] [(0, 1, (.int .u64 14695981039346656037))] fun v1 =>
  knew (Value.cells v1) 173 w fun v2 w3 =>
  Q v2 w3

theorem f86_eq (Q : Value → World → Prop) (w : World) : f86 Q w = fnVC Tryd.prog Tryd.f86 [] (Tryd.f86.body.get rfl) [] w Q := by kernel_rfl
theorem f86_ok {Q : Value → World → Prop} {w : World} (h : f86 Q w) : Meets Tryd.prog 86 #[] w Q :=
  sound (c := (Tryd.f86.body.get rfl)) [] Tryd.func86 rfl rfl (args := []) rfl (Eq.mp (f86_eq Q w) h)

/-! (*pasodoble/tally.Tally).Add -/
def f87_3 (x0 : Value) (x1 : Value) (x8 : Value) (x9 : Value) (J2 : Value → World → Prop) (Q : Value → World → Prop) (w : World) : Prop :=
  kint .i64 .add x9 (.int .i64 1) fun v13 =>
  J2 v13 w

def f87_2 (x0 : Value) (x1 : Value) (x8 : Value) (x9 : Value) (J2 : Value → World → Prop) (Q : Value → World → Prop) (w : World) : Prop :=
  kN x0 <|
  kfld 0 x0 fun v6 =>
  kld v6 w.drew fun v7 =>
  kG (w.drew = w.drew) <|
  kiv Tryd.prog (some .string) x1 x9 fun v8 =>
  kcall Tryd.prog 102 #[v7, v8] w.drew fun v9 w10 =>
  kN x0 <|
  kfld 0 x0 fun v11 =>
  kst 1 v11 v9 w10 fun w12 =>
  f87_3 x0 x1 x8 x9 J2 Q w12

def f87_1 (x9 : Value) (x0 : Value) (x1 : Value) (x8 : Value) (J2 : Value → World → Prop) (Q : Value → World → Prop) (w : World) : Prop :=
  kint .i64 .lss x9 x8 fun v5 =>
  kB v5 fun b14 => kIf b14
  (f87_2 x0 x1 x8 x9 J2 Q w)
  (Q (.tuple #[]) w)

def f87_0 (x0 : Value) (x1 : Value) (Q : Value → World → Prop) (w : World) : Prop :=
  klenStr x1 fun v3 =>
  kL fun (I : Value → World → Prop) (μ : Value → World → Nat) => I (.int .i64 0) w ∧ ∀ (x9 : Value) (w1 : World), I x9 w1 →
  f87_1 x9 x0 x1 v3 (fun y9 w2 => I y9 w2 ∧ μ y9 w2 < μ x9 w1) Q w1

def f87 (x0 : Value) (x1 : Value) (Q : Value → World → Prop) (w : World) : Prop :=
  keq Tryd.prog .eql 157 false true x0 (.pointer none) w fun v1 w2 =>
  kB v1 fun b15 => kIf b15
  (Q (.tuple #[]) w2)
  (f87_0 x0 x1 Q w2)

theorem f87_eq (x0 : Value) (x1 : Value) (Q : Value → World → Prop) (w : World) : f87 x0 x1 Q w = fnVC Tryd.prog Tryd.f87 [(2, [9])] (Tryd.f87.body.get rfl) [x0, x1] w Q := by kernel_rfl
theorem f87_ok {x0 : Value} {x1 : Value} {Q : Value → World → Prop} {w : World} (h : f87 x0 x1 Q w) : Meets Tryd.prog 87 #[x0, x1] w Q :=
  sound (c := (Tryd.f87.body.get rfl)) [(2, [9])] Tryd.func87 rfl rfl (args := [x0, x1]) rfl (Eq.mp (f87_eq x0 x1 Q w) h)

/-! (*pasodoble/tally.Tally).Sum -/
def f88_0 (x0 : Value) (Q : Value → World → Prop) (w : World) : Prop :=
  kN x0 <|
  kfld 0 x0 fun v3 =>
  kld v3 w fun v4 =>
  Q v4 w

def f88 (x0 : Value) (Q : Value → World → Prop) (w : World) : Prop :=
  keq Tryd.prog .eql 157 false true x0 (.pointer none) w fun v1 w2 =>
  kB v1 fun b5 => kIf b5
  (Q (.int .u64 14695981039346656037) w2)
  (f88_0 x0 Q w2)

theorem f88_eq (x0 : Value) (Q : Value → World → Prop) (w : World) : f88 x0 Q w = fnVC Tryd.prog Tryd.f88 [] (Tryd.f88.body.get rfl) [x0] w Q := by kernel_rfl
theorem f88_ok {x0 : Value} {Q : Value → World → Prop} {w : World} (h : f88 x0 Q w) : Meets Tryd.prog 88 #[x0] w Q :=
  sound (c := (Tryd.f88.body.get rfl)) [] Tryd.func88 rfl rfl (args := [x0]) rfl (Eq.mp (f88_eq x0 Q w) h)

/-! pasodoble/tally.step -/
def f102 (x0 : Value) (x1 : Value) (Q : Value → World → Prop) (w : World) : Prop :=
  kcnv .u64 x1 fun v1 =>
  kint .u64 .xor x0 v1 fun v2 =>
  kint .u64 .mul v2 (.int .u64 1099511628211) fun v3 =>
  Q v3 w

theorem f102_eq (x0 : Value) (x1 : Value) (Q : Value → World → Prop) (w : World) : f102 x0 x1 Q w = fnVC Tryd.prog Tryd.f102 [] (Tryd.f102.body.get rfl) [x0, x1] w Q := by kernel_rfl
theorem f102_ok {x0 : Value} {x1 : Value} {Q : Value → World → Prop} {w : World} (h : f102 x0 x1 Q w) : Meets Tryd.prog 102 #[x0, x1] w Q :=
  sound (c := (Tryd.f102.body.get rfl)) [] Tryd.func102 rfl rfl (args := [x0, x1]) rfl (Eq.mp (f102_eq x0 x1 Q w) h)

end Go.Proofs.YtcabkicjboedaaaDoor
end
section
namespace Go.Proofs.YtcabkicjboedaaaDoor
open Go Go.Ev
set_option linter.unusedVariables false
set_option linter.unusedSimpArgs false
set_option maxRecDepth 100000

/-! ### strconv.Itoa gives some short text -/
/-- The library's table of powers holds numbers. -/
def PowAt (w : World) : Prop := ∃ c t f, blk w 20 = some (.cells c t f) ∧ ∀ i, i < 20 → ∃ z : Int, c[i]? = some (.int .u64 z)
theorem PowAt.same {w w' : World} (h : PowAt w) (hm : Same w w') : PowAt w' := by
  obtain ⟨c, t, f, hb, hc⟩ := h
  exact ⟨c, t, f, hm.get hb (fun h => h), hc⟩
theorem u8_of (n : Int) : ∃ x : UInt8, Value.int .u8 (IntKind.u8.wrap n) = u8V x := by
  have h : 0 ≤ IntKind.u8.wrap n ∧ IntKind.u8.wrap n < 256 := by
    show 0 ≤ n % 256 ∧ n % 256 < 256
    omega
  refine ⟨UInt8.ofNat (IntKind.u8.wrap n).toNat, ?_⟩
  unfold u8V
  congr 1
  simp
  omega
theorem kiv_of {s : ByteArray} {k : IntKind} {i : Int} {K : Value → Prop} (h0 : 0 ≤ i) (h1 : i < s.size) (p : UInt8 → Prop) (hp : ∀ x ∈ s.data.toList, p x) (h : ∀ x : UInt8, p x → K (u8V x)) : kiv Tryd.prog (some .string) (.string s) (.int k i) K := by
  rw [kiv_string]
  refine kG_of h0 ?_
  rw [← bs_of s, bs_get]
  have hl : i.toNat < s.data.toList.length := by
    have : s.size = s.data.toList.length := (Array.length_toList (xs := s.data)).symm
    omega
  rw [List.getElem?_eq_getElem hl]
  exact kO_of rfl (h _ (hp _ (List.getElem_mem hl)))
theorem dig_of {s : ByteArray} {k : IntKind} {i : Int} {K : Value → Prop} (hs : s.size = 200) (h0 : 0 ≤ i) (h1 : i < 200) (h : ∀ x : UInt8, K (u8V x)) : kiv Tryd.prog (some .string) (.string s) (.int k i) K :=
  kiv_of h0 (by rw [hs]; exact h1) (fun _ => True) (fun _ _ => trivial) fun x _ => h x
/-- A block of 24 bytes. -/
def BufAt (w : World) (b : Nat) : Prop := ∃ l : List UInt8, l.length = 24 ∧ blk w b = some (.cells (l.map u8V).toArray 182)
theorem setAll_u8 (l : List UInt8) (x : UInt8) (o : Nat) : setAll [u8V x] (l.map u8V).toArray o = ((l.set o x).map u8V).toArray := by
  simp only [setAll, List.setIfInBounds_toArray, List.map_set]
theorem buf_st {w : World} {b o : Nat} (hb : BufAt w b) (ho : o < 24) (x : UInt8) {K : World → Prop} (h : ∀ w', Mod (fun k => k = b) w w' → BufAt w' b → K w') : kst 1 (.pointer (some ⟨b, o, none⟩)) (u8V x) w K := by
  obtain ⟨l, hl, hb⟩ := hb
  refine kst_of (vs := [u8V x]) hb rfl rfl rfl (by simp; omega) (by simp) fun w' h' hs' hb' => ?_
  rw [setAll_u8] at hb'
  exact h w' h' ⟨l.set o x, by simpa using hl, hb'⟩
theorem buf_ix {w : World} {b nd c i : Nat} (hb : BufAt w b) (hi : i < nd) (hn : nd ≤ 20) (x : UInt8) {e : TypeId} {K : World → Prop} (h : ∀ w', Mod (fun k => k = b) w w' → BufAt w' b → K w') :
    kix (some (.slice e)) (some 1) (.slice (some ⟨b, 1, none⟩) nd c) (.int .i64 (i : Int)) fun v => kst 1 v (u8V x) w K := by
  rw [kix_slice]
  refine kG_of (by omega) ?_
  rw [add_mk]
  exact buf_st hb (by omega) x h
theorem rem100 {x : Int} (h : 0 ≤ x) : ∃ y : Int, 0 ≤ y ∧ y ≤ 198 ∧ IntKind.u32.wrap (x.tmod 100 * 2) = y ∧ IntKind.u32.wrap (y + 1) = y + 1 := by
  have e : x.tmod 100 = x % 100 := Int.tmod_eq_emod_of_nonneg h
  refine ⟨x % 100 * 2, by omega, by omega, ?_, ?_⟩
  · rw [e]; exact wrap_u32 (by omega) (by omega)
  · exact wrap_u32 (by omega) (by omega)
theorem quo100 {x : Int} (h : 0 ≤ x) (h1 : x < 10000) : ∃ y : Int, 0 ≤ y ∧ y ≤ 198 ∧ IntKind.u32.wrap (IntKind.u32.wrap (x.tdiv 100) * 2) = y ∧ IntKind.u32.wrap (y + 1) = y + 1 := by
  have e : x.tdiv 100 = x / 100 := Int.tdiv_eq_ediv_of_nonneg h
  have e2 : IntKind.u32.wrap (x / 100) = x / 100 := wrap_u32 (by omega) (by omega)
  refine ⟨x / 100 * 2, by omega, by omega, ?_, ?_⟩
  · rw [e, e2]; exact wrap_u32 (by omega) (by omega)
  · exact wrap_u32 (by omega) (by omega)
theorem rem1e4 {x : Int} (h : 0 ≤ x) : 0 ≤ x.tmod 10000 ∧ x.tmod 10000 < 10000 := by
  rw [Int.tmod_eq_emod_of_nonneg h]; omega
theorem quo1e4 {x : Int} (h : 0 ≤ x) (h1 : x < 100000000) : 0 ≤ IntKind.u32.wrap (x.tdiv 10000) ∧ IntKind.u32.wrap (x.tdiv 10000) < 10000 := by
  rw [Int.tdiv_eq_ediv_of_nonneg h, wrap_u32 (by omega) (by omega)]; omega
theorem quoPos {x : Int} (d : Int) : 0 ≤ IntKind.u32.wrap (x.tdiv d) := by
  show 0 ≤ (x.tdiv d) % 4294967296
  omega
theorem wrap_pos64 (x : Int) : 0 ≤ IntKind.u64.wrap x := by
  show 0 ≤ x % 18446744073709551616
  omega
theorem wrap_pos32 (x : Int) : 0 ≤ IntKind.u32.wrap x := by
  show 0 ≤ x % 4294967296
  omega
theorem rem1e8 {x : Int} (h : 0 ≤ x) : ∃ y : Int, 0 ≤ y ∧ y < 100000000 ∧ IntKind.u32.wrap (x.tmod 100000000) = y := by
  rw [Int.tmod_eq_emod_of_nonneg h]
  exact ⟨x % 100000000, by omega, by omega, wrap_u32 (by omega) (by omega)⟩
theorem i64_sub {i k : Nat} (h : k ≤ i) (h2 : i ≤ 20) : IntKind.i64.wrap ((i : Int) - (k : Int)) = ((i - k : Nat) : Int) := by
  rw [wrap_i64 (by omega) (by omega)]; omega

def FmtInv (b nd : Nat) (w : World) (x1 x4 : Value) (wr : World) : Prop := ∃ (u : Int) (i : Nat), 0 ≤ u ∧ i ≤ nd ∧ x1 = .int .u64 u ∧ x4 = .int .i64 i ∧ BufAt wr b ∧ Mod (fun k => k = b) w wr
theorem format_spec {w : World} {b nd c : Nat} (hb : BufAt w b) (hn : nd ≤ 20) (u : Int) (hu : 0 ≤ u) :
    Meets Tryd.prog 111 #[.slice (some ⟨b, 1, none⟩) nd c, .int .u64 u] w fun v w' => BufAt w' b ∧ Mod (fun k => k = b) w w' := by
  have f4 : ∀ (i : Nat) (x : Int) (wr : World), i ≤ nd → 0 ≤ x → BufAt wr b → Mod (fun k => k = b) w wr → f111_4 (.slice (some ⟨b, 1, none⟩) nd c) (.int .i64 i) (.int .u32 x) (fun v w' => BufAt w' b ∧ Mod (fun k => k = b) w w') wr := by
    intro i x wr hi hx hbu hm
    unfold f111_4
    rw [kint_gtr, kB_bool]
    refine kIf_dec (fun h0 => ?_) (fun _ => ⟨hbu, hm⟩)
    rw [kint_add, kcnv_int]
    obtain ⟨y, hy⟩ := u8_of (IntKind.u32.wrap (48 + x))
    rw [hy]
    refine buf_ix (i := 0) hbu (by omega) hn y fun w' h' hb' => ?_
    exact ⟨hb', hm.trans h'⟩
  have f3 : ∀ (i : Nat) (x : Int) (wr : World), i ≤ nd → 0 ≤ x → BufAt wr b → Mod (fun k => k = b) w wr → f111_3 (.slice (some ⟨b, 1, none⟩) nd c) (.int .i64 i) (.int .u32 x) (fun v w' => BufAt w' b ∧ Mod (fun k => k = b) w w') wr := by
    intro i x wr hi hx hbu hm
    unfold f111_3
    rw [kint_geq, kB_bool]
    refine kIf_dec (fun h0 => ?_) (fun _ => f4 i x wr hi hx hbu hm)
    have h0 : 2 ≤ i := by omega
    obtain ⟨y, y0, y1, e1, e2⟩ := rem100 hx
    rw [kint_rem]
    refine kG_of (by decide) ?_
    rw [kint_mul, e1, kint_quo]
    refine kG_of (by decide) ?_
    rw [kint_sub, show (1 : Int) = ((1 : Nat) : Int) from rfl, i64_sub (by omega) (by omega), kint_sub, show (2 : Int) = ((2 : Nat) : Int) from rfl, i64_sub (by omega) (by omega), show ((1 : Nat) : Int) = (1 : Int) from rfl, kint_add, e2]
    refine dig_of rfl (by omega) (by omega) fun d1 => ?_
    refine dig_of rfl (by omega) (by omega) fun d2 => ?_
    refine buf_ix (i := i - 1) (w := wr.drew) hbu (by omega) hn d1 fun w1 h1 hb1 => ?_
    refine buf_ix (i := i - 2) hb1 (by omega) hn d2 fun w2 h2 hb2 => ?_
    rw [kint_sub, i64_sub (by omega) (by omega)]
    exact f4 _ _ _ (by omega) (quoPos _) hb2 (hm.drew.trans (h1.trans h2))
  have f2 : ∀ (i : Nat) (x : Int) (wr : World), i ≤ nd → BufAt wr b → Mod (fun k => k = b) w wr → f111_2 (.slice (some ⟨b, 1, none⟩) nd c) (.int .u64 x) (.int .i64 i) (fun v w' => BufAt w' b ∧ Mod (fun k => k = b) w w') wr := by
    intro i x wr hi hbu hm
    unfold f111_2
    have hx := wrap_pos32 x
    rw [kcnv_int]
    generalize IntKind.u32.wrap x = x at hx ⊢
    rw [kint_geq, kB_bool]
    refine kIf_dec (fun h0 => ?_) (fun _ => f3 i x wr hi hx hbu hm)
    have h0 : 4 ≤ i := by omega
    obtain ⟨r0, r1⟩ := rem1e4 hx
    obtain ⟨p, p0, p1, e1, e2⟩ := quo100 r0 r1
    obtain ⟨q, q0, q1, e3, e4⟩ := rem100 r0
    rw [kint_rem]
    refine kG_of (by decide) ?_
    rw [kint_quo]
    refine kG_of (by decide) ?_
    rw [kint_quo]
    refine kG_of (by decide) ?_
    rw [kint_mul, e1, kint_rem]
    refine kG_of (by decide) ?_
    rw [kint_mul, e3]
    rw [kint_sub, show IntKind.i64.wrap ((i : Int) - 1) = ((i - 1 : Nat) : Int) from i64_sub (k := 1) (by omega) (by omega), kint_sub, show IntKind.i64.wrap ((i : Int) - 2) = ((i - 2 : Nat) : Int) from i64_sub (k := 2) (by omega) (by omega), kint_add, e4]
    refine dig_of rfl (by omega) (by omega) fun d1 => ?_
    refine dig_of rfl (by omega) (by omega) fun d2 => ?_
    refine buf_ix (i := i - 1) (w := wr.drew) hbu (by omega) hn d1 fun w1 h1 hb1 => ?_
    refine buf_ix (i := i - 2) hb1 (by omega) hn d2 fun w2 h2 hb2 => ?_
    rw [kint_sub, show IntKind.i64.wrap ((i : Int) - 3) = ((i - 3 : Nat) : Int) from i64_sub (k := 3) (by omega) (by omega), kint_sub, show IntKind.i64.wrap ((i : Int) - 4) = ((i - 4 : Nat) : Int) from i64_sub (k := 4) (by omega) (by omega), kint_add, e2]
    refine dig_of rfl (by omega) (by omega) fun d3 => ?_
    refine dig_of rfl (by omega) (by omega) fun d4 => ?_
    refine buf_ix (i := i - 3) (w := w2.drew) hb2 (by omega) hn d3 fun w3 h3 hb3 => ?_
    refine buf_ix (i := i - 4) hb3 (by omega) hn d4 fun w4 h4 hb4 => ?_
    rw [kint_sub, show IntKind.i64.wrap ((i : Int) - 4) = ((i - 4 : Nat) : Int) from i64_sub (k := 4) (by omega) (by omega)]
    exact f3 _ _ _ (by omega) (quoPos _) hb4 ((hm.drew.trans (h1.trans h2)).drew.trans (h3.trans h4))
  refine f111_ok ?_
  unfold f111
  rw [klen_slice]
  refine kL_of (FmtInv b nd w) (fun _ x _ => (RowKit.intOf x).toNat) ⟨⟨u, nd, hu, by omega, rfl, rfl, hb, Mod.refl _ _⟩, ?_⟩
  rintro x1 x4 wr ⟨u, i, hu, hi, rfl, rfl, hbu, hm⟩
  unfold f111_0
  rw [kint_geq, kB_bool]
  refine kIf_dec (fun h0 => ?_) (fun _ => f2 i u wr hi hbu hm)
  have h0 : 8 ≤ i := by omega
  unfold f111_1
  obtain ⟨m, m0, m1, em⟩ := rem1e8 hu
  obtain ⟨a0, a1⟩ := quo1e4 m0 m1
  obtain ⟨r0, r1⟩ := rem1e4 m0
  obtain ⟨p, p0, p1, ep, ep2⟩ := quo100 r0 r1
  obtain ⟨q, q0, q1, eq, eq2⟩ := rem100 r0
  obtain ⟨g, g0, g1, eg, eg2⟩ := quo100 a0 a1
  obtain ⟨h, hh0, hh1, eh, eh2⟩ := rem100 a0
  have sub : ∀ k : Nat, k ≤ 8 → IntKind.i64.wrap ((i : Int) - (k : Int)) = ((i - k : Nat) : Int) := fun k hk => i64_sub (by omega) (by omega)
  rw [kint_rem]
  refine kG_of (by decide) ?_
  rw [kcnv_int, em, kint_quo]
  refine kG_of (by decide) ?_
  rw [kint_quo]
  refine kG_of (by decide) ?_
  rw [kint_rem]
  refine kG_of (by decide) ?_
  rw [kint_quo]
  refine kG_of (by decide) ?_
  rw [kint_mul, ep, kint_rem]
  refine kG_of (by decide) ?_
  rw [kint_mul, eq, kint_quo]
  refine kG_of (by decide) ?_
  rw [kint_mul, eg, kint_rem]
  refine kG_of (by decide) ?_
  rw [kint_mul, eh]
  rw [kint_sub, show IntKind.i64.wrap ((i : Int) - 1) = ((i - 1 : Nat) : Int) from sub 1 (by omega), kint_sub, show IntKind.i64.wrap ((i : Int) - 2) = ((i - 2 : Nat) : Int) from sub 2 (by omega), kint_add, eq2]
  refine dig_of rfl (by omega) (by omega) fun d1 => ?_
  refine dig_of rfl (by omega) (by omega) fun d2 => ?_
  refine buf_ix (i := i - 1) (w := wr.drew) hbu (by omega) hn d1 fun w1 h1 hb1 => ?_
  refine buf_ix (i := i - 2) hb1 (by omega) hn d2 fun w2 h2 hb2 => ?_
  rw [kint_sub, show IntKind.i64.wrap ((i : Int) - 3) = ((i - 3 : Nat) : Int) from sub 3 (by omega), kint_sub, show IntKind.i64.wrap ((i : Int) - 4) = ((i - 4 : Nat) : Int) from sub 4 (by omega), kint_add, ep2]
  refine dig_of rfl (by omega) (by omega) fun d3 => ?_
  refine dig_of rfl (by omega) (by omega) fun d4 => ?_
  refine buf_ix (i := i - 3) (w := w2.drew) hb2 (by omega) hn d3 fun w3 h3 hb3 => ?_
  refine buf_ix (i := i - 4) hb3 (by omega) hn d4 fun w4 h4 hb4 => ?_
  rw [kint_sub, show IntKind.i64.wrap ((i : Int) - 5) = ((i - 5 : Nat) : Int) from sub 5 (by omega), kint_sub, show IntKind.i64.wrap ((i : Int) - 6) = ((i - 6 : Nat) : Int) from sub 6 (by omega), kint_add, eh2]
  refine dig_of rfl (by omega) (by omega) fun d5 => ?_
  refine dig_of rfl (by omega) (by omega) fun d6 => ?_
  refine buf_ix (i := i - 5) (w := w4.drew) hb4 (by omega) hn d5 fun w5 h5 hb5 => ?_
  refine buf_ix (i := i - 6) hb5 (by omega) hn d6 fun w6 h6 hb6 => ?_
  rw [kint_sub, show IntKind.i64.wrap ((i : Int) - 7) = ((i - 7 : Nat) : Int) from sub 7 (by omega), kint_sub, show IntKind.i64.wrap ((i : Int) - 8) = ((i - 8 : Nat) : Int) from sub 8 (by omega), kint_add, eg2]
  refine dig_of rfl (by omega) (by omega) fun d7 => ?_
  refine dig_of rfl (by omega) (by omega) fun d8 => ?_
  refine buf_ix (i := i - 7) (w := w6.drew) hb6 (by omega) hn d7 fun w7 h7 hb7 => ?_
  refine buf_ix (i := i - 8) hb7 (by omega) hn d8 fun w8 h8 hb8 => ?_
  rw [kint_sub, show IntKind.i64.wrap ((i : Int) - 8) = ((i - 8 : Nat) : Int) from sub 8 (by omega)]
  exact ⟨⟨_, i - 8, wrap_pos64 _, by omega, rfl, rfl, hb8, (((hm.drew.trans (h1.trans h2)).drew.trans (h3.trans h4)).drew.trans (h5.trans h6)).drew.trans (h7.trans h8)⟩, by simp [RowKit.intOf]; omega⟩

theorem len64_spec (x : Int) (w : World) : Meets Tryd.prog 114 #[.int .u64 x] w fun v w' => (∃ k : Nat, k ≤ 64 ∧ v = .int .i64 k) ∧ w' = w := by
  have f2 : ∀ (x : Int) (k : Nat), k ≤ 56 → f114_2 (.int .u64 x) (.int .i64 k) (fun v w' => (∃ k : Nat, k ≤ 64 ∧ v = .int .i64 k) ∧ w' = w) w := by
    intro x k hk
    unfold f114_2
    have h0 : 0 ≤ IntKind.u8.wrap x ∧ IntKind.u8.wrap x < 256 := by
      show 0 ≤ x % 256 ∧ x % 256 < 256
      omega
    rw [kcnv_int]
    refine kiv_of h0.1 (by exact h0.2) (fun x => x.toNat ≤ 8) (by decide +kernel) fun y hy => ?_
    rw [u8V, kcnv_int, wrap_i64 (by omega) (by omega), kint_add, wrap_i64 (by omega) (by omega)]
    exact ⟨⟨k + y.toNat, by omega, by simp⟩, rfl⟩
  have f1 : ∀ (x : Int) (k : Nat), k ≤ 48 → f114_1 (.int .u64 x) (.int .i64 k) (fun v w' => (∃ k : Nat, k ≤ 64 ∧ v = .int .i64 k) ∧ w' = w) w := by
    intro x k hk
    unfold f114_1
    rw [kint_geq, kB_bool]
    refine kIf_dec (fun _ => ?_) (fun _ => f2 x k (by omega))
    rw [kint_shr]
    refine kG_of (by decide) ?_
    rw [kint_add, show IntKind.i64.wrap ((k : Int) + 8) = ((k + 8 : Nat) : Int) from by rw [wrap_i64 (by omega) (by omega)]; simp]
    exact f2 _ _ (by omega)
  have f0 : ∀ (x : Int) (k : Nat), k ≤ 32 → f114_0 (.int .u64 x) (.int .i64 k) (fun v w' => (∃ k : Nat, k ≤ 64 ∧ v = .int .i64 k) ∧ w' = w) w := by
    intro x k hk
    unfold f114_0
    rw [kint_geq, kB_bool]
    refine kIf_dec (fun _ => ?_) (fun _ => f1 x k (by omega))
    rw [kint_shr]
    refine kG_of (by decide) ?_
    rw [kint_add, show IntKind.i64.wrap ((k : Int) + 16) = ((k + 16 : Nat) : Int) from by rw [wrap_i64 (by omega) (by omega)]; simp]
    exact f1 _ _ (by omega)
  refine f114_ok ?_
  unfold f114
  rw [kint_geq, kB_bool]
  refine kIf_dec (fun _ => ?_) (fun _ => f0 x 0 (by omega))
  rw [kint_shr]
  refine kG_of (by decide) ?_
  exact f0 _ 32 (by omega)
theorem digits_spec {w : World} (hp : PowAt w) (x : Int) : Meets Tryd.prog 110 #[.int .u64 x] w fun v w' => (∃ k : Nat, k ≤ 20 ∧ v = .int .i64 k) ∧ w' = w := by
  have hlog : ∀ k : Nat, k ≤ 64 → Meets Tryd.prog 113 #[.int .i64 k] w fun v w' => (∃ k : Nat, k < 20 ∧ v = .int .i64 k) ∧ w' = w := by
    intro k hk
    refine f113_ok ?_
    unfold f113
    rw [kint_mul, show IntKind.i64.wrap ((k : Int) * 78913) = ((k * 78913 : Nat) : Int) from by rw [wrap_i64 (by omega) (by omega)]; simp, kint_shr]
    refine kG_of (by decide) ?_
    rw [show (18 : Int) = ((18 : Nat) : Int) from rfl, shr_nat _ 18 (by decide)]
    exact ⟨⟨_, by omega, rfl⟩, rfl⟩
  have hb2 : ∀ b : Bool, Meets Tryd.prog 115 #[.bool b] w fun v w' => (∃ k : Nat, k ≤ 1 ∧ v = .int .i64 k) ∧ w' = w := by
    intro b
    refine f115_ok ?_
    unfold f115
    rw [kB_bool]
    refine kIf_of (fun _ => ⟨⟨1, by omega, rfl⟩, rfl⟩) (fun _ => ?_)
    unfold f115_0
    exact ⟨⟨0, by omega, rfl⟩, rfl⟩
  obtain ⟨c, t, f, hb, hc⟩ := hp
  refine f110_ok ?_
  unfold f110
  refine kcall_of (len64_spec x w) ?_
  rintro v w2 ⟨⟨k, hk, rfl⟩, rfl⟩
  refine kcall_of (hlog k hk) ?_
  rintro v w4 ⟨⟨j, hj, rfl⟩, rfl⟩
  rw [kix_array]
  refine kG_of (by omega) ?_
  rw [add_mk]
  obtain ⟨z, hz⟩ := hc j hj
  refine kld_of (v := .int .u64 z) hb (by simpa using hz) ?_
  rw [kint_geq]
  refine kcall_of (hb2 _) ?_
  rintro v w9 ⟨⟨i, hi, rfl⟩, rfl⟩
  rw [kint_add, wrap_i64 (by omega) (by omega)]
  exact ⟨⟨j + i, by omega, by simp⟩, rfl⟩
def ShortPost (w : World) (v : Value) (w' : World) : Prop := (∃ l : List UInt8, l.length ≤ 24 ∧ v = .string (bs l)) ∧ Same w w'
theorem bufZero : (#[(.int .u8 0), (.int .u8 0), (.int .u8 0), (.int .u8 0), (.int .u8 0), (.int .u8 0), (.int .u8 0), (.int .u8 0), (.int .u8 0), (.int .u8 0), (.int .u8 0), (.int .u8 0), (.int .u8 0), (.int .u8 0), (.int .u8 0), (.int .u8 0), (.int .u8 0), (.int .u8 0), (.int .u8 0), (.int .u8 0), (.int .u8 0), (.int .u8 0), (.int .u8 0), (.int .u8 0)] : Array Value) = ((List.replicate 24 (0 : UInt8)).map u8V).toArray := by rfl
theorem buf_str {w : World} {b : Nat} (hb : BufAt w b) (o n c : Nat) (h : o + n ≤ 24) {K : Value → World → Prop} (hK : ∀ l : List UInt8, l.length ≤ 24 → K (.string (bs l)) w) :
    ksem Tryd.prog (convert 104 9 (.slice (some ⟨b, o, none⟩) n c)) w K := by
  obtain ⟨l, hl, hb⟩ := hb
  have hlen : ((l.drop o).take n).length = n := by rw [List.length_take, List.length_drop]; omega
  have hs : SlIs w (some ⟨b, o, none⟩) ((l.drop o).take n).length 1 (((l.drop o).take n).map u8V) := by
    rw [hlen]
    refine ⟨by rw [List.length_map, hlen]; omega, .inr ⟨b, o, _, _, _, rfl, hb, ?_⟩⟩
    simp [List.map_take, List.map_drop]
  have := ksem_bytes (c := c) hs (K := K) (hK _ (by rw [hlen]; omega))
  rwa [hlen] at this
theorem small_spec {n : Nat} (hn : n < 100) (w : World) : Meets Tryd.prog 109 #[.int .i64 n] w (ShortPost w) := by
  refine f109_ok ?_
  unfold f109
  rw [kint_lss, kB_bool]
  refine kIf_dec (fun h => ?_) (fun h => ?_)
  · rw [kint_add, wrap_i64 (by omega) (by omega), ksl_string rfl rfl]
    have hsz : (⟨#[48, 49, 50, 51, 52, 53, 54, 55, 56, 57, 97, 98, 99, 100, 101, 102, 103, 104, 105, 106, 107, 108, 109, 110, 111, 112, 113, 114, 115, 116, 117, 118, 119, 120, 121, 122]⟩ : ByteArray).size = 36 := rfl
    refine kG_of (by simp only [loV_int, hiV_int, hsz]; omega) ?_
    refine ⟨⟨_, ?_, congrArg Value.string (bs_of _).symm⟩, Mod.refl _ _⟩
    simp only [loV_int, hiV_int, ByteArray.data_extract, Array.toList_extract, List.extract_eq_take_drop, List.length_take]
    omega
  · unfold f109_0
    rw [kint_mul, wrap_i64 (by omega) (by omega), kint_mul, wrap_i64 (by omega) (by omega), kint_add, wrap_i64 (by omega) (by omega), ksl_string rfl rfl]
    refine kG_of ?_ ?_
    · simp only [loV_int, hiV_int]
      refine ⟨by omega, by omega, ?_⟩
      show (n : Int) * 2 + 2 ≤ ((200 : Nat) : Int)
      omega
    refine ⟨⟨_, ?_, congrArg Value.string (bs_of _).symm⟩, Mod.refl _ _⟩
    simp only [loV_int, hiV_int, ByteArray.data_extract, Array.toList_extract, List.extract_eq_take_drop, List.length_take]
    omega
theorem fmtInt_spec {w : World} (hp : PowAt w) (n : Int) : Meets Tryd.prog 106 #[.int .i64 n, .int .i64 10] w (ShortPost w) := by
  have f2 : ∀ (m : Int) (b : Nat) (wr : World), 0 ≤ m → w.heap.size ≤ b → Same w wr → BufAt wr b → f106_2 (.int .i64 n) (.pointer (some ⟨b, 0, none⟩)) (.int .u64 m) (ShortPost w) wr := by
    intro m b wr hm hf hs hbu
    unfold f106_2
    refine kcall_of (digits_spec (hp.same hs) m) ?_
    rintro v w13 ⟨⟨k, hk, rfl⟩, rfl⟩
    have hwr : IntKind.i64.wrap (1 + (k : Int)) = ((1 + k : Nat) : Int) := by rw [wrap_i64 (by omega) (by omega)]; simp
    rw [kint_add, hwr, ksl_array rfl rfl]
    refine kG_of (by simp only [loV_int, hiV_int]; omega) ?_
    have e1 : (if 24 = (loV (some (Value.int .i64 1))).toNat then (⟨b, 0, none⟩ : Addr) else Addr.add ⟨b, 0, none⟩ ((loV (some (Value.int .i64 1))).toNat * 1)) = ⟨b, 1, none⟩ := by
      rw [if_neg (by simp), add_mk]; simp
    have e2 : ((hiV 24 (some (Value.int .i64 ((1 + k : Nat) : Int)))).toNat - (loV (some (Value.int .i64 1))).toNat) = k := by simp only [loV_int, hiV_int]; omega
    rw [e1, e2]
    refine kcall_of (format_spec hbu hk m hm) ?_
    rintro v w17 ⟨hbu, h17⟩
    have hs := hs.trans' (h17.mono fun i _ hi => .inr (by omega))
    rw [kint_lss, kB_bool]
    refine kIf_dec (fun _ => ?_) (fun _ => ?_)
    · rw [kix_array]
      refine kG_of (by decide) ?_
      rw [add_mk]
      refine buf_st (x := 45) hbu (by decide) fun w20 h20 hbu => ?_
      have hs := hs.trans' (h20.mono fun i _ hi => .inr (by omega))
      rw [kint_add, hwr]
      refine ksl_arr_hi (by omega) ?_
      refine buf_str hbu 0 (1 + k) 24 (by omega) fun l hl => ?_
      exact ⟨⟨l, hl, rfl⟩, hs⟩
    · unfold f106_3
      rw [kint_add, hwr, ksl_array rfl rfl]
      refine kG_of (by simp only [loV_int, hiV_int]; omega) ?_
      rw [e1, e2]
      refine buf_str hbu 1 k _ (by omega) fun l hl => ?_
      exact ⟨⟨l, hl, rfl⟩, hs⟩
  have f1 : f106_1 (.int .i64 n) (ShortPost w) w := by
    unfold f106_1
    rw [bufZero]
    refine knew_of fun w8 h8 hs8 hb8 => ?_
    have hbu : BufAt w8 w.heap.size := ⟨_, by simp, hb8⟩
    rw [kcnv_int, kint_lss, kB_bool]
    refine kIf_dec (fun _ => ?_) (fun _ => ?_)
    · rw [kun_neg]
      exact f2 _ _ _ (wrap_pos64 _) (Nat.le_refl _) h8 hbu
    · exact f2 _ _ _ (wrap_pos64 _) (Nat.le_refl _) h8 hbu
  refine f106_ok ?_
  unfold f106
  rw [kint_eql, kB_bool]
  refine kIf_dec (fun _ => ?_) (fun h => absurd rfl h)
  rw [kint_leq, kB_bool]
  refine kIf_dec (fun h0 => ?_) (fun h0 => ?_)
  · rw [kint_lss]
    unfold f106_0
    rw [kB_bool]
    refine kIf_dec (fun h1 => ?_) (fun _ => f1)
    obtain ⟨k, rfl⟩ : ∃ k : Nat, n = (k : Int) := ⟨_, (Int.toNat_of_nonneg h0).symm⟩
    refine kcall_of (small_spec (by omega) w) ?_
    rintro v w' h
    exact h
  · unfold f106_0
    rw [kB_bool, kIf_false]
    exact f1
theorem itoa_spec {w : World} (hp : PowAt w) (n : Int) : Meets Tryd.prog 85 #[.int .i64 n] w (ShortPost w) := by
  have h3 : Meets Tryd.prog 101 #[.int .i64 n] w (ShortPost w) := by
    refine f101_ok ?_
    unfold f101
    refine kcall_of (fmtInt_spec hp n) ?_
    rintro v w' h
    exact h
  refine f85_ok ?_
  unfold f85
  refine kcall_of h3 ?_
  rintro v w' h
  exact h
end Go.Proofs.YtcabkicjboedaaaDoor
end
section
namespace Go.Proofs.YtcabkicjboedaaaDoor
open Go Go.Ev
set_option linter.unusedVariables false
set_option linter.unusedSimpArgs false
set_option maxRecDepth 100000

/-! ### seal.Differs -/
theorem bv_map_m : ∀ l1 l2 : List BV, l1.map BV.m = l2.map BV.m ↔ l1.map BV.id = l2.map BV.id ∧ l1.map BV.parts = l2.map BV.parts
  | [], [] => by simp
  | [], _ :: _ => by simp
  | _ :: _, [] => by simp
  | x :: r, y :: t => by
    have ih := bv_map_m r t
    simp only [List.map_cons, List.cons.injEq, ih]
    unfold BV.m
    simp only [BM.mk.injEq]
    constructor
    · rintro ⟨⟨a, b⟩, c, d⟩; exact ⟨⟨a, c⟩, b, d⟩
    · rintro ⟨⟨a, c⟩, b, d⟩; exact ⟨⟨a, b⟩, c, d⟩
theorem beings1_spec {w : World} (x y : BV) : Meets Tryd.prog 84 #[.agg x.cells.toArray, .agg y.cells.toArray] w fun v w' => v = .bool (decide (x.id = y.id)) ∧ Same w w' := by
  refine f84_ok ?_
  unfold f84
  refine knew_of fun w2 h2 hs2 hb1 => ?_
  refine knew_of fun w4 h4 hs4 hb3 => ?_
  have hb1 := h4.get hb1 (fun h => h)
  refine kfld_of ?_
  refine kld_of (v := .int .i64 x.id) hb1 rfl ?_
  refine kfld_of ?_
  refine kld_of (v := .int .i64 y.id) hb3 rfl ?_
  rw [kint_eql]
  exact ⟨rfl, h2.trans h4⟩
def DiffPost (d : Bool) (w : World) (v : Value) (w' : World) : Prop := (∃ s : ByteArray, v = .tuple #[.string s, .bool d]) ∧ Same w w'
theorem beings_spec {w : World} (hp : PowAt w) (l1 l2 : List BV) (k1 : ∀ b ∈ l1, b.ok w) (k2 : ∀ b ∈ l2, b.ok w) (a1 a2 : Option Addr) (c1 c2 : Nat) (h1 : SlIs w a1 l1.length 2 (l1.flatMap BV.cells)) (h2 : SlIs w a2 l2.length 2 (l2.flatMap BV.cells)) (hn : l1.length ≤ 1073741824) (hq : ∀ b ∈ l1, b.parts.length ≤ 1073741824) :
    Meets Tryd.prog 60 #[.slice a1 l1.length c1, .slice a2 l2.length c2] w (DiffPost (!decide (l1.map BV.m = l2.map BV.m)) w) := by
  refine f60_ok ?_
  unfold f60
  refine kcall_of (EqualFunc_spec l1 l2 _ _ _ _ h1 h2 hn 84 (rr BV.id BV.id l1 l2) fun i i1 i2 w' hw' => ?_) ?_
  · rw [rr_at BV.id BV.id l1 l2 i i1 i2]
    exact beings1_spec _ _
  rintro v w2 ⟨rfl, hw2⟩
  rw [rr_law, kun_not, kB_bool]
  refine kIf_of (fun hne => ?_) (fun he => ?_)
  · have hne : ¬ l1.map BV.id = l2.map BV.id := by simpa using hne
    refine ⟨⟨⟨#[98, 101, 105, 110, 103, 115]⟩, ?_⟩, hw2⟩
    rw [decide_eq_false (show ¬ l1.map BV.m = l2.map BV.m from fun h => hne ((bv_map_m _ _).1 h).1)]
    rfl
  have he : l1.map BV.id = l2.map BV.id := by simpa using he
  have hl : l1.length = l2.length := by simpa using congrArg List.length he
  unfold f60_0
  rw [klen_slice]
  refine kL_of (EqInv l1.length (rr BV.parts BV.parts l1 l2) w) (fun x _ => l1.length - (RowKit.intOf x).toNat) ⟨⟨0, by omega, rfl, by simp, hw2⟩, ?_⟩
  rintro x wr ⟨i, hi, rfl, hr, hm⟩
  unfold f60_1
  rw [kint_lss, kB_bool]
  refine kIf_dec (fun hlt => ?_) (fun hge => ?_)
  · have hlt : i < l1.length := by omega
    have hlt2 : i < l2.length := by omega
    unfold f60_2
    refine kixldN_of (F := BV.cells) (fun _ => rfl) (by omega) (h1.same hm) hlt rfl ?_
    refine knew_of fun w10 h10 hs10 hb10 => ?_
    refine kst_of (vs := l1[i].cells) hb10 rfl rfl rfl (by simp) (by simp [BV.cells]) fun w11 h11 hs11 hb11 => ?_
    have hb11 : blk w11.drew wr.heap.size = some (.cells l1[i].cells.toArray 85) := hb11
    have hm11 : Same wr w11.drew := (Mod.after h10 h11 (fun b hb => by omega)).drew
    have hm11 := hm.trans hm11
    generalize w11.drew = wd at *
    refine kfld_of ?_
    refine kld_of (v := .slice l1[i].pa l1[i].parts.length l1[i].pc) hb11 rfl ?_
    refine kG_of rfl ?_
    refine kixfld_of (F := BV.cells) (fun _ => rfl) (h2.same hm11) hlt2 (v := .slice l2[i].pa l2[i].parts.length l2[i].pc) rfl rfl ?_
    refine kG_of rfl ?_
    have o1 := (k1 _ (List.getElem_mem hlt)).same hm11
    have o2 := (k2 _ (List.getElem_mem hlt2)).same hm11
    refine kcall_of (eqParts_spec l1[i].parts l2[i].parts o1.2.1 o2.2.1 _ _ _ _ o1.2.2 o2.2.2 (hq _ (List.getElem_mem hlt))) ?_
    rintro v w18 ⟨rfl, h18⟩
    have m18 := hm11.trans h18
    rw [kun_not, kB_bool]
    have hr' := rr_at BV.parts BV.parts l1 l2 i hlt hlt2
    refine kIf_of (fun hb => ?_) (fun hb => ?_)
    · refine kfld_of ?_
      refine kld_of (v := .int .i64 l1[i].id) (h18.get hb11 (fun h => h)) rfl ?_
      refine kcall_of (itoa_spec (hp.same m18) _) ?_
      rintro v w23 ⟨⟨l, hl24, rfl⟩, h23⟩
      rw [kstr_add]
      refine kG_of ?_ ?_
      · rw [bs_size]
        show 6 + l.length ≤ 9223372036854775807
        omega
      have hne : ¬ l1.map BV.m = l2.map BV.m := by
        intro h
        have h := ((bv_map_m _ _).1 h).2
        have := List.getElem_of_eq h (i := i) (by simpa using hlt)
        have hb : ¬ l1[i].parts = l2[i].parts := by simpa using hb
        exact hb (by simpa using this)
      rw [decide_eq_false hne]
      exact ⟨⟨_, rfl⟩, m18.trans h23⟩
    · unfold f60_3
      rw [kint_add, i64_succ (by omega)]
      refine ⟨⟨i + 1, by omega, rfl, fun j hj => ?_, m18⟩, by simp [RowKit.intOf]; omega⟩
      by_cases e : j = i
      · rw [e, hr']; simpa using hb
      · exact hr j (by omega)
  · have : i = l1.length := by omega
    subst this
    unfold f60_4
    have law := rr_law BV.parts BV.parts l1 l2
    rw [decide_eq_true hl, Bool.true_and, List.all_eq_true.2 (fun j hj => hr j (by simpa using hj))] at law
    have hpe : l1.map BV.parts = l2.map BV.parts := of_decide_eq_true law.symm
    refine ⟨⟨⟨#[]⟩, ?_⟩, hm⟩
    rw [decide_eq_true ((bv_map_m l1 l2).2 ⟨he, hpe⟩)]
    rfl
theorem Differs_spec {w : World} (hp : PowAt w) (s t : SV) (hs : s.ok w) (ht : t.ok w) (hf : s.few) :
    Meets Tryd.prog 24 #[s.val, t.val] w (DiffPost (!decide (s.m = t.m)) w) := by
  refine f24_ok ?_
  unfold f24
  refine knew_of fun w2 h2 hs2 hb1 => ?_
  refine knew_of fun w4 h4 hs4 hb3 => ?_
  have hb1 : blk w4 w.heap.size = some (.cells s.cells.toArray 55) := h4.get hb1 (fun h => h)
  have hb3 : blk w4 w2.heap.size = some (.cells t.cells.toArray 55) := hb3
  have m4 := h2.trans h4
  refine kldN_of (cs := s.cells) hb1 (by simp [SV.cells]) rfl (by omega) ?_
  refine kldN_of (cs := t.cells) hb3 (by simp [SV.cells]) rfl (by omega) ?_
  refine kcall_of (Same_spec s t (hs.same m4) (ht.same m4) hf) ?_
  rintro v w8 ⟨rfl, h8⟩
  have m8 := m4.trans h8
  have hb1 := h8.get hb1 (fun h => h)
  have hb3 := h8.get hb3 (fun h => h)
  rw [kB_bool]
  refine kIf_dec (fun e => ?_) (fun e => ?_)
  · exact ⟨⟨_, by rw [decide_eq_true e]; rfl⟩, m8⟩
  rw [decide_eq_false e, Bool.not_false]
  have hbl := hs.2.2.2.2.1
  obtain ⟨_, _, _, _, hsb, hsba, hsra⟩ := hs.same m8
  obtain ⟨_, _, _, _, htb, htba, htra⟩ := ht.same m8
  obtain ⟨f1, f2, f3⟩ := hf
  refine kfld_of ?_
  refine kld_of (v := .int .i64 s.frame) hb1 rfl ?_
  refine kfld_of ?_
  refine kld_of (v := .int .i64 t.frame) hb3 rfl ?_
  rw [kint_neq, kB_bool]
  refine kIf_dec (fun _ => ⟨⟨_, rfl⟩, m8⟩) (fun e1 => ?_)
  refine kfld_of ?_
  refine kld_of (v := .int .i64 s.next) hb1 rfl ?_
  refine kfld_of ?_
  refine kld_of (v := .int .i64 t.next) hb3 rfl ?_
  rw [kint_neq, kB_bool]
  refine kIf_dec (fun _ => ⟨⟨_, rfl⟩, m8⟩) (fun e2 => ?_)
  refine kfld_of ?_
  refine kld_of (v := .int .i64 s.seed) hb1 rfl ?_
  refine kfld_of ?_
  refine kld_of (v := .int .i64 t.seed) hb3 rfl ?_
  rw [kint_neq, kB_bool]
  refine kIf_dec (fun _ => ⟨⟨_, rfl⟩, m8⟩) (fun e3 => ?_)
  refine kfld_of ?_
  refine kld_of (v := .slice s.ra s.rl.length s.rc) hb1 rfl ?_
  refine kfld_of ?_
  refine kld_of (v := .slice t.ra t.rl.length t.rc) hb3 rfl ?_
  refine kcall_of (eqInts_spec s.rl t.rl _ _ _ _ hsra htra f2) ?_
  rintro v w29 ⟨rfl, h29⟩
  have m29 := m8.trans h29
  rw [kun_not, kB_bool]
  refine kIf_of (fun _ => ⟨⟨_, rfl⟩, m29⟩) (fun e4 => ?_)
  have e4 : s.rl = t.rl := by simpa using e4
  unfold f24_0
  refine kfld_of ?_
  refine kld_of (v := .slice s.ba s.bl.length s.bc) (h29.get hb1 (fun h => h)) rfl ?_
  refine kfld_of ?_
  refine kld_of (v := .slice t.ba t.bl.length t.bc) (h29.get hb3 (fun h => h)) rfl ?_
  refine kcall_of (beings_spec (hp.same m29) s.bl t.bl (fun b hb => (hsb b hb).same h29) (fun b hb => (htb b hb).same h29) _ _ _ _ (hsba.same h29) (htba.same h29) f1 f3) ?_
  rintro v w36 ⟨⟨str, rfl⟩, h36⟩
  refine kext_of (v := .string str) rfl ?_
  refine kext_of (v := .bool (!decide (s.bl.map BV.m = t.bl.map BV.m))) rfl ?_
  have hne : ¬ s.bl.map BV.m = t.bl.map BV.m := by
    intro h
    apply e
    have e1 : s.frame = t.frame := by simpa using e1
    have e2 : s.next = t.next := by simpa using e2
    have e3 : s.seed = t.seed := by simpa using e3
    unfold SV.m
    rw [e1, e2, e3, e4, h]
  rw [decide_eq_false hne]
  exact ⟨⟨str, rfl⟩, m29.trans h36⟩

/-! ### seal.Sum -/
theorem ptTal : isPtrT Tryd.prog 157 = true := by kernel_rfl
def stepF (s : Int) (b : UInt8) : Int := IntKind.u64.wrap (ixor .u64 s (IntKind.u64.wrap (b.toNat : Int)) * 1099511628211)
def sumF (l : List UInt8) : Int := l.foldl stepF 14695981039346656037
def AddInv (l : List UInt8) (s : Int) (b : Nat) (t : TypeId) (w : World) (x : Value) (wr : World) : Prop := ∃ i : Nat, i ≤ l.length ∧ x = .int .i64 i ∧ blk wr b = some (.cells #[.int .u64 ((l.take i).foldl stepF s)] t) ∧ Mod (fun k => k = b) w wr
theorem add_spec {w : World} (l : List UInt8) (hl : l.length ≤ 32768) (s : Int) (b : Nat) (t : TypeId) (hb : blk w b = some (.cells #[.int .u64 s] t)) :
    Meets Tryd.prog 87 #[.pointer (some ⟨b, 0, none⟩), .string (bs l)] w fun v w' => blk w' b = some (.cells #[.int .u64 (l.foldl stepF s)] t) ∧ Mod (fun k => k = b) w w' := by
  have hstep : ∀ (w : World) (s : Int) (x : UInt8), Meets Tryd.prog 102 #[.int .u64 s, .int .u8 (x.toNat : Int)] w fun v w' => v = .int .u64 (stepF s x) ∧ w' = w := by
    intro w s x
    refine f102_ok ?_
    unfold f102
    rw [kcnv_int, kint_xor, kint_mul]
    exact ⟨rfl, rfl⟩
  refine f87_ok ?_
  unfold f87
  rw [keq_ptr_nil ptTal, kB_bool]
  refine kIf_of (fun h => by cases h) (fun _ => ?_)
  unfold f87_0
  rw [klenStr_string, bs_size]
  refine kL_of (AddInv l s b t w) (fun x _ => l.length - (RowKit.intOf x).toNat) ⟨⟨0, by omega, rfl, by simpa using hb, Mod.refl _ _⟩, ?_⟩
  rintro x wr ⟨i, hi, rfl, hbr, hm⟩
  unfold f87_1
  rw [kint_lss, kB_bool]
  refine kIf_dec (fun hlt => ?_) (fun hge => ?_)
  · have hlt : i < l.length := by omega
    unfold f87_2
    have hm := hm.drew
    have hbr : blk wr.drew b = some (.cells #[.int .u64 ((l.take i).foldl stepF s)] t) := hbr
    generalize wr.drew = wd at *
    rw [kN_ptr]
    refine kfld_of ?_
    refine kld_of (v := .int .u64 ((l.take i).foldl stepF s)) hbr rfl ?_
    refine kG_of rfl ?_
    rw [kiv_string]
    refine kG_of (by omega) ?_
    rw [bs_get, Int.toNat_natCast, List.getElem?_eq_getElem hlt]
    refine kO_of rfl ?_
    refine kcall_of (hstep wd _ _) ?_
    rintro v w10 ⟨rfl, rfl⟩
    rw [kN_ptr]
    refine kfld_of ?_
    refine kst_of (vs := [.int .u64 (stepF ((l.take i).foldl stepF s) l[i])]) hbr rfl rfl rfl (by simp) (by simp) fun w12 h12 hs12 hb12 => ?_
    unfold f87_3
    rw [kint_add, i64_succ (by omega)]
    refine ⟨⟨i + 1, by omega, rfl, ?_, hm.trans h12⟩, by simp [RowKit.intOf]; omega⟩
    rw [hb12, List.take_succ_eq_append_getElem hlt, List.foldl_append]
    rfl
  · have : i = l.length := by omega
    subst this
    rw [List.take_length] at hbr
    exact ⟨hbr, hm⟩
def OfInv (l : List UInt8) (b : Nat) (t : TypeId) (w : World) (x : Value) (wr : World) : Prop := ∃ i : Nat, i ≤ 1 ∧ x = .int .i64 i ∧ (i = 0 → blk wr b = some (.cells #[.int .u64 14695981039346656037] t)) ∧ (i = 1 → blk wr b = some (.cells #[.int .u64 (sumF l)] t)) ∧ Mod (fun k => k = b) w wr
theorem tallyOf_spec {w : World} (l : List UInt8) (hl : l.length ≤ 32768) (a : Option Addr) (c : Nat) (hsl : SlIs w a 1 1 [.string (bs l)]) :
    Meets Tryd.prog 61 #[.slice a 1 c] w fun v w' => v = .int .u64 (sumF l) ∧ Same w w' := by
  refine f61_ok ?_
  unfold f61
  have hnew : Meets Tryd.prog 86 #[] w fun v w' => v = .pointer (some ⟨w.heap.size, 0, none⟩) ∧ Same w w' ∧ blk w' w.heap.size = some (.cells #[.int .u64 14695981039346656037] 173) := by
    refine f86_ok ?_
    unfold f86
    refine kbld_of (cs := [.int .u64 14695981039346656037]) rfl ?_
    refine knew_of fun w3 h3 hs3 hb3 => ?_
    exact ⟨rfl, h3, hb3⟩
  refine kcall_of hnew ?_
  rintro v w2 ⟨rfl, h2, hb2⟩
  have hsl2 := hsl.same h2
  have hab : ∀ b o, a = some ⟨b, o, none⟩ → b < w.heap.size := by
    intro b o e
    rcases hsl.2 with h0 | ⟨b', o', c', t', f', e', hb', _⟩
    · cases h0
    · rw [e] at e'; cases e'; exact lt_of_blk hb'
  rw [klen_slice]
  refine kL_of (OfInv l w.heap.size 173 w2) (fun x _ => 1 - (RowKit.intOf x).toNat) ⟨⟨0, by omega, rfl, fun _ => hb2, by simp, Mod.refl _ _⟩, ?_⟩
  rintro x wr ⟨i, hi, rfl, hb0, hb1, hm⟩
  unfold f61_0
  rw [kint_lss, kB_bool]
  refine kIf_dec (fun hlt => ?_) (fun hge => ?_)
  · have : i = 0 := by omega
    subst this
    have hb0 := hb0 rfl
    have hslr : SlIs wr a 1 1 ([bs l].map Value.string) := hsl2.mod hm fun b o e h => by have := hab b o e; omega
    unfold f61_1
    refine kixld_of (F := Value.string) (l := [bs l]) hslr (by simp) rfl ?_
    refine kcall_of (add_spec l hl _ _ _ hb0) ?_
    rintro v w9 ⟨hb9, h9⟩
    unfold f61_2
    rw [kint_add, i64_succ (by omega)]
    exact ⟨⟨1, by omega, rfl, by simp, fun _ => hb9, hm.trans h9⟩, by simp [RowKit.intOf]⟩
  · have : i = 1 := by omega
    subst this
    have hb1 := hb1 rfl
    unfold f61_3
    have hsum : Meets Tryd.prog 88 #[.pointer (some ⟨w.heap.size, 0, none⟩)] wr fun v w' => v = .int .u64 (sumF l) ∧ w' = wr := by
      refine f88_ok ?_
      unfold f88
      rw [keq_ptr_nil ptTal, kB_bool]
      refine kIf_of (fun h => by cases h) (fun _ => ?_)
      unfold f88_0
      rw [kN_ptr]
      refine kfld_of ?_
      refine kld_of (v := .int .u64 (sumF l)) hb1 rfl ?_
      exact ⟨rfl, rfl⟩
    refine kcall_of hsum ?_
    rintro v w12 ⟨rfl, rfl⟩
    exact ⟨rfl, h2.trans' (hm.mono fun i _ hi => .inr (by omega))⟩
def sumM (m : SM) : Int := if goodF m = true ∧ (bytesF m).length ≤ 32768 then sumF (bytesF m) else 0
theorem Sum_spec {S : Nat → Addr} {w : World} (hL : LaidN 4 S w) (s : SV) (hs : s.ok w) (hn : ∀ b ∈ s.bl, b.parts.length ≤ 4611686018427387904) :
    Meets Tryd.prog 25 #[s.val] w fun v w' => v = .int .u64 (sumM s.m) ∧ Same w w' := by
  refine f25_ok ?_
  unfold f25
  refine knew_of fun w2 h2 hs2 hb1 => ?_
  have hb1 : blk w2 w.heap.size = some (.cells s.cells.toArray 55) := hb1
  refine kldN_of (cs := s.cells) hb1 (by simp [SV.cells]) rfl (by omega) ?_
  refine kcall_of (Bytes_spec (hL.same h2) s (hs.same h2) hn) ?_
  rintro v w5 ⟨h5, hv⟩
  have m5 := h2.trans h5
  rcases hv with ⟨hg, hlen, rfl⟩ | ⟨hbad, t, x, rfl⟩
  · refine kext_of (v := .string (bs (bytesF s.m))) rfl ?_
    refine kext_of (v := .nilIface) rfl ?_
    rw [keq_nil_nil' ifErr, kB_bool, kIf_false]
    unfold f25_0
    refine kbldS_of (cs := [.string (bs (bytesF s.m))]) rfl fun w11 h11 hs11 hb11 => ?_
    refine kcall_of (tallyOf_spec (bytesF s.m) hlen _ _ (SlIs.blk hb11 rfl)) ?_
    rintro v w13 ⟨rfl, h13⟩
    exact ⟨by unfold sumM; rw [if_pos ⟨hg, hlen⟩], m5.trans (h11.trans h13)⟩
  · refine kext_of (v := .string (bs [])) rfl ?_
    refine kext_of (v := .iface t x) rfl ?_
    rw [keq_if_nil' ifErr, kB_bool, kIf_true]
    refine ⟨?_, m5⟩
    unfold sumM
    rw [if_neg]
    rintro ⟨hg, hlen⟩
    rcases hbad with h | h
    · rw [hg] at h; cases h
    · omega
end Go.Proofs.YtcabkicjboedaaaDoor
end
section
namespace Go.Proofs.YtcabkicjboedaaaDoor
open Go Go.Ev
set_option linter.unusedVariables false
set_option linter.unusedSimpArgs false
set_option maxRecDepth 100000

/-! ### What was written is read as it was -/
theorem bytesF_inj {m n : SM} (h1 : m.valid) (h2 : n.valid) (g1 : goodF m = true) (g2 : goodF n = true) (l1 : (bytesF m).length ≤ 32768) (l2 : (bytesF n).length ≤ 32768) (h : bytesF m = bytesF n) : m = n := by
  have a := readF_fwd h1 g1 [] (by simpa using l1)
  have b := readF_fwd h2 g2 [] (by simpa using l2)
  rw [h, b] at a
  exact (congrArg Prod.fst a).symm
theorem read_own {m : SM} (h1 : m.valid) (g1 : goodF m = true) (l1 : (bytesF m).length ≤ 32768) : (readF (bytesF m)).1 = m ∧ okEnd (readF (bytesF m)).1 (readF (bytesF m)).2 = true := by
  have a := readF_fwd h1 g1 [] (by simpa using l1)
  rw [List.append_nil] at a
  rw [a]
  exact ⟨rfl, by rw [okEnd_clean g1]; rfl⟩
theorem few_of {s : SV} (h : greatNot s) : s.few := ⟨by have := h.1; omega, by have := h.2.1; omega, fun b hb => by have := (h.2.2 b hb).1; omega⟩
set_option maxHeartbeats 4000000 in
theorem SealBack_spec {S : Nat → Addr} {w : World} (hL : LaidN 4 S w) (hd : DeAt w) (hp : PowAt w) (s t : SV) (hs : s.ok w) (ht : t.ok w) :
    Meets Tryd.prog 7 #[s.val, t.val] w fun v w' => v = .bool true ∧ Same w w' := by
  refine f7_ok ?_
  unfold f7
  refine knew_of fun w2 h2 hs2 hb1 => ?_
  refine knew_of fun w4 h4 hs4 hb3 => ?_
  have hb1 : blk w4 w.heap.size = some (.cells s.cells.toArray 55) := h4.get hb1 (fun h => h)
  have hb3 : blk w4 w2.heap.size = some (.cells t.cells.toArray 55) := hb3
  generalize hB1 : w.heap.size = B1 at *
  generalize hB3 : w2.heap.size = B3 at *
  have m4 := h2.trans h4
  refine kcall_of (awake22_spec (hL.same m4) (hd.same m4)) ?_
  rintro v w6 ⟨rfl, h6⟩
  have hb1 := h6.get hb1 (fun h => h)
  have hb3 := h6.get hb3 (fun h => h)
  have m6 := m4.trans h6
  rw [kun_not, kB_bool]
  refine kIf_of (fun h => by cases h) (fun _ => ?_)
  unfold f7_0
  refine kldN_of (cs := s.cells) hb1 (by simp [SV.cells]) rfl (by omega) ?_
  refine kcall_of (great_spec s (hs.same m6)) ?_
  rintro v w10 ⟨⟨g, rfl, hg⟩, h10⟩
  have hb1 := h10.get hb1 (fun h => h)
  have hb3 := h10.get hb3 (fun h => h)
  have m10 := m6.trans h10
  have out : ∀ wr, Same w wr → f7_1 (.pointer (some ⟨B1, 0, none⟩)) (.pointer (some ⟨B3, 0, none⟩)) (.bool true) (fun v w' => v = .bool true ∧ Same w w') wr := by
    intro wr hm
    unfold f7_1
    rw [kB_bool, kIf_true]
    exact ⟨rfl, hm⟩
  rw [kB_bool]
  refine kIf_of (fun hgf => ?_) (fun _ => out _ m10)
  have gs := hg (by simpa using hgf)
  refine kldN_of (cs := t.cells) hb3 (by simp [SV.cells]) rfl (by omega) ?_
  refine kcall_of (great_spec t (ht.same m10)) ?_
  rintro v w14 ⟨⟨g', rfl, hg'⟩, h14⟩
  have hb1 := h14.get hb1 (fun h => h)
  have hb3 := h14.get hb3 (fun h => h)
  have m14 := m10.trans h14
  by_cases hgf' : g' = true
  · rw [hgf']; exact out _ m14
  have gt := hg' (by simpa using hgf')
  have hgf' : g' = false := by simpa using hgf'
  rw [hgf']
  unfold f7_1
  rw [kB_bool, kIf_false]
  clear out hg hg' hgf hgf'
  have fs := few_of gs
  have ft := few_of gt
  have ns : ∀ b ∈ s.bl, b.parts.length ≤ 4611686018427387904 := fun b hb => by have := (gs.2.2 b hb).1; omega
  have nt : ∀ b ∈ t.bl, b.parts.length ≤ 4611686018427387904 := fun b hb => by have := (gt.2.2 b hb).1; omega
  have vs := valid_of hs
  have vt := valid_of ht
  have inj := bytesF_inj vs vt
  have own := read_own vs
  -- the end: what was written is read
  have fin : ∀ (wr : World) (v18 v19 : Value), Same w wr → blk wr B1 = some (.cells s.cells.toArray 55) →
      ((goodF s.m = true ∧ (bytesF s.m).length ≤ 32768 ∧ v18 = .string (bs (bytesF s.m)) ∧ v19 = .nilIface) ∨ (v18 = .string (bs []) ∧ ∃ t x, v19 = .iface t x)) →
      f7_3 (.pointer (some ⟨B1, 0, none⟩)) v18 v19 (.bool false) (fun v w' => v = .bool true ∧ Same w w') wr := by
    intro wr v18 v19 hm hb1 hv
    unfold f7_3
    rw [kB_bool, kIf_false]
    unfold f7_4
    rcases hv with ⟨hg, hl, rfl, rfl⟩ | ⟨rfl, ty, x, rfl⟩
    · rw [keq_nil_nil' ifErr, kB_bool, kIf_false]
      unfold f7_5
      obtain ⟨o1, o2⟩ := own hg hl
      have hrd := Read_spec (hL.same hm) (hd.same hm) (bytesF s.m) (by omega)
      rw [o2, o1] at hrd
      refine kcall_of hrd ?_
      rintro v w66 ⟨h66, hv⟩
      have m66 := hm.trans h66
      rcases hv with ⟨_, sv, rfl, hsm, hsok, hsn⟩ | ⟨hb, _⟩
      rotate_left
      · cases hb
      refine kext_of (v := sv.val) rfl ?_
      refine kext_of (v := .nilIface) rfl ?_
      refine knew_of fun w70 h70 hs70 hb70 => ?_
      refine kst_of (vs := sv.cells) hb70 rfl rfl rfl (by simp) (by simp [SV.cells]) fun w71 h71 hs71 hb71 => ?_
      have hb71 : blk w71 w66.heap.size = some (.cells sv.cells.toArray 55) := hb71
      have h71' : Same w66 w71 := Mod.after h70 h71 (fun b hb => by omega)
      have m71 := m66.trans h71'
      have hb1 := (h66.trans h71').get hb1 (fun h => h)
      rw [keq_nil_nil ifErr, kB_bool, kIf_true]
      refine kldN_of (cs := sv.cells) hb71 (by simp [SV.cells]) rfl (by omega) ?_
      refine kldN_of (cs := s.cells) hb1 (by simp [SV.cells]) rfl (by omega) ?_
      have fsv : sv.few := by
        have e1 : sv.m.beings.length = s.m.beings.length := by rw [hsm]
        have e2 : sv.m.res.length = s.m.res.length := by rw [hsm]
        have e3 : sv.bl.length = s.bl.length := by simpa [SV.m] using e1
        have e4 : sv.rl.length = s.rl.length := by simpa [SV.m] using e2
        have := fs.1
        have := fs.2.1
        exact ⟨by omega, by omega, fun b hb => by have := hsn b hb; omega⟩
      refine kcall_of (Same_spec sv s (hsok.same h71') (hs.same m71) fsv) ?_
      rintro v w78 ⟨rfl, h78⟩
      rw [decide_eq_true hsm, kB_bool, kIf_true]
      refine kldN_of (cs := sv.cells) (h78.get hb71 (fun h => h)) (by simp [SV.cells]) rfl (by omega) ?_
      refine kcall_of (Good_spec sv (hsok.same (h71'.trans h78)) (fun b hb => by have := hsn b hb; omega)) ?_
      rintro v w82 ⟨rfl, h82⟩
      rw [hsm, hg]
      exact ⟨rfl, m71.trans (h78.trans h82)⟩
    · rw [keq_if_nil' ifErr, kB_bool, kIf_true, kstr_eql]
      exact ⟨rfl, hm⟩
  -- the same state has one sum
  have sums : ∀ (wr : World) (v18 v19 : Value), Same w wr → blk wr B1 = some (.cells s.cells.toArray 55) → blk wr B3 = some (.cells t.cells.toArray 55) →
      ((goodF s.m = true ∧ (bytesF s.m).length ≤ 32768 ∧ v18 = .string (bs (bytesF s.m)) ∧ v19 = .nilIface) ∨ (v18 = .string (bs []) ∧ ∃ t x, v19 = .iface t x)) →
      (kIf (decide (s.m = t.m))
        (kldN 5 (.pointer (some ⟨B1, 0, none⟩)) wr fun v55 => kG (wr = wr) <|
          kcall Tryd.prog 25 #[v55] wr fun v56 w57 => kldN 5 (.pointer (some ⟨B3, 0, none⟩)) w57 fun v58 => kG (w57 = w57) <|
          kG (kldN 5 (.pointer (some ⟨B3, 0, none⟩)) wr fun v85 => v85 = v58 ∧ wr = wr) <|
          kcall Tryd.prog 25 #[v58] w57 fun v59 w60 => kint .u64 .neq v56 v59 fun v61 =>
          f7_3 (.pointer (some ⟨B1, 0, none⟩)) v18 v19 v61 (fun v w' => v = .bool true ∧ Same w w') w60)
        (f7_3 (.pointer (some ⟨B1, 0, none⟩)) v18 v19 (.bool false) (fun v w' => v = .bool true ∧ Same w w') wr)) := by
    intro wr v18 v19 hm hb1 hb3 hv
    refine kIf_dec (fun e => ?_) (fun _ => fin wr v18 v19 hm hb1 hv)
    refine kldN_of (cs := s.cells) hb1 (by simp [SV.cells]) rfl (by omega) ?_
    refine kG_of rfl ?_
    refine kcall_of (Sum_spec (hL.same hm) s (hs.same hm) ns) ?_
    rintro v w57 ⟨rfl, h57⟩
    have hb1' := h57.get hb1 (fun h => h)
    have hb3' := h57.get hb3 (fun h => h)
    have m57 := hm.trans h57
    refine kldN_of (cs := t.cells) hb3' (by simp [SV.cells]) rfl (by omega) ?_
    refine kG_of rfl ?_
    refine kG_of ?_ ?_
    · refine kldN_of (cs := t.cells) hb3 (by simp [SV.cells]) rfl (by omega) ?_
      exact ⟨rfl, rfl⟩
    refine kcall_of (Sum_spec (hL.same m57) t (ht.same m57) nt) ?_
    rintro v w60 ⟨rfl, h60⟩
    rw [kint_neq, e, decide_eq_false (by simp)]
    exact fin w60 v18 v19 (m57.trans h60) (h60.get hb1' (fun h => h)) hv
  unfold f7_2
  refine kldN_of (cs := s.cells) hb1 (by simp [SV.cells]) rfl (by omega) ?_
  refine kcall_of (Bytes_spec (hL.same m14) s (hs.same m14) ns) ?_
  rintro v w17 ⟨h17, hv⟩
  have hb1 := h17.get hb1 (fun h => h)
  have hb3 := h17.get hb3 (fun h => h)
  have m17 := m14.trans h17
  -- what follows, for either end of the first writing
  have rest : ∀ (v18 v19 : Value), ((goodF s.m = true ∧ (bytesF s.m).length ≤ 32768 ∧ v18 = .string (bs (bytesF s.m)) ∧ v19 = .nilIface) ∨ (v18 = .string (bs []) ∧ ∃ t x, v19 = .iface t x)) → v = .tuple #[v18, v19] → True := fun _ _ _ _ => trivial
  clear rest
  have hvv : ∃ v18 v19, v = .tuple #[v18, v19] ∧ ((goodF s.m = true ∧ (bytesF s.m).length ≤ 32768 ∧ v18 = .string (bs (bytesF s.m)) ∧ v19 = .nilIface) ∨ (v18 = .string (bs []) ∧ ∃ t x, v19 = .iface t x)) := by
    rcases hv with ⟨a, b, rfl⟩ | ⟨_, ty, x, rfl⟩
    · exact ⟨_, _, rfl, .inl ⟨a, b, rfl, rfl⟩⟩
    · exact ⟨_, _, rfl, .inr ⟨rfl, ty, x, rfl⟩⟩
  obtain ⟨v18, v19, rfl, hv1⟩ := hvv
  clear hv
  refine kext_of (v := v18) rfl ?_
  refine kext_of (v := v19) rfl ?_
  refine kldN_of (cs := t.cells) hb3 (by simp [SV.cells]) rfl (by omega) ?_
  refine kcall_of (Bytes_spec (hL.same m17) t (ht.same m17) nt) ?_
  rintro v w22 ⟨h22, hv⟩
  have hb1 := h22.get hb1 (fun h => h)
  have hb3 := h22.get hb3 (fun h => h)
  have m22 := m17.trans h22
  have hvv : ∃ v23 v24, v = .tuple #[v23, v24] ∧ ((goodF t.m = true ∧ (bytesF t.m).length ≤ 32768 ∧ v23 = .string (bs (bytesF t.m)) ∧ v24 = .nilIface) ∨ (v23 = .string (bs []) ∧ ∃ t x, v24 = .iface t x)) := by
    rcases hv with ⟨a, b, rfl⟩ | ⟨_, ty, x, rfl⟩
    · exact ⟨_, _, rfl, .inl ⟨a, b, rfl, rfl⟩⟩
    · exact ⟨_, _, rfl, .inr ⟨rfl, ty, x, rfl⟩⟩
  obtain ⟨v23, v24, rfl, hv2⟩ := hvv
  clear hv
  refine kext_of (v := v23) rfl ?_
  refine kext_of (v := v24) rfl ?_
  refine kldN_of (cs := s.cells) hb1 (by simp [SV.cells]) rfl (by omega) ?_
  refine kldN_of (cs := t.cells) hb3 (by simp [SV.cells]) rfl (by omega) ?_
  refine kcall_of (Same_spec s t (hs.same m22) (ht.same m22) fs) ?_
  rintro v w28 ⟨rfl, h28⟩
  have hb1 := h28.get hb1 (fun h => h)
  have hb3 := h28.get hb3 (fun h => h)
  have m28 := m22.trans h28
  refine kldN_of (cs := s.cells) hb1 (by simp [SV.cells]) rfl (by omega) ?_
  refine kldN_of (cs := t.cells) hb3 (by simp [SV.cells]) rfl (by omega) ?_
  refine kcall_of (Differs_spec (hp.same m28) s t (hs.same m28) (ht.same m28) fs) ?_
  rintro v w32 ⟨⟨d1, rfl⟩, h32⟩
  have hb1 := h32.get hb1 (fun h => h)
  have hb3 := h32.get hb3 (fun h => h)
  have m32 := m28.trans h32
  refine kext_of (v := .string d1) rfl ?_
  refine kext_of (v := .bool (!decide (s.m = t.m))) rfl ?_
  refine kldN_of (cs := t.cells) hb3 (by simp [SV.cells]) rfl (by omega) ?_
  refine kldN_of (cs := s.cells) hb1 (by simp [SV.cells]) rfl (by omega) ?_
  refine kcall_of (Differs_spec (hp.same m32) t s (ht.same m32) (hs.same m32) ft) ?_
  rintro v w38 ⟨⟨d2, rfl⟩, h38⟩
  have hb1 : blk w38.drew B1 = some (.cells s.cells.toArray 55) := h38.get hb1 (fun h => h)
  have hb3 : blk w38.drew B3 = some (.cells t.cells.toArray 55) := h38.get hb3 (fun h => h)
  have m38 := (m32.trans h38).drew
  generalize w38.drew = wd at *
  refine kext_of (v := .string d2) rfl ?_
  refine kext_of (v := .bool (!decide (t.m = s.m))) rfl ?_
  have hsym : decide (t.m = s.m) = decide (s.m = t.m) := by
    rw [Bool.eq_iff_iff]; simp [eq_comm]
  have e1 : ((!decide (s.m = t.m)) == decide (s.m = t.m)) = false := by cases decide (s.m = t.m) <;> rfl
  have e2 : (!((!decide (s.m = t.m)) == (!decide (s.m = t.m)))) = false := by simp
  rw [kbool_eql, e1, kB_bool, Bool.not_false, kIf_true, hsym, kbool_neq, e2, kB_bool, Bool.not_false, kIf_true]
  have S := sums wd v18 v19 m38 hb1 hb3 hv1
  rcases hv1 with ⟨g1, l1, rfl, rfl⟩ | ⟨rfl, ty1, x1, rfl⟩
  · rw [keq_nil_nil ifErr]
    refine kG_of rfl ?_
    rw [kB_bool, kIf_true]
    rcases hv2 with ⟨g2, l2, rfl, rfl⟩ | ⟨rfl, ty2, x2, rfl⟩
    · rw [keq_nil_nil ifErr]
      refine kG_of rfl ?_
      rw [kB_bool, kIf_true, kstr_eql, kbool_neq]
      have e3 : decide (bs (bytesF s.m) = bs (bytesF t.m)) = decide (s.m = t.m) := by
        rw [Bool.eq_iff_iff, decide_eq_true_eq, decide_eq_true_eq, bs_inj]
        exact ⟨inj g1 g2 l1 l2, fun h => by rw [h]⟩
      have e4 : (!(decide (s.m = t.m) == decide (s.m = t.m))) = false := by simp
      rw [e3, e4, kB_bool, Bool.not_false, kIf_true, kB_bool]
      exact S
    · rw [keq_if_nil ifErr]
      refine kG_of rfl ?_
      rw [kB_bool, kIf_false, kB_bool]
      exact S
  · rw [keq_if_nil ifErr]
    refine kG_of rfl ?_
    rw [kB_bool, kIf_false, kB_bool]
    exact S
end Go.Proofs.YtcabkicjboedaaaDoor
end
section
namespace Go.Proofs.YtcabkicjboedaaaDoor
open Go Go.Ev Go.RowKit Go.ChangeShapes Go.WideShapes Go.ChangeAt
set_option linter.unusedVariables false
set_option maxRecDepth 100000
namespace SB3
theorem cU64 : Tryd.prog.cellsOf 68 = 1 := by kernel_rfl
theorem gPow : Tryd.prog.globalNamed "internal/strconv.uint64pow10" = some 20 := by kernel_rfl
theorem tPow : (Tryd.prog.globals[20]?).map (·.type) = some 188 := by kernel_rfl
theorem cPow : Tryd.prog.cellsOf 188 = 20 := by kernel_rfl
/-- The table of powers is numbers. -/
theorem pow_of {W : World} (h : laidMetH Tryd.prog Rows.sealReadsRow.laid W) : PowAt W := by
  rw [MakeChecks.laidMetH_plain _ _ _ (by kernel_rfl), SL.laid_eq] at h
  obtain ⟨ps, hv, hnd, hrows⟩ := h
  obtain ⟨g0, t0, cs0, f0, p0, q0, _, _, _, _, ⟨g1, t1, cs1, f1, p1, q1, _, _, _, _, ⟨g2, t2, cs2, f2, p2, q2, hg2, ht2, hv2, hd2, hq, e2⟩, e1⟩, e0⟩ := hv
  obtain rfl := Option.some.inj (gPow.symm.trans hg2)
  obtain rfl := Option.some.inj (tPow.symm.trans ht2)
  obtain ⟨xs, m, _, hx, hl, hxl, hel⟩ := DataW.trod_array Tryd.underlying188 hd2
  obtain ⟨t, f, hb⟩ := blk_of_var gPow hv2
  refine ⟨cs2, t, f, hb, fun i hi => ?_⟩
  have h1 := hel i hi
  rw [cU64, Nat.mul_one, List.getElem?_eq_getElem (show i < xs.length by omega)] at h1
  obtain ⟨n, e1, _, _⟩ := DataW.trod_int Tryd.underlying68 h1
  have h3 : cs2.toList[i]? = some (.int .u64 n) := by
    have := congrArg (fun l : List Value => l[0]?) e1
    simpa [List.getElem?_take, List.getElem?_drop] using this
  exact ⟨n, by simpa using h3⟩
/-- The door's own heap meets the condition. -/
theorem door_met (os : Os) (args : Array Value) : laidMetH Tryd.prog Rows.sealBackRow.laid ((World.doorLaid Tryd.prog 366 os).forCall (fun _ _ => 0) ⟨#[], args, []⟩).memory :=
  laidMetH_of_parts3 (fuel := 8) (laidMet_of_run' 8 (by kernel_rfl) (by kernel_rfl)) (by kernel_rfl) (by kernel_rfl)

theorem lifted (os : Os) (started : os.Started) (H : Type) (enc : TypeId × Value → H) :
    ReturnsInHanded {} Tryd.checked os 7 .any (fun w args => (Rows.sealBackSpec.pre enc Tryd.prog Tryd.f7 [] false w args ∧ laidMetH Tryd.prog Rows.sealBackRow.laid w) ∧ sizedMet enc Tryd.prog Tryd.f7 (OpenSpec.ofChange Rows.sealBackSpec) false w args)
      (Rows.sealBackSpec.post enc Tryd.prog Tryd.f7 false true false false) := by
  refine returnsInHanded_of_change_and (C := Tryd.checked) (X := fun w _ => laidMetH Tryd.prog Rows.sealBackRow.laid w) (fun _ _ _ hh h => h.of_heap hh) own started (by kernel_rfl) Tryd.func7
    (ChangeSpec.witness_shaped (enc := enc) (C := Tryd.checked) (os := os) (X := fun w _ => laidMetH Tryd.prog Rows.sealBackRow.laid w) false (World.doorLaid Tryd.prog 366 os) #[.agg #[.int .i64 0, .int .i64 0, .int .i64 0, .slice none 0 0, .slice none 0 0], .agg #[.int .i64 0, .int .i64 0, .int .i64 0, .slice none 0 0, .slice none 0 0]] 8 rfl (World.shaped_of_RefB (by kernel_rfl) (by kernel_rfl)) (by kernel_rfl) (by kernel_rfl) (by kernel_rfl) (door_met os _)) ?_
  intro W base args ds gs before hval0 hW _ _ hL _
  have hval : ∀ (j : Nat) t v, Tryd.f7.params[j]? = some t → args[j]? = some v → Value.okWide Tryd.prog W .any base t v := hval0
  have hW' := hW
  obtain ⟨p, q, hA0, hV, rfl, hfz, hnd⟩ := hW
  have hA : DataW.TrodAll enc Tryd.prog W 0 (fun _ => true) true Tryd.f7.params.toList args.toList ds p := hA0
  rw [Tryd.params7] at hA hval
  obtain ⟨v0, vs0, d0, ds0, p0, q0, hargs, rfl, rfl, h0, r0⟩ := trodAll_cons hA
  obtain ⟨v1, vs1, d1, ds1, p1, q1, rfl, rfl, rfl, h1, r1⟩ := trodAll_cons r0
  obtain ⟨rfl, rfl, rfl⟩ := trodAll_nil r1
  obtain rfl : args = #[v0, v1] := by cases args; simp_all
  obtain ⟨rfl, rfl⟩ := trodVars_none hV
  have hlt : ∀ x ∈ p0 ++ (p1 ++ []) ++ [], x.block < W.heap.size := fun x hx => hW'.lt x hx
  obtain ⟨cs0, e0, _⟩ := okWide_struct Tryd.underlying55 (hval 0 55 v0 rfl rfl)
  obtain ⟨cs1, e1, _⟩ := okWide_struct Tryd.underlying55 (hval 1 55 v1 rfl rfl)
  obtain ⟨s, hs, es⟩ := SC2.state_of (rd_of_Trod h0 7)
  obtain ⟨t, ht, et⟩ := SC2.state_of (rd_of_Trod h1 7)
  obtain rfl : v0 = s.val := SC2.agg_of e0 es
  obtain rfl : v1 = t.val := SC2.agg_of e1 et
  obtain ⟨⟨S, hS⟩, hD⟩ := SL.laid_of (W := W) hL
  refine (SealBack_spec hS hD (pow_of (W := W) hL) s t hs ht).2.mono fun e W' he => ?_
  obtain ⟨v, rfl, rfl, hsame⟩ := he
  have bel := hsame.below
  exact ⟨_, rfl, _, _, _, [], _, [], hW', trodAll_mk1 (shut_bool Tryd.underlying4 _),
    trodAll_cons_mk (Below.trod laidOut (by kernel_rfl) (of_decide_eq_true (by kernel_rfl)) h0 bel fun x hx => hlt x (by simp [hx]))
      (trodAll_cons_mk (Below.trod laidOut (by kernel_rfl) (of_decide_eq_true (by kernel_rfl)) h1 bel fun x hx => hlt x (by simp [hx])) trodAll_mk0), rfl, bel.frame _, fun h => by cases h⟩
end SB3
theorem sealBack_holds : Rows.SealBackSaid :=
  OpenClaim.holds_of_wide 7 Tryd.f7 rfl rfl rfl rfl rfl rfl rfl ⟨rfl, rfl, rfl, rfl, rfl⟩ rfl rfl rfl rfl rfl (by kernel_rfl) Tryd.func7 (by kernel_rfl)
    (of_decide_eq_true (by kernel_rfl)) (by unfold Func.isWrapper; first | (rw [if_pos (by decide +kernel)]; kernel_rfl) | (rw [if_neg (by decide +kernel)]; exact ⟨rfl, rfl⟩))
    (fun os started H enc _ => SB3.lifted os started H enc)
#print axioms sealBack_holds
end Go.Proofs.YtcabkicjboedaaaDoor
end
section
namespace Go.Proofs.YtcabkicjboedaaaDoor
open Go
set_option maxRecDepth 100000

/-- THE TIED CARD OF SealBack. -/
theorem sealBack_card_holds : Rows.SealBackCardSaid :=
  Claim7.holds_tied_plain_at .later [] [.data, .data, .data, .sentinel, .sentinel, .sentinel, .sentinel] true (true, "499b16567e00966c6c90c9f0da176cb3b8599253600dca4ba24c3317ac8734d5") true
    sealBack_holds (fun _ h => by cases h) (by kernel_rfl) (fun _ h => by cases h) sealBack_row_tie rfl ⟨rfl, rfl⟩ (by kernel_rfl) rfl
    (fun f fn hf hfn => by
      obtain rfl : f = 7 := Option.some.inj ((show Tryd.prog.funcNamed "pasodoble/pasodoblelaw22.SealBack" = some 7 by kernel_rfl).symm.trans hf) |>.symm
      obtain rfl : fn = Tryd.f7 := (Option.some.inj (Tryd.func7.symm.trans hfn)).symm
      exact ⟨by kernel_rfl, fun j t ht => by
        rw [Tryd.params7] at ht
        have hm : t ∈ [55, 55] := by simpa using Array.mem_of_getElem? ht
        have hall : ([55, 55].all fun u => !Tryd.prog.wantsStandIn u) = true := by kernel_rfl
        exact (show Tryd.prog.wantsStandIn t = false by simpa using List.all_eq_true.1 hall t hm)⟩)
    (by kernel_rfl)
#print axioms sealBack_card_holds
end Go.Proofs.YtcabkicjboedaaaDoor
end
