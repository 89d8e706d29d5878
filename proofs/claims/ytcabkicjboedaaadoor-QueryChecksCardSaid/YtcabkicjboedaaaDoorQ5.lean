import Derived.Test.YtcabkicjboedaaaDoorQ4
namespace Go.Proofs.YtcabkicjboedaaaDoor
open Go Go.Ev
set_option linter.unusedVariables false
set_option linter.unusedSimpArgs false
set_option maxRecDepth 100000

theorem Leaves_sl {S : Nat → Addr} {w : World} {d : Nat} {v : Value} {ls : List Leaf} (hL : LaidE S w) (hv : ErrO S w d v ls) (hj : ∀ l ∈ ls, joinOk l.1) (hlen : ls.length ≤ 1073741824) (hd : d ≤ 1073741824) :
    Meets Tryd.prog 9 #[v] w fun v' w' => ∃ a c, v' = .slice a ls.length c ∧ SlIs w' a ls.length 2 (leafCells [] ls) ∧ Same w w' := by
  refine (Leaves_spec hL hv hj hlen hd).mono fun v' w' h => ?_
  obtain ⟨ho, hm, _⟩ := h
  obtain ⟨a, n, c, rfl, hs, _⟩ := ho.is
  have : n = ls.length := by have := hs.1; rw [leafCells_len] at this; omega
  subst this
  exact ⟨a, c, rfl, hs, hm⟩
theorem leafEq1 (w : World) (K : Value → World → Prop) : keq Tryd.prog .eql 41 false false (.agg #[.string ⟨#[119, 105, 116, 104]⟩, .int .i64 1]) (.agg #[.string ⟨#[119, 105, 116, 104]⟩, .int .i64 1]) w K = K (.bool true) w := by kernel_rfl
theorem leafEq7 (w : World) (K : Value → World → Prop) : keq Tryd.prog .eql 41 false false (.agg #[.string ⟨#[99, 104, 97, 110, 103, 101, 100]⟩, .int .i64 7]) (.agg #[.string ⟨#[99, 104, 97, 110, 103, 101, 100]⟩, .int .i64 7]) w K = K (.bool true) w := by kernel_rfl
def fA : Filter := ⟨1, 0, 1⟩
def fB : Filter := ⟨128, 128, 2⟩
def pA (t : Int) : Part := ⟨0, 0, 0, 0, 0, t⟩
def lsB : List Leaf := [([sWith], 1), ([sWithout], 1), ([sWithout], 9), ([sChanged], 7)]
theorem okA : fA.ok := ⟨by decide, by decide, by decide⟩
theorem okB : fB.ok := ⟨by decide, by decide, by decide⟩
theorem joinB : ∀ l ∈ lsB, joinOk l.1 := by
  intro l hl
  simp only [lsB, List.mem_cons, List.not_mem_nil, or_false] at hl
  rcases hl with rfl | rfl | rfl | rfl <;> simp [joinOk]
theorem i64_9 : I64 9 := by unfold I64; omega
theorem pA_ok (t : Int) (h : I64 t) : ∀ p ∈ [pA t], p.ok := by
  intro p hp
  simp only [List.mem_cons, List.not_mem_nil, or_false] at hp
  subst hp
  simp only [Part.ok, pA]
  unfold I64 at *
  omega
theorem checkB : checkF 127 fB = lsB := rfl
theorem checkA : checkF 127 fA = [] := rfl
theorem meansA8 : meansF fA 9 [pA 8] = true := by decide
theorem meansA7 : meansF fA 9 [pA 7] = false := by decide
theorem roll8 (l : List Comp) (hl : l = comps8 8) : rollF (l.map (·.rb)) = 127 := by
  have : l.map (·.rb) = [true, true, true, true, true, true, true, false] := by rw [hl]; rfl
  rw [this]; rfl
theorem len8 (l : List Comp) (hl : l = comps8 8) : l.length = 8 := by rw [hl]; simp [comps8]

set_option maxHeartbeats 1000000 in
theorem awake_spec {S : Nat → Addr} {w : World} (hL : LaidE S w) : Meets Tryd.prog 8 #[] w fun v w' => v = .bool true ∧ Same w w' := by
  obtain ⟨l, hl⟩ : ∃ l, l = comps8 8 := ⟨_, rfl⟩
  have hr8 := roll8 l hl
  have hl8 := len8 l hl
  have he := eight_spec' l hl
  clear hl
  refine f8_ok ?_
  unfold f8
  refine kbld_of (cs := [.int .u32 1, .int .u32 0, .int .u32 1]) rfl ?_
  refine knew_of fun w3 h3 hs3 hb3 => ?_
  refine kst_of (vs := [.int .u32 1, .int .u32 0, .int .u32 1]) hb3 rfl rfl rfl (by simp) (by simp) fun w4 h4 hs4 hb4 => ?_
  have m4 : Same w w4 := Mod.after h3 h4 (fun b hb => by omega)
  have hb4 : blk w4 w.heap.size = some (.cells #[.int .u32 1, .int .u32 0, .int .u32 1] 29) := hb4
  refine kcall_of (he w4) ?_
  rintro v5 w6 ⟨a6, c6, rfl, hs6, h6⟩
  refine kbld_of (cs := [.int .u32 128, .int .u32 128, .int .u32 2]) rfl ?_
  have m6 := m4.trans h6
  refine kcall_of (Check_spec (hL.same m6) l (by omega) a6 c6 (.slice none 0 0) hs6 rfl fB okB) ?_
  rintro v8 w9 ⟨hv8, h9⟩
  rw [hr8, checkB] at hv8
  have m9 := m6.trans h9
  refine kcall_of (Leaves_sl (hL.same m9) hv8 joinB (by simp [lsB]) (by omega)) ?_
  rintro v10 w11 ⟨a11, c11, rfl, hs11, h11⟩
  have m11 := m9.trans h11
  have hb11 := (h6.trans (h9.trans h11)).get hb4 (fun h => h)
  refine kldN_of (cs := [.int .u32 1, .int .u32 0, .int .u32 1]) (show blk w11.drew _ = _ from hb11) (by simp) rfl (by omega) ?_
  refine kG_of rfl ?_
  refine kbld_of (cs := (pA 8).cells) rfl ?_
  refine kbldS_of (cs := (pA 8).cells) rfl fun w15 h15 hs15 hb15 => ?_
  have h15 : Same w11 w15 := ((Mod.refl _ _).drew).trans h15
  have hb15' := h15.get hb11 (fun h => h)
  refine kG_of (kldN_of (cs := [.int .u32 1, .int .u32 0, .int .u32 1]) hb15' (by simp) rfl (by omega) ⟨rfl, rfl⟩) ?_
  refine kcall_of (means_spec fA okA 9 i64_9 [pA 8] (pA_ok 8 (by unfold I64; omega)) (by simp) _ 1 w15 (SlIs.blk hb15 rfl)) ?_
  rintro v16 w17 ⟨hv16, h17⟩
  rw [meansA8] at hv16
  subst hv16
  simp -dsimp only [kB_bool]
  refine kIf_of (fun _ => ?_) (fun h => by cases h)
  have hb17 := h17.get hb15' (fun h => h)
  refine kldN_of (cs := [.int .u32 1, .int .u32 0, .int .u32 1]) hb17 (by simp) rfl (by omega) ?_
  refine kG_of rfl ?_
  refine kbld_of (cs := (pA 7).cells) rfl ?_
  refine kbldS_of (cs := (pA 7).cells) rfl fun w22 h22 hs22 hb22 => ?_
  have hb22' := h22.get hb17 (fun h => h)
  refine kG_of (kldN_of (cs := [.int .u32 1, .int .u32 0, .int .u32 1]) hb22' (by simp) rfl (by omega) ⟨rfl, rfl⟩) ?_
  refine kcall_of (means_spec fA okA 9 i64_9 [pA 7] (pA_ok 7 (by unfold I64; omega)) (by simp) _ 1 w22 (SlIs.blk hb22 rfl)) ?_
  rintro v23 w24 ⟨hv23, h24⟩
  rw [meansA7] at hv23
  subst hv23
  simp -dsimp only [kun_not, kB_bool, Bool.not_false]
  refine kIf_of (fun _ => ?_) (fun h => by cases h)
  have m24 := m11.trans (h15.trans (h17.trans (h22.trans h24)))
  have hb24 := h24.get hb22' (fun h => h)
  refine kcall_of (he w24) ?_
  rintro v5 w28 ⟨a28, c28, rfl, hs28, h28⟩
  have hb28 := h28.get hb24 (fun h => h)
  refine kldN_of (cs := [.int .u32 1, .int .u32 0, .int .u32 1]) hb28 (by simp) rfl (by omega) ?_
  refine kG_of rfl ?_
  refine kG_of (kldN_of (cs := [.int .u32 1, .int .u32 0, .int .u32 1]) hb24 (by simp) rfl (by omega) ⟨rfl, rfl⟩) ?_
  have m28 := m24.trans h28
  refine kcall_of (Check_spec (hL.same m28) l (by omega) a28 c28 (.slice none 0 0) hs28 rfl fA okA) ?_
  rintro v30 w31 ⟨hv30, h31⟩
  rw [hr8, checkA] at hv30
  have hv30 : v30 = .nilIface := by
    rcases hv30.nil_iff with ⟨_, h⟩ | ⟨h, _⟩
    · exact h
    · exact absurd rfl h
  subst hv30
  have m31 := m28.trans h31
  refine Eq.mpr (keq_nil_nil ifErr) ?_
  refine kG_of rfl ?_
  simp -dsimp only [kB_bool]
  refine kIf_of (fun _ => ?_) (fun h => by cases h)
  have hs31 := hs11.same (h15.trans (h17.trans (h22.trans (h24.trans (h28.trans h31)))))
  have hlB : lsB.length = 4 := rfl
  simp -dsimp only [klen_slice, kint_eql, kB_bool]
  refine kIf_dec (fun _ => ?_) (fun h => absurd rfl h)
  have q0 := hs31.at (i := 0) (by omega) (by omega)
  have q3 := hs31.at (i := 3) (by omega) (by omega)
  obtain ⟨b, o, c, t, f, ha, hb, hle0, hc0⟩ := q0
  obtain ⟨b', o', c', t', f', ha', hb', hle3, hc3⟩ := q3
  rw [ha] at ha'
  obtain ⟨rfl, rfl⟩ : b = b' ∧ o = o' := by simpa using ha'
  rw [hb] at hb'
  obtain ⟨rfl, rfl, rfl⟩ : c = c' ∧ t = t' ∧ f = f' := by simpa using hb'
  subst ha
  rw [hlB] at *
  simp -dsimp only [kix_slice, add_mk]
  refine kG_of (by omega) ?_
  refine kldN_of (cs := [.string sWith, .int .i64 1]) hb (by simpa using hle0) (by simpa [leafCells, lsB, joinP] using hc0) (by omega) ?_
  refine kG_of rfl ?_
  refine kbld_of (cs := [.string sWith, .int .i64 1]) rfl ?_
  refine Eq.mpr (leafEq1 _ _) ?_
  refine kG_of rfl ?_
  simp -dsimp only [kB_bool]
  refine kIf_of (fun _ => ?_) (fun h => by cases h)
  simp -dsimp only [kix_slice, add_mk]
  refine kG_of (by omega) ?_
  refine kldN_of (cs := [.string sChanged, .int .i64 7]) hb (by simpa using hle3) (by simpa [leafCells, lsB, joinP] using hc3) (by omega) ?_
  refine kG_of rfl ?_
  refine kbld_of (cs := [.string sChanged, .int .i64 7]) rfl ?_
  refine Eq.mpr (leafEq7 _ _) ?_
  refine kG_of rfl ?_
  exact ⟨rfl, m31⟩
end Go.Proofs.YtcabkicjboedaaaDoor
