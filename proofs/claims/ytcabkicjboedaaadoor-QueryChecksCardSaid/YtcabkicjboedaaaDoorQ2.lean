import Derived.Test.YtcabkicjboedaaaDoorQ1
import Derived.Test.YtcabkicjboedaaaDoorErr5
import Derived.Test.YtcabkicjboedaaaDoorEvP
namespace Go.Proofs.YtcabkicjboedaaaDoor
open Go Go.Ev
set_option linter.unusedVariables false
set_option linter.unusedSimpArgs false
set_option maxRecDepth 100000

/-! ### Schemas -/
structure Comp where
  name : ByteArray
  width : Int
  rb : Bool
  d0 : Int
  d1 : Int
  d2 : Int
  d3 : Int
def Comp.cells (c : Comp) : List Value := [.string c.name, .int .i64 c.width, .bool c.rb, .int .i64 c.d0, .int .i64 c.d1, .int .i64 c.d2, .int .i64 c.d3]
def rollF (l : List Bool) : Nat := l.zipIdx.foldl (fun m p => if p.1 then m ||| bitF p.2 else m) 0
theorem rollF_snoc (l : List Bool) (x : Bool) : rollF (l ++ [x]) = if x then rollF l ||| bitF l.length else rollF l := by
  simp [rollF, List.zipIdx_append]
theorem fold_lt {α : Type} (f : Nat → α → Nat) (hf : ∀ m x, m < 4294967296 → f m x < 4294967296) : ∀ (l : List α) (m : Nat), m < 4294967296 → l.foldl f m < 4294967296
  | [], m, h => h
  | x :: l, m, h => fold_lt f hf l _ (hf m x h)
theorem or_lt {a b : Nat} (ha : a < 4294967296) (hb : b < 4294967296) : a ||| b < 4294967296 := Nat.or_lt_two_pow (n := 32) (by omega) (by omega)
theorem rollF_lt (l : List Bool) : rollF l < 4294967296 := by
  refine fold_lt _ (fun m x h => ?_) _ 0 (by omega)
  split
  · exact or_lt h (bitF_lt _)
  · exact h

def KindsInv (w : World) (l : List Comp) (x y : Value) (wr : World) : Prop := ∃ i : Nat, i ≤ l.length ∧ y = .int .i64 i ∧ x = msk (rollF ((l.map (·.rb)).take i)) ∧ Same w wr
theorem kinds_spec (l : List Comp) (hn : l.length ≤ 4611686018427387903) (a : Option Addr) (c : Nat) (r : Value) (w : World) (hs : SlIs w a l.length 7 (l.flatMap Comp.cells)) (hr : r.cells = #[r]) :
    Meets Tryd.prog 69 #[.agg #[.slice a l.length c, r], .bool true] w fun v w' => v = msk (rollF (l.map (·.rb))) ∧ Same w w' := by
  refine f69_ok ?_
  unfold f69
  simp -dsimp [Value.cells]
  refine kL_of (KindsInv w l) (fun _ y _ => l.length - (RowKit.intOf y).toNat) ⟨⟨0, by omega, rfl, by simp [rollF, msk], (Mod.refl _ _).alloc _⟩, ?_⟩
  rintro x y wr ⟨i, hi, rfl, rfl, hm⟩
  unfold f69_0
  simp -dsimp
  refine kIf_dec (fun hlt => ?_) (fun hge => ?_)
  · have hlt : i < l.length := by omega
    obtain ⟨b, o, c', t', f', rfl, hb, hle, hcs⟩ := (hs.same hm).at hlt (by omega)
    rw [flat_get Comp.cells 7 (fun _ => rfl) l i hlt] at hcs
    have htk : (l.map (·.rb)).take (i + 1) = (l.map (·.rb)).take i ++ [l[i].rb] := by rw [List.take_succ_eq_append_getElem (by simpa using hlt)]; simp
    have hlen : ((l.map (·.rb)).take i).length = i := by simp; omega
    generalize l[i] = p at *
    have hadd := i64_succ (i := i) (by omega)
    unfold f69_1
    simp -dsimp [hlt, hb, hle, hcs, Comp.cells]
    have hal : ∀ o, Same w (wr.alloc o) := fun o => hm.alloc o
    cases hrb : p.rb with
    | true =>
      simp -dsimp
      refine kcall_of (with_spec _ _ (rollF_lt _) (by omega) (by omega) _) ?_
      rintro v w' ⟨rfl, rfl⟩
      unfold f69_2
      simp -dsimp [hadd]
      refine ⟨⟨i + 1, by omega, rfl, ?_, hal _⟩, by simp [RowKit.intOf]; omega⟩
      rw [htk, rollF_snoc, hrb, if_pos rfl, hlen]
    | false =>
      simp -dsimp
      unfold f69_2
      simp -dsimp [hadd]
      refine ⟨⟨i + 1, by omega, rfl, ?_, hal _⟩, by simp [RowKit.intOf]; omega⟩
      rw [htk, rollF_snoc, hrb, if_neg (by decide)]
  · have : i = l.length := by omega
    subst this
    unfold f69_3
    exact ⟨by rw [List.take_of_length_le (by simp)], hm⟩

theorem Rollback_spec (l : List Comp) (hn : l.length ≤ 4611686018427387903) (a : Option Addr) (c : Nat) (r : Value) (w : World) (hs : SlIs w a l.length 7 (l.flatMap Comp.cells)) (hr : r.cells = #[r]) :
    Meets Tryd.prog 29 #[.agg #[.slice a l.length c, r]] w fun v w' => v = msk (rollF (l.map (·.rb))) ∧ Same w w' := by
  refine f29_ok ?_
  unfold f29
  simp -dsimp [Value.cells]
  refine kcall_of (kinds_spec l hn a c r _ (hs.same (same_alloc _ _)) hr) ?_
  rintro v w' ⟨rfl, hm⟩
  exact ⟨rfl, (same_alloc _ _).trans hm⟩

/-! ### What is wrong with a filter -/
def flawF (wh : ByteArray) (k m all : Nat) : List Leaf := if andN m all = 0 then [] else [([wh], k)]
theorem flaw_spec {S : Nat → Addr} {w : World} (wh : ByteArray) (k m all : Nat) (k1 : 1 ≤ k) (k2 : k ≤ 18) (hm : m < 4294967296) (ha : all < 4294967296) :
    Meets Tryd.prog 31 #[.string wh, errV S k, msk m, msk all] w fun v w' => ErrO S w' 1 v (flawF wh k m all) ∧ Same w w' := by
  refine f31_ok ?_
  unfold f31
  refine kcall_of (within_spec m all hm ha w) ?_
  rintro v w' ⟨rfl, rfl⟩
  simp -dsimp
  refine kIf_dec (fun h => ?_) (fun h => ?_)
  · exact ⟨.inl ⟨rfl, by simp [flawF, h]⟩, Mod.refl _ _⟩
  · unfold f31_0
    refine kcall_of (At_spec (d := 0) (ls := [([], k)]) (.inr ⟨k, k1, k2, rfl, rfl⟩) wh) ?_
    rintro v w' ⟨h1, h2⟩
    exact ⟨by simpa [flawF, h] using h1, h2⟩
theorem rdArg {S : Nat → Addr} {w : World} (h : LaidE S w) : cellO (blk w 1) 0 = some (errV S 1) := h.read (by omega) (by omega) rfl
theorem rdTwice {S : Nat → Addr} {w : World} (h : LaidE S w) : cellO (blk w 2) 0 = some (errV S 9) := h.read (by omega) (by omega) rfl
theorem rdNone {S : Nat → Addr} {w : World} (h : LaidE S w) : cellO (blk w 3) 0 = some (errV S 7) := h.read (by omega) (by omega) rfl
def sWith : ByteArray := ⟨#[119, 105, 116, 104]⟩
def sWithout : ByteArray := ⟨#[119, 105, 116, 104, 111, 117, 116]⟩
def sChanged : ByteArray := ⟨#[99, 104, 97, 110, 103, 101, 100]⟩
def checkF (all : Nat) (f : Filter) : List Leaf :=
  flawF sWith 1 f.wth all ++ (flawF sWithout 1 f.wout all ++ (flawF sChanged 1 f.chg all ++ (flawF sWithout 9 (f.wth &&& f.wout) 0 ++ flawF sChanged 7 f.chg f.wth)))
theorem ErrO.cells {S : Nat → Addr} {w : World} {d : Nat} {v : Value} {ls : List Leaf} (h : ErrO S w d v ls) : v.cells = #[v] := by
  rcases h.nil_iff with ⟨_, rfl⟩ | ⟨_, t, u, rfl⟩ <;> rfl
theorem flawF_len (wh : ByteArray) (k m all : Nat) : (flawF wh k m all).length ≤ 1 := by unfold flawF; split <;> simp

set_option maxHeartbeats 400000 in
theorem Check_spec {S : Nat → Addr} {w : World} (hL : LaidE S w) (l : List Comp) (hn : l.length ≤ 4611686018427387903) (a : Option Addr) (c : Nat) (r : Value) (hs : SlIs w a l.length 7 (l.flatMap Comp.cells)) (hr : r.cells = #[r]) (f : Filter) (hf : f.ok) :
    Meets Tryd.prog 10 #[.agg #[.slice a l.length c, r], f.val] w fun v w' => ErrO S w' 2 v (checkF (rollF (l.map (·.rb))) f) ∧ Same w w' := by
  obtain ⟨hf1, hf2, hf3⟩ := hf
  have e := u32_and hf1 hf2
  have hal := rollF_lt (l.map (·.rb))
  have hand : f.wth &&& f.wout < 4294967296 := Nat.lt_of_le_of_lt Nat.and_le_left hf1
  refine f10_ok ?_
  unfold f10
  refine knew_of fun w2 h2 _ hb1 => ?_
  refine knew_of fun w4 h4' _ hb2 => ?_
  simp only [Value.cells, Filter.val] at hb1 hb2
  have hb1 := h4'.get hb1 (fun h => h)
  have h4 : Same w w4 := h2.trans h4'
  simp -dsimp [hb1, hr]
  refine kcall_of (Rollback_spec l hn a c r w4 (hs.same h4) hr) ?_
  rintro v w7 ⟨rfl, h7⟩
  have hb7 := h7.get hb2 (fun h => h)
  have hL7 := hL.same (h4.trans h7)
  simp -dsimp [hb7, rdArg hL7]
  refine kcall_of (flaw_spec (S := S) _ 1 _ _ (by omega) (by omega) hf1 hal) ?_
  rintro u1 w12 ⟨he1, h12⟩
  have h12 : Same w7 w12 := ((Mod.refl _ _).drew).trans h12
  have hb12 := h12.get hb7 (fun h => h)
  have hL12 := hL7.same h12
  simp -dsimp [hb7, hb12, rdArg hL7, rdArg hL12]
  refine kcall_of (flaw_spec (S := S) _ 1 _ _ (by omega) (by omega) hf2 hal) ?_
  rintro u2 w17 ⟨he2, h17⟩
  have hb17 := h17.get hb12 (fun h => h)
  have hL17 := hL12.same h17
  simp -dsimp [hb7, hb12, hb17, rdArg hL7, rdArg hL12, rdArg hL17]
  refine kcall_of (flaw_spec (S := S) _ 1 _ _ (by omega) (by omega) hf3 hal) ?_
  rintro u3 w22 ⟨he3, h22⟩
  have hb22 := h22.get hb17 (fun h => h)
  have hL22 := hL17.same h22
  simp -dsimp [hb7, hb12, hb17, hb22, rdTwice hL7, rdTwice hL12, rdTwice hL17, rdTwice hL22]
  have e' : Value.int .u32 (iand .u32 (f.wth : Int) (f.wout : Int)) = msk (f.wth &&& f.wout) := by rw [e]; rfl
  simp -dsimp [msk]
  have h9 := flaw_spec (S := S) (w := w22) ⟨#[119, 105, 116, 104, 111, 117, 116]⟩ 9 (f.wth &&& f.wout) 0 (by omega) (by omega) hand (by omega)
  rw [← e'] at h9
  refine kcall_of h9 ?_
  rintro u4 w30 ⟨he4, h30⟩
  have hb30 := h30.get hb22 (fun h => h)
  have hL30 := hL22.same h30
  simp -dsimp [hb7, hb12, hb17, hb22, hb30, rdNone hL7, rdNone hL12, rdNone hL17, rdNone hL22, rdNone hL30]
  refine kcall_of (flaw_spec (S := S) _ 7 _ _ (by omega) (by omega) hf3 hf1) ?_
  rintro u5 w37 ⟨he5, h37⟩
  refine kbldS_of (cs := [u1, u2, u3, u4, u5]) ?_ fun w39 h39 _ hb39 => ?_
  · simp only [fillL, he1.cells, he2.cells, he3.cells, he4.cells, he5.cells]; rfl
  refine kcall_of (All_spec (S := S) (d := 1) (zs := [(u1, flawF ⟨#[119, 105, 116, 104]⟩ 1 f.wth (rollF (l.map (·.rb)))), (u2, flawF ⟨#[119, 105, 116, 104, 111, 117, 116]⟩ 1 f.wout (rollF (l.map (·.rb)))), (u3, flawF ⟨#[99, 104, 97, 110, 103, 101, 100]⟩ 1 f.chg (rollF (l.map (·.rb)))), (u4, flawF ⟨#[119, 105, 116, 104, 111, 117, 116]⟩ 9 (f.wth &&& f.wout) 0), (u5, flawF ⟨#[99, 104, 97, 110, 103, 101, 100]⟩ 7 f.chg f.wth)]) (SlIs.blk hb39 (by simp)) ?_ ?_ (by simp)) ?_
  · intro p hp
    simp only [List.mem_cons, List.not_mem_nil, or_false] at hp
    rcases hp with rfl | rfl | rfl | rfl | rfl
    · exact he1.same (h17.trans (h22.trans (h30.trans (h37.trans h39))))
    · exact he2.same (h22.trans (h30.trans (h37.trans h39)))
    · exact he3.same (h30.trans (h37.trans h39))
    · exact he4.same (h37.trans h39)
    · exact he5.same h39
  · simp only [List.flatMap_cons, List.flatMap_nil, List.length_append, List.length_nil]
    have := flawF_len
    have g1 := flawF_len ⟨#[119, 105, 116, 104]⟩ 1 f.wth (rollF (l.map (·.rb)))
    have g2 := flawF_len ⟨#[119, 105, 116, 104, 111, 117, 116]⟩ 1 f.wout (rollF (l.map (·.rb)))
    have g3 := flawF_len ⟨#[99, 104, 97, 110, 103, 101, 100]⟩ 1 f.chg (rollF (l.map (·.rb)))
    have g4 := flawF_len ⟨#[119, 105, 116, 104, 111, 117, 116]⟩ 9 (f.wth &&& f.wout) 0
    have g5 := flawF_len ⟨#[99, 104, 97, 110, 103, 101, 100]⟩ 7 f.chg f.wth
    omega
  rintro v w41 ⟨hv, h41⟩
  refine ⟨?_, h4.trans (h7.trans (h12.trans (h17.trans (h22.trans (h30.trans (h37.trans (h39.trans h41)))))))⟩
  simpa [checkF, sWith, sWithout, sChanged] using hv
end Go.Proofs.YtcabkicjboedaaaDoor
