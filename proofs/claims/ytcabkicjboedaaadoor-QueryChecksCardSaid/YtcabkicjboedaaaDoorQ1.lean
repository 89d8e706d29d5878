import Derived.Test.YtcabkicjboedaaaDoorEvO
import Derived.Test.YtcabkicjboedaaaDoorGenQ
namespace Go.Proofs.YtcabkicjboedaaaDoor
open Go Go.Ev
set_option linter.unusedVariables false
set_option linter.unusedSimpArgs false
set_option maxRecDepth 100000

/-! ### sets -/
def bitF (n : Int) : Nat := if n < 0 then 0 else if 32 ≤ n then 0 else 2 ^ n.toNat
theorem bitF_lt (n : Int) : bitF n < 4294967296 := by
  unfold bitF; split
  · omega
  · split
    · omega
    · have : n.toNat ≤ 31 := by omega
      have := Nat.pow_le_pow_right (n := 2) (by omega) this
      omega
theorem u32_of {a : Nat} (h : a < 4294967296) : (BitVec.ofInt 32 (a : Int)).toNat = a := by
  simp [BitVec.ofInt_natCast]; omega
theorem u32_or {a b : Nat} (ha : a < 4294967296) (hb : b < 4294967296) : ior .u32 (a : Int) (b : Int) = ((a ||| b : Nat) : Int) := by
  have h : a ||| b < 2 ^ 32 := Nat.or_lt_two_pow (by omega) (by omega)
  show IntKind.u32.wrap ((BitVec.ofInt 32 (a : Int) ||| BitVec.ofInt 32 (b : Int)).toNat) = _
  rw [BitVec.toNat_or, u32_of ha, u32_of hb, wrap_u32 (by omega) (by omega)]
theorem u32_and {a b : Nat} (ha : a < 4294967296) (hb : b < 4294967296) : iand .u32 (a : Int) (b : Int) = ((a &&& b : Nat) : Int) := by
  have h : a &&& b < 2 ^ 32 := Nat.and_lt_two_pow a (by omega)
  show IntKind.u32.wrap ((BitVec.ofInt 32 (a : Int) &&& BitVec.ofInt 32 (b : Int)).toNat) = _
  rw [BitVec.toNat_and, u32_of ha, u32_of hb, wrap_u32 (by omega) (by omega)]
/-- a without b -/
def andN (a b : Nat) : Nat := a &&& (4294967295 - b)
theorem andN_lt {a b : Nat} (ha : a < 4294967296) : andN a b < 4294967296 := by
  unfold andN; have := Nat.and_le_left (n := a) (m := 4294967295 - b); omega
theorem u32_andN {a b : Nat} (ha : a < 4294967296) (hb : b < 4294967296) : iandn .u32 (a : Int) (b : Int) = ((andN a b : Nat) : Int) := by
  have h := andN_lt (b := b) ha
  show IntKind.u32.wrap ((BitVec.ofInt 32 (a : Int) &&& ~~~(BitVec.ofInt 32 (b : Int))).toNat) = _
  rw [BitVec.toNat_and, BitVec.toNat_not, u32_of ha, u32_of hb]
  have e : 2 ^ 32 - 1 - b = 4294967295 - b := by omega
  rw [e]; unfold andN at *
  rw [wrap_u32 (by omega) (by omega)]
def msk (m : Nat) : Value := .int .u32 (m : Int)

theorem bit_spec (n : Int) (h1 : -9223372036854775808 ≤ n) (h2 : n ≤ 9223372036854775807) (w : World) : Meets Tryd.prog 72 #[.int .i64 n] w fun v w' => v = msk (bitF n) ∧ w' = w := by
  refine f72_ok ?_
  unfold f72
  simp -dsimp
  by_cases hn : n < 0
  · simp -dsimp [hn, f72_0, bitF, msk]
  · simp -dsimp [hn, f72_0]
    by_cases hm : 32 ≤ n
    · simp -dsimp [hm, bitF, hn, msk]
    · have e : min n.toNat 32 = n.toNat := by omega
      have hb := bitF_lt n
      have eb : bitF n = 2 ^ n.toNat := by unfold bitF; simp [hn, hm]
      have ew : ishl .u32 1 n = ((bitF n : Nat) : Int) := by
        show IntKind.u32.wrap (1 * 2 ^ (min n.toNat 32)) = _
        rw [e]
        have : (1 * 2 ^ n.toNat : Int) = ((bitF n : Nat) : Int) := by rw [eb]; simp
        rw [this, wrap_u32 (by omega) (by omega)]
      simp -dsimp [hm, f72_1, show 0 ≤ n by omega, ew, msk]

theorem with_spec (m : Nat) (n : Int) (hm : m < 4294967296) (h1 : -9223372036854775808 ≤ n) (h2 : n ≤ 9223372036854775807) (w : World) : Meets Tryd.prog 32 #[msk m, .int .i64 n] w fun v w' => v = msk (m ||| bitF n) ∧ w' = w := by
  refine f32_ok ?_
  unfold f32
  refine kcall_of (bit_spec n h1 h2 w) ?_
  rintro v w' ⟨rfl, rfl⟩
  simp -dsimp [msk, u32_or hm (bitF_lt n)]

theorem within_spec (m n : Nat) (hm : m < 4294967296) (hn : n < 4294967296) (w : World) : Meets Tryd.prog 34 #[msk m, msk n] w fun v w' => v = .bool (decide (andN m n = 0)) ∧ w' = w := by
  refine f34_ok ?_
  unfold f34
  simp -dsimp [msk, u32_andN hm hn]

theorem since_spec (n : Int) (h1 : -9223372036854775808 ≤ n) (h2 : n ≤ 9223372036854775807) (w : World) : Meets Tryd.prog 33 #[.int .i64 n] w fun v w' => v = .int .i64 (max n (-4611686018427387904) - 1) ∧ w' = w := by
  refine f33_ok ?_
  unfold f33
  simp -dsimp
  rw [wrap_i64 (by omega) (by omega)]

/-! ### parts in memory -/
structure Part where
  comp : Int
  v0 : Int
  v1 : Int
  v2 : Int
  v3 : Int
  tick : Int
def Part.cells (p : Part) : List Value := [.int .i64 p.comp, .int .i64 p.v0, .int .i64 p.v1, .int .i64 p.v2, .int .i64 p.v3, .int .i64 p.tick]
def I64 (n : Int) : Prop := -9223372036854775808 ≤ n ∧ n ≤ 9223372036854775807
def Part.ok (p : Part) : Prop := I64 p.comp ∧ I64 p.v0 ∧ I64 p.v1 ∧ I64 p.v2 ∧ I64 p.v3 ∧ I64 p.tick
structure Filter where
  wth : Nat
  wout : Nat
  chg : Nat
def Filter.ok (f : Filter) : Prop := f.wth < 4294967296 ∧ f.wout < 4294967296 ∧ f.chg < 4294967296
def Filter.val (f : Filter) : Value := .agg #[msk f.wth, msk f.wout, msk f.chg]
def sinceF (frame : Int) : Int := max frame (-4611686018427387904) - 1
def hasF (l : List Part) : Nat := l.foldl (fun m p => m ||| bitF p.comp) 0
def lateF (s : Int) (l : List Part) : Nat := l.foldl (fun m p => if s ≤ p.tick then m ||| bitF p.comp else m) 0
def meansF (f : Filter) (frame : Int) (l : List Part) : Bool :=
  decide (andN f.wth (hasF l) = 0) && (decide (hasF l &&& f.wout = 0) && decide (andN f.chg (lateF (sinceF frame) l) = 0))
theorem hasF_lt (l : List Part) : hasF l < 4294967296 := by
  unfold hasF
  have : ∀ (l : List Part) (m : Nat), m < 2 ^ 32 → l.foldl (fun m p => m ||| bitF p.comp) m < 2 ^ 32 := by
    intro l
    induction l with
    | nil => exact fun m h => h
    | cons p l ih => exact fun m h => ih _ (Nat.or_lt_two_pow h (by have := bitF_lt p.comp; omega))
  exact this l 0 (by omega)
theorem lateF_lt (s : Int) (l : List Part) : lateF s l < 4294967296 := by
  unfold lateF
  have : ∀ (l : List Part) (m : Nat), m < 2 ^ 32 → l.foldl (fun m p => if s ≤ p.tick then m ||| bitF p.comp else m) m < 2 ^ 32 := by
    intro l
    induction l with
    | nil => exact fun m h => h
    | cons p l ih =>
      intro m h
      refine ih _ ?_
      show (if s ≤ p.tick then m ||| bitF p.comp else m) < 2 ^ 32
      split
      · exact Nat.or_lt_two_pow h (by have := bitF_lt p.comp; omega)
      · exact h
  exact this l 0 (by omega)
theorem hasF_snoc (l : List Part) (p : Part) : hasF (l ++ [p]) = hasF l ||| bitF p.comp := by simp [hasF]
theorem lateF_snoc (s : Int) (l : List Part) (p : Part) : lateF s (l ++ [p]) = if s ≤ p.tick then lateF s l ||| bitF p.comp else lateF s l := by simp [lateF]

theorem means_spec (f : Filter) (hf : f.ok) (frame : Int) (hfr : I64 frame) (l : List Part) (hl : ∀ p ∈ l, p.ok) (hn : l.length ≤ 4611686018427387904) (sa : Option Addr) (c : Nat) (w : World) (hs : SlIs w sa l.length 6 (l.flatMap Part.cells)) :
    Meets Tryd.prog 12 #[f.val, .int .i64 frame, .slice sa l.length c] w fun v w' => v = .bool (meansF f frame l) ∧ Same w w' := by
  obtain ⟨hf1, hf2, hf3⟩ := hf
  refine f12_ok ?_
  unfold f12
  simp -dsimp [Filter.val, Value.cells]
  generalize hw2 : w.alloc (.cells #[msk f.wth, msk f.wout, msk f.chg] 29) = w2
  have hb2 : blk w2 w.heap.size = some (.cells #[msk f.wth, msk f.wout, msk f.chg] 29) := by rw [← hw2]; exact alloc_heap_new _ _
  have hs2 : SlIs w2 sa l.length 6 (l.flatMap Part.cells) := hs.mod (fp := fun _ => False) (by rw [← hw2]; exact (Mod.refl _ _).alloc _) (fun _ _ _ h => h)
  have hsame : Same w w2 := by rw [← hw2]; exact (Mod.refl _ _).alloc _
  refine kL_of (fun x7 x8 x13 wr => ∃ i : Nat, i ≤ l.length ∧ x13 = .int .i64 i ∧ x7 = msk (hasF (l.take i)) ∧ x8 = msk (lateF (sinceF frame) (l.take i)) ∧ Same w2 wr) (fun _ _ x _ => l.length - (RowKit.intOf x).toNat) ⟨⟨0, by omega, rfl, by simp [hasF, msk], by simp [lateF, msk], Mod.refl _ _⟩, ?_⟩
  rintro x7 x8 x13 wr ⟨i, hi, rfl, rfl, rfl, hm⟩
  have hbr := hm.get hb2 (fun h => h)
  unfold f12_0
  simp -dsimp
  refine kIf_dec (fun hlt => ?_) (fun hge => ?_)
  · have hlt : i < l.length := by omega
    obtain ⟨b, o, c', t', f', rfl, hb, hle, hcs⟩ := (hs2.mod hm (fun _ _ _ h => h)).at hlt (by omega)
    rw [flat_get Part.cells 6 (fun _ => rfl) l i hlt] at hcs
    have hp := hl l[i] (List.getElem_mem hlt)
    generalize hpi : l[i] = p at *
    have htk : l.take (i + 1) = l.take i ++ [p] := by rw [List.take_succ_eq_append_getElem hlt, hpi]
    unfold f12_1
    simp -dsimp [hlt, hb, hle, hcs, Part.cells]
    refine kcall_of (with_spec _ _ (hasF_lt _) hp.1.1 hp.1.2 _) ?_
    rintro v w' ⟨rfl, rfl⟩
    simp -dsimp
    refine kcall_of (since_spec frame hfr.1 hfr.2 _) ?_
    rintro v w' ⟨rfl, rfl⟩
    simp -dsimp
    have hadd : IntKind.i64.wrap ((i : Int) + 1) = ((i + 1 : Nat) : Int) := by rw [wrap_i64 (by omega) (by omega)]; simp
    refine kIf_dec (fun hge => ?_) (fun hge => ?_)
    · simp -dsimp
      refine kcall_of (with_spec _ _ (lateF_lt _ _) hp.1.1 hp.1.2 _) ?_
      rintro v w' ⟨rfl, rfl⟩
      unfold f12_2
      simp -dsimp [hadd]
      exact ⟨⟨i + 1, by omega, rfl, by rw [htk, hasF_snoc], by rw [htk, lateF_snoc, if_pos (show sinceF frame ≤ p.tick from hge)], ((hm.alloc _).drew)⟩, by simp [RowKit.intOf]; omega⟩
    · unfold f12_2
      simp -dsimp [hadd]
      exact ⟨⟨i + 1, by omega, rfl, by rw [htk, hasF_snoc], by rw [htk, lateF_snoc, if_neg (show ¬ sinceF frame ≤ p.tick from hge)], ((hm.alloc _).drew)⟩, by simp [RowKit.intOf]; omega⟩
  · have : i = l.length := by omega
    subst this
    unfold f12_3
    simp -dsimp [hbr]
    refine kcall_of (within_spec _ _ hf1 (hasF_lt _) _) ?_
    rintro v w' ⟨rfl, rfl⟩
    simp -dsimp
    have e := u32_and (hasF_lt l) hf2
    refine kIf_dec (fun h1 => ?_) (fun h1 => ?_)
    · simp -dsimp [hbr, msk, e]
      refine kIf_dec (fun h2 => ?_) (fun h2 => ?_)
      · simp -dsimp [hbr]
        refine kcall_of (within_spec _ _ hf3 (lateF_lt _ _) _) ?_
        rintro v w' ⟨rfl, rfl⟩
        exact ⟨by simp [meansF, h1, h2], hsame.trans hm⟩
      · exact ⟨by simp [meansF, h1, h2], hsame.trans hm⟩
    · exact ⟨by simp [meansF, h1], hsame.trans hm⟩
end Go.Proofs.YtcabkicjboedaaaDoor
