/- A verification-condition reading of the model's code: 'vc' of a function's code holds at once for all orders and tapes, and it implies the model's own 'Calls' (no condition). -/
import Derived.WalkKit
import Derived.Orders
import Derived.KernelRfl
namespace Go.Ev
open Go

/-! ### Matchers: each asks that a value has a form, and goes on. -/
def mO {α : Type} (o : Option α) (K : α → Prop) : Prop := match o with | some a => K a | none => False
def mPtr (x : Value) (K : Addr → Prop) : Prop := match x with | .pointer (some a) => K a | _ => False
def mBool (x : Value) (K : Bool → Prop) : Prop := match x with | .bool b => K b | _ => False
def mIntK (k : IntKind) (x : Value) (K : Int → Prop) : Prop := match x with | .int k' n => k' = k ∧ K n | _ => False
def mInt (x : Value) (K : Int → Prop) : Prop := match x with | .int _ n => K n | _ => False
def mStr (x : Value) (K : ByteArray → Prop) : Prop := match x with | .string s => K s | _ => False
def mSlice (x : Value) (K : Option Addr → Nat → Nat → Prop) : Prop := match x with | .slice a n c => K a n c | _ => False
def mAgg (x : Value) (K : Array Value → Prop) : Prop := match x with | .agg cs => K cs | _ => False
def mTup (x : Value) (K : Array Value → Prop) : Prop := match x with | .tuple cs => K cs | _ => False
def mNil (x : Value) (K : Prop) : Prop := match x with | .pointer none | .nilIface | .nilFunc => False | .func (.method _) _ _ => False | _ => K
def condP (b : Bool) (X Y : Prop) : Prop := bif b then X else Y
def mG (p : Prop) (K : Prop) : Prop := p ∧ K
def semV (P : Program) (s : Sem Value) (K : Value → World → Prop) (w : World) : Prop := match s.run P w with | .ok v w' => K v w' | .halt _ _ => False
def semU (P : Program) (s : Sem Unit) (K : Value → World → Prop) (w : World) : Prop := match s.run P w with | .ok _ w' => K undef w' | .halt _ _ => False

theorem mO_some {α : Type} {o : Option α} {K : α → Prop} (h : mO o K) : ∃ a, o = some a ∧ K a := by
  cases o with
  | none => exact h.elim
  | some a => exact ⟨a, rfl, h⟩
theorem mPtr_spec {x : Value} {K : Addr → Prop} (h : mPtr x K) : ∃ a, x = .pointer (some a) ∧ K a := by
  unfold mPtr at h; split at h
  · exact ⟨_, rfl, h⟩
  · exact h.elim
theorem mBool_spec {x : Value} {K : Bool → Prop} (h : mBool x K) : ∃ a, x = .bool a ∧ K a := by
  unfold mBool at h; split at h
  · exact ⟨_, rfl, h⟩
  · exact h.elim
theorem mIntK_spec {k : IntKind} {x : Value} {K : Int → Prop} (h : mIntK k x K) : ∃ a, x = .int k a ∧ K a := by
  unfold mIntK at h; split at h
  · obtain ⟨rfl, h⟩ := h; exact ⟨_, rfl, h⟩
  · exact h.elim
theorem mInt_spec {x : Value} {K : Int → Prop} (h : mInt x K) : ∃ k a, x = .int k a ∧ K a := by
  unfold mInt at h; split at h
  · exact ⟨_, _, rfl, h⟩
  · exact h.elim
theorem mStr_spec {x : Value} {K : ByteArray → Prop} (h : mStr x K) : ∃ a, x = .string a ∧ K a := by
  unfold mStr at h; split at h
  · exact ⟨_, rfl, h⟩
  · exact h.elim
theorem mSlice_spec {x : Value} {K : Option Addr → Nat → Nat → Prop} (h : mSlice x K) : ∃ a n c, x = .slice a n c ∧ K a n c := by
  unfold mSlice at h; split at h
  · exact ⟨_, _, _, rfl, h⟩
  · exact h.elim
theorem mAgg_spec {x : Value} {K : Array Value → Prop} (h : mAgg x K) : ∃ a, x = .agg a ∧ K a := by
  unfold mAgg at h; split at h
  · exact ⟨_, rfl, h⟩
  · exact h.elim
theorem mTup_spec {x : Value} {K : Array Value → Prop} (h : mTup x K) : ∃ a, x = .tuple a ∧ K a := by
  unfold mTup at h; split at h
  · exact ⟨_, rfl, h⟩
  · exact h.elim
theorem semV_spec {P : Program} {s : Sem Value} {K : Value → World → Prop} {w : World} (h : semV P s K w) : ∃ v w', s.run P w = .ok v w' ∧ K v w' := by
  unfold semV at h; split at h
  · exact ⟨_, _, by assumption, h⟩
  · exact h.elim
theorem semU_spec {P : Program} {s : Sem Unit} {K : Value → World → Prop} {w : World} (h : semU P s K w) : ∃ w', s.run P w = .ok () w' ∧ K undef w' := by
  unfold semU at h; split at h
  · exact ⟨_, by assumption, h⟩
  · exact h.elim

/-! ### Environments -/
inductive AV where
  | unk | und
  | val (v : Value)
abbrev Env := List (Nat × AV)
def eget : Env → Nat → AV
  | [], _ => .unk
  | (t', v) :: e, t => bif Nat.beq t' t then v else eget e t
def AV.opt : AV → Option Value
  | .val v => some v
  | _ => none
def oev (e : Env) : Operand → Option Value
  | .tmp t => (eget e t).opt
  | .const v => some v
  | .global g => some (.pointer (some ⟨g, 0, none⟩))
  | .func f => some (.func (.func f) #[] #[])
def oevs (e : Env) : List Operand → Option (List Value)
  | [] => some []
  | x :: l => match oev e x with
    | none => none
    | some v => match oevs e l with
      | none => none
      | some vs => some (v :: vs)
def oevps (e : Env) : List (Nat × Operand) → Option (List (Nat × Value))
  | [] => some []
  | (i, x) :: l => match oev e x with
    | none => none
    | some v => match oevps e l with
      | none => none
      | some vs => some ((i, v) :: vs)
/-- The frame's temporaries are as the environment says. -/
def Agree (e : Env) (a : Act) : Prop := ∀ t, match eget e t with
  | .val v => a.tmps.getD t undef = v
  | .und => a.tmps.getD t undef = undef
  | .unk => True
theorem Agree.val {e : Env} {a : Act} (h : Agree e a) {t : Nat} {v : Value} (hv : eget e t = .val v) : a.tmps.getD t undef = v := by
  have := h t; rw [hv] at this; exact this
theorem oev_sound {e : Env} {a : Act} (h : Agree e a) {x : Operand} {v : Value} (hx : oev e x = some v) : a.eval x = v := by
  cases x with
  | tmp t =>
    simp only [oev] at hx
    cases hg : eget e t <;> rw [hg] at hx <;> simp [AV.opt] at hx
    subst hx
    exact h.val hg
  | const v => simpa [oev, Act.eval] using hx
  | global g => simpa [oev, Act.eval] using hx
  | func f => simpa [oev, Act.eval] using hx
theorem oevs_sound {e : Env} {a : Act} (h : Agree e a) : ∀ {l : List Operand} {vs : List Value}, oevs e l = some vs → l.map a.eval = vs
  | [], vs, hx => by simpa [oevs] using hx
  | x :: l, vs, hx => by
    simp only [oevs] at hx
    split at hx
    · cases hx
    · rename_i v hv
      split at hx
      · cases hx
      · rename_i us hu
        cases hx
        simp [oev_sound h hv, oevs_sound h hu]
theorem oevps_sound {e : Env} {a : Act} (h : Agree e a) : ∀ {l : List (Nat × Operand)} {vs : List (Nat × Value)}, oevps e l = some vs → (l.map fun p => (p.1, a.eval p.2)) = vs
  | [], vs, hx => by simpa [oevps] using hx
  | (i, x) :: l, vs, hx => by
    simp only [oevps] at hx
    split at hx
    · cases hx
    · rename_i v hv
      split at hx
      · cases hx
      · rename_i us hu
        cases hx
        simp [oev_sound h hv, oevps_sound h hu]

/-! ### Memory -/
def cellsAt (w : World) (a : Addr) : Nat → Nat → Option (List Value)
  | _, 0 => some []
  | i, n + 1 => match w.cell? (a.add i) with
    | none => none
    | some v => match cellsAt w a (i + 1) n with
      | none => none
      | some vs => some (v :: vs)
def stores (a : Addr) : List Value → Nat → World → Option World
  | [], _, w => some w
  | v :: vs, i, w => bif v.oneCell' && (w.cell? (a.add i)).isSome && !(w.frozen? (a.add i)) then stores a vs (i + 1) (w.setCell (a.add i) v) else none
def putAt (cs : List Value) (off : Nat) (vs : List Value) : List Value := cs.take off ++ vs ++ cs.drop (off + vs.length)
def fillL : List Value → List (Nat × Nat × Value) → Option (List Value)
  | cs, [] => some cs
  | cs, (off, size, v) :: r => bif Nat.beq v.cells.size size && Nat.ble (off + size) cs.length then fillL (putAt cs off v.cells.toList) r else none
def zrow (z : List Value) : Nat → List Value
  | 0 => []
  | n + 1 => z ++ zrow z n

theorem run_loadCellsFrom_cells {P : Program} {w : World} {a : Addr} : ∀ (n i : Nat) (acc : Array Value) (cs : List Value), cellsAt w a i n = some cs →
    (loadCellsFrom a i n acc).run P w = .ok (acc ++ cs.toArray) w
  | 0, i, acc, cs, h => by simp [cellsAt] at h; subst h; simp [loadCellsFrom]
  | n + 1, i, acc, cs, h => by
    simp only [cellsAt] at h
    split at h
    · cases h
    · rename_i v hv
      split at h
      · cases h
      · rename_i us hu
        cases h
        simp [loadCellsFrom, hv, run_loadCellsFrom_cells n (i + 1) (acc.push v) us hu]
theorem run_storeCells_stores {P : Program} {a : Addr} : ∀ (vs : List Value) (i : Nat) (w w' : World), stores a vs i w = some w' → (storeCells a vs i).run P w = .ok () w'
  | [], i, w, w', h => by simp [stores] at h; subst h; simp [storeCells]
  | v :: vs, i, w, w', h => by
    simp only [stores, cond_eq_ite, Bool.and_eq_true, Bool.not_eq_true'] at h
    split at h
    · rename_i hc
      obtain ⟨⟨h1, h2⟩, h3⟩ := hc
      obtain ⟨u, hu⟩ := Option.isSome_iff_exists.1 h2
      simp only [storeCells, Sem.run_bind, run_store P w (a.add i) v .plain h1, hu, h3, Bool.false_eq_true, if_false, Result.andThen_ok]
      exact run_storeCells_stores vs (i + 1) _ w' h
    · cases h

/-! ### What is known of types, by the program's own table -/
def isAggD : TypeDesc → Bool
  | .struct _ => true
  | .array _ _ => true
  | _ => false
def shp (P : Program) (t : TypeId) : Option (Option Nat) :=
  match P.underlying t with
  | none => none
  | some d => match P.info? t with
    | none => none
    | some i => bif isAggD d then some (some i.size) else some none
def zeroO (P : Program) (t : TypeId) : Option Value := match P.info? t with
  | none => none
  | some i => i.zero
def sizeO (P : Program) (t : TypeId) : Option Nat := match P.info? t with
  | none => none
  | some i => some i.size
def fieldOff (P : Program) (s : TypeId) (f : Nat) : Option (Nat × TypeId) :=
  match P.underlying s with
  | some (.struct fields) => match fields.toList[f]? with
    | none => none
    | some fd => some (fd.offset, fd.type)
  | _ => none
def placesO (P : Program) : List Field → Option (List (Nat × Nat))
  | [] => some []
  | f :: fs => match sizeO P f.type with
    | none => none
    | some n => match placesO P fs with
      | none => none
      | some l => some ((f.offset, n) :: l)
def partsAt (pl : Nat → Option (Nat × Nat)) : List (Nat × Value) → Option (List (Nat × Nat × Value))
  | [] => some []
  | (i, v) :: r => match pl i with
    | none => none
    | some (off, size) => match partsAt pl r with
      | none => none
      | some l => some ((off, size, v) :: l)

section
variable {P : Program} {w : World} {t : TypeId}
theorem run_typeInfo' {i : TypeInfo} (h : P.info? t = some i) : (typeInfo t).run P w = .ok i w := by simp [typeInfo, h]
theorem run_sizeOf' {i : TypeInfo} (h : P.info? t = some i) : (sizeOf t).run P w = .ok i.size w := by simp [sizeOf, run_typeInfo' h]
theorem run_zero' {z : Value} (h : zeroO P t = some z) : (zeroValue t).run P w = .ok z w := by
  unfold zeroO at h
  split at h
  · cases h
  · rename_i i hi
    simp [zeroValue, run_typeInfo' hi, h]
theorem run_size' {n : Nat} (h : sizeO P t = some n) : (sizeOf t).run P w = .ok n w := by
  unfold sizeO at h
  split at h
  · cases h
  · rename_i i hi
    cases h
    exact run_sizeOf' hi
theorem run_isAgg' {d : TypeDesc} (h : P.underlying t = some d) : (isAgg t).run P w = .ok (isAggD d) w := by
  simp only [isAgg, Sem.run_bind, run_underlying h, Result.andThen_ok]
  cases d <;> simp [isAggD]
end

end Go.Ev
