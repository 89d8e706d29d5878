import Derived.Test.YtcabkicjboedaaaDoorEvJ
namespace Go.Ev
open Go
/-! ### Words for printed conditions. Their types name the rest: so simp does not walk into what follows. -/
universe u
/-- A condition with a rest K: its type is an R of K, so simp leaves the rest alone; R is always what gives Prop. -/
class RIs {α : Sort u} (R : α → Type) where
  h : (fun _ => Prop) = R
instance {α : Sort u} : RIs (fun _ : α => Prop) := ⟨rfl⟩
class RIs2 (R : Prop → Prop → Type) where
  h : (fun _ _ => Prop) = R
instance : RIs2 (fun _ _ => Prop) := ⟨rfl⟩
def asP {α : Sort u} {K : α} {R : α → Type} (h : (fun _ => Prop) = R) (p : Prop) : R K := @Eq.rec (α → Type) (fun _ => Prop) (fun R _ => R K) p R h
def asP2 {X Y : Prop} {R : Prop → Prop → Type} (h : (fun _ _ => Prop) = R) (p : Prop) : R X Y := @Eq.rec (Prop → Prop → Type) (fun _ _ => Prop) (fun R _ => R X Y) p R h
@[simp] theorem asP_rfl {α : Sort u} {K : α} {h : (fun _ : α => Prop) = fun _ => Prop} {p : Prop} : asP (K := K) h p = p := rfl
@[simp] theorem asP2_rfl {X Y : Prop} {h : (fun _ _ : Prop => Prop) = fun _ _ => Prop} {p : Prop} : asP2 (X := X) (Y := Y) h p = p := rfl
def kO {α : Type} (o : Option α) (K : α → Prop) (R : (α → Prop) → Type := fun _ => Prop) [_i : RIs R] : R K := asP _i.h (mO o K)
def kB (x : Value) (K : Bool → Prop) (R : (Bool → Prop) → Type := fun _ => Prop) [_i : RIs R] : R K := asP _i.h (mBool x K)
def kStr (x : Value) (K : ByteArray → Prop) (R : (ByteArray → Prop) → Type := fun _ => Prop) [_i : RIs R] : R K := asP _i.h (mStr x K)
def kInt (x : Value) (K : Int → Prop) (R : (Int → Prop) → Type := fun _ => Prop) [_i : RIs R] : R K := asP _i.h (mInt x K)
def kN (x : Value) (K : Prop) (R : (Prop) → Type := fun _ => Prop) [_i : RIs R] : R K := asP _i.h (mNil x K)
def kG (p K : Prop) (R : (Prop) → Type := fun _ => Prop) [_i : RIs R] : R K := asP _i.h (mG p K)
def kIf (b : Bool) (X Y : Prop) (R : Prop → Prop → Type := fun _ _ => Prop) [_i : RIs2 R] : R X Y := asP2 _i.h (condP b X Y)
def kfld (off : Nat) (x : Value) (K : Value → Prop) (R : (Value → Prop) → Type := fun _ => Prop) [_i : RIs R] : R K := asP _i.h (mPtr x fun a => K (.pointer (some (a.add off))))
def kld (x : Value) (w : World) (K : Value → Prop) (R : (Value → Prop) → Type := fun _ => Prop) [_i : RIs R] : R K := asP _i.h (mPtr x fun a => mO (w.cell? a) K)
def kldN (n : Nat) (x : Value) (w : World) (K : Value → Prop) (R : (Value → Prop) → Type := fun _ => Prop) [_i : RIs R] : R K := asP _i.h (mPtr x fun a => mO (cellsAt w a 0 n) fun cs => K (.agg cs.toArray))
def kst (n : Nat) (x v : Value) (w : World) (K : World → Prop) (R : (World → Prop) → Type := fun _ => Prop) [_i : RIs R] : R K := asP _i.h (mPtr x fun a => mG (v.cells.size = n) (mO (stores a v.cells.toList 0 w) K))
def knew (cs : Array Value) (t : TypeId) (w : World) (K : Value → World → Prop) (R : (Value → World → Prop) → Type := fun _ => Prop) [_i : RIs R] : R K := asP _i.h (K (.pointer (some ⟨w.heap.size, 0, none⟩)) (w.alloc (.cells cs t)))
def kmap (w : World) (K : Value → World → Prop) (R : (Value → World → Prop) → Type := fun _ => Prop) [_i : RIs R] : R K := asP _i.h (K (.map (some w.heap.size)) (w.alloc (.map #[] 0)))
def kbld (z : List Value) (qs : List (Nat × Nat × Value)) (K : Value → Prop) (R : (Value → Prop) → Type := fun _ => Prop) [_i : RIs R] : R K := asP _i.h (mO (fillL z qs) fun cs => K (.agg cs.toArray))
def kbldS (z : List Value) (len : Nat) (qs : List (Nat × Nat × Value)) (t : TypeId) (w : World) (K : Value → World → Prop) (R : (Value → World → Prop) → Type := fun _ => Prop) [_i : RIs R] : R K := asP _i.h <|
  mO (fillL (zrow z len) qs) fun cs => K (.slice (some ⟨w.heap.size, 0, none⟩) len len) (w.alloc (.cells cs.toArray t))
def kext (x : Value) (i : Nat) (K : Value → Prop) (R : (Value → Prop) → Type := fun _ => Prop) [_i : RIs R] : R K := asP _i.h (mTup x fun vs => mO vs[i]? K)
def kcnv (k : IntKind) (x : Value) (K : Value → Prop) (R : (Value → Prop) → Type := fun _ => Prop) [_i : RIs R] : R K := asP _i.h (mInt x fun n => K (.int k (k.wrap n)))
def klenStr (x : Value) (K : Value → Prop) (R : (Value → Prop) → Type := fun _ => Prop) [_i : RIs R] : R K := asP _i.h (mStr x fun s => K (.int .i64 s.size))
def klen (x : Value) (K : Value → Prop) (R : (Value → Prop) → Type := fun _ => Prop) [_i : RIs R] : R K := asP _i.h (mSlice x fun _ n _ => K (.int .i64 n))
def kcap (x : Value) (K : Value → Prop) (R : (Value → Prop) → Type := fun _ => Prop) [_i : RIs R] : R K := asP _i.h (mSlice x fun _ _ c => K (.int .i64 c))
def kprt (x : Value) (off : Nat) (K : Value → Prop) (R : (Value → Prop) → Type := fun _ => Prop) [_i : RIs R] : R K := asP _i.h (mAgg x fun cs => mO cs[off]? K)
def kprtN (x : Value) (off n : Nat) (K : Value → Prop) (R : (Value → Prop) → Type := fun _ => Prop) [_i : RIs R] : R K := asP _i.h (mAgg x fun cs => K (.agg (cs.extract off (off + n))))
def kbool (op : BinOp) (a b : Value) (K : Value → Prop) (R : (Value → Prop) → Type := fun _ => Prop) [_i : RIs R] : R K := asP _i.h (mBool a fun x => mBool b fun y => mO (boolBin x y op) K)
def kint (k : IntKind) (op : BinOp) (a b : Value) (K : Value → Prop) (R : (Value → Prop) → Type := fun _ => Prop) [_i : RIs R] : R K := asP _i.h (intW k op a b K)
def kstr (op : BinOp) (a b : Value) (K : Value → Prop) (R : (Value → Prop) → Type := fun _ => Prop) [_i : RIs R] : R K := asP _i.h (strW op a b K)
def keq (P : Program) (op : BinOp) (t : TypeId) (cx cy : Bool) (a b : Value) (w : World) (K : Value → World → Prop) (R : (Value → World → Prop) → Type := fun _ => Prop) [_i : RIs R] : R K := asP _i.h (eqW P op t cx cy a b K w)
def kun (op : UnOp) (d : Option TypeDesc) (a : Value) (K : Value → Prop) (R : (Value → Prop) → Type := fun _ => Prop) [_i : RIs R] : R K := asP _i.h (unW op d a K)
def ksl (d : Option TypeDesc) (es : Option Nat) (x : Value) (lo hi : Option Value) (K : Value → Prop) (R : (Value → Prop) → Type := fun _ => Prop) [_i : RIs R] : R K := asP _i.h (sliceW d es x lo hi K)
def kix (d : Option TypeDesc) (es : Option Nat) (x i : Value) (K : Value → Prop) (R : (Value → Prop) → Type := fun _ => Prop) [_i : RIs R] : R K := asP _i.h (indexAddrW d es x i K)
def kiv (P : Program) (d : Option TypeDesc) (x i : Value) (K : Value → Prop) (R : (Value → Prop) → Type := fun _ => Prop) [_i : RIs R] : R K := asP _i.h (indexW P d x i K)
def kta (t : TypeId) (z : Value) (ok : Bool) (x : Value) (K : Value → Prop) (R : (Value → Prop) → Type := fun _ => Prop) [_i : RIs R] : R K := asP _i.h (taW t z ok x K)
def kmk (z : Value) (bytes : Nat) (t : TypeId) (l c : Value) (w : World) (K : Value → World → Prop) (R : (Value → World → Prop) → Type := fun _ => Prop) [_i : RIs R] : R K := asP _i.h (makeSliceW z bytes t l c K w)
def kmm (k : IntKind) (isMax : Bool) (a b : Value) (K : Value → Prop) (R : (Value → Prop) → Type := fun _ => Prop) [_i : RIs R] : R K := asP _i.h (minmaxW k isMax a b K)
def ksem (P : Program) (s : Sem Value) (w : World) (K : Value → World → Prop) (R : (Value → World → Prop) → Type := fun _ => Prop) [_i : RIs R] : R K := asP _i.h (semV P s K w)
def ksemU (P : Program) (s : Sem Unit) (w : World) (K : Value → World → Prop) (R : (Value → World → Prop) → Type := fun _ => Prop) [_i : RIs R] : R K := asP _i.h (semU P s K w)
def kextf (P : Program) (f : FuncId) (args : List Value) (w : World) (K : Value → World → Prop) (R : (Value → World → Prop) → Type := fun _ => Prop) [_i : RIs R] : R K := asP _i.h (extW P f args K w)
def kcallV (P : Program) (f : Value) (args : List Value) (w : World) (K : Value → World → Prop) (R : (Value → World → Prop) → Type := fun _ => Prop) [_i : RIs R] : R K := asP _i.h (callV P f args K w)
def kcallM (P : Program) (r : Value) (name : String) (args : List Value) (w : World) (K : Value → World → Prop) (R : (Value → World → Prop) → Type := fun _ => Prop) [_i : RIs R] : R K := asP _i.h (callM P r name args K w)
def kcall (P : Program) (f : FuncId) (args : Array Value) (w : World) (K : Value → World → Prop) (R : (Value → World → Prop) → Type := fun _ => Prop) [_i : RIs R] : R K := asP _i.h (Meets P f args w K)
def kL {α β : Type} (F : α → β → Prop) (R : (α → β → Prop) → Type := fun _ => Prop) [_i : RIs R] : R F := asP _i.h (∃ I μ, F I μ)
end Go.Ev
