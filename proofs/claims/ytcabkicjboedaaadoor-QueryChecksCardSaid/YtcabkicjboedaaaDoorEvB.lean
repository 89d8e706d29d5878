import Derived.Test.YtcabkicjboedaaaDoorEvA
namespace Go.Ev
open Go

/-! ### Operations -/
def isC : Operand → Bool
  | .const _ => true
  | _ => false
def pickW (c : Value) (a b : Option Value) (K : Value → Prop) : Prop := match a, b with
  | some a, some b => mBool c fun t => K (bif t then a else b)
  | some a, none => mBool c fun t => bif t then K a else False
  | none, some b => mBool c fun t => bif t then False else K b
  | none, none => False
def intBin (k : IntKind) (x y : Int) : BinOp → Option Value
  | .add => some (.int k (k.wrap (x + y)))
  | .sub => some (.int k (k.wrap (x - y)))
  | .mul => some (.int k (k.wrap (x * y)))
  | .and => some (.int k (k.wrap (BitVec.ofInt k.bits x &&& BitVec.ofInt k.bits y).toNat))
  | .or => some (.int k (k.wrap (BitVec.ofInt k.bits x ||| BitVec.ofInt k.bits y).toNat))
  | .xor => some (.int k (k.wrap (BitVec.ofInt k.bits x ^^^ BitVec.ofInt k.bits y).toNat))
  | .andNot => some (.int k (k.wrap (BitVec.ofInt k.bits x &&& ~~~(BitVec.ofInt k.bits y)).toNat))
  | .eql => some (.bool (x == y))
  | .neq => some (.bool (x != y))
  | .lss => some (.bool (decide (x < y)))
  | .leq => some (.bool (decide (x ≤ y)))
  | .gtr => some (.bool (decide (x > y)))
  | .geq => some (.bool (decide (x ≥ y)))
  | _ => none
def intW (k : IntKind) (op : BinOp) (a b : Value) (K : Value → Prop) : Prop := match op with
  | .shl => mIntK k a fun x => mInt b fun y => mG (0 ≤ y) (K (.int k (k.wrap (x * 2 ^ (min y.toNat k.bits)))))
  | .shr => mIntK k a fun x => mInt b fun y => mG (0 ≤ y) (K (.int k (x.fdiv (2 ^ (min y.toNat k.bits)))))
  | .quo => mIntK k a fun x => mIntK k b fun y => mG (y ≠ 0) (K (.int k (k.wrap (x.tdiv y))))
  | .rem => mIntK k a fun x => mIntK k b fun y => mG (y ≠ 0) (K (.int k (x.tmod y)))
  | op => mIntK k a fun x => mIntK k b fun y => mO (intBin k x y op) K
def strBin (x y : ByteArray) : BinOp → Option Value
  | .eql => some (.bool (x.toList == y.toList))
  | .neq => some (.bool (!(x.toList == y.toList)))
  | .lss => some (.bool (Op.bytesLess x.toList y.toList))
  | .leq => some (.bool (Op.bytesLess x.toList y.toList || x.toList == y.toList))
  | .gtr => some (.bool (!(Op.bytesLess x.toList y.toList || x.toList == y.toList)))
  | .geq => some (.bool (!(Op.bytesLess x.toList y.toList)))
  | _ => none
def strW (op : BinOp) (a b : Value) (K : Value → Prop) : Prop := match op with
  | .add => mStr a fun x => mStr b fun y => mG (x.size + y.size ≤ 9223372036854775807) (K (.string (x ++ y)))
  | op => mStr a fun x => mStr b fun y => mO (strBin x y op) K
def boolBin (x y : Bool) : BinOp → Option Value
  | .eql => some (.bool (x == y))
  | .neq => some (.bool (!(x == y)))
  | _ => none
def flagOp : Bool → Operand
  | true => .const undef
  | false => .tmp 0
def eqW (P : Program) (op : BinOp) (t : TypeId) (cx cy : Bool) (a b : Value) (K : Value → World → Prop) (w : World) : Prop :=
  semV P (do eqGuard op t (flagOp cx) (flagOp cy) a b; binOp op t a b) K w
def binW (P : Program) (op : BinOp) (t : TypeId) (cx cy : Bool) (a b : Value) (K : Value → World → Prop) (w : World) : Prop :=
  match P.underlying t with
  | some (.int k) => intW k op a b fun v => K v w
  | some .string => strW op a b fun v => K v w
  | some .bool => mBool a fun x => mBool b fun y => mO (boolBin x y op) fun v => K v w
  | _ => eqW P op t cx cy a b K w
def unW (op : UnOp) (d : Option TypeDesc) (a : Value) (K : Value → Prop) : Prop := match op, d with
  | .neg, some (.int k) => mIntK k a fun n => K (.int k (k.wrap (0 - n)))
  | .xor, some (.int k) => mIntK k a fun n => K (.int k (k.wrap (BitVec.ofInt k.bits (if k.signed then -1 else k.max) ^^^ BitVec.ofInt k.bits n).toNat))
  | .not, _ => mBool a fun b => K (.bool (!b))
  | _, _ => False
def convW (P : Program) (s d : TypeId) (x : Value) (K : Value → World → Prop) (w : World) : Prop :=
  match P.underlying s, P.underlying d with
  | some (.int _), some (.int k) => mInt x fun n => K (.int k (k.wrap n)) w
  | some .string, some .string => mStr x fun s => K (.string s) w
  | _, _ => semV P (convert s d x) K w
def oopt (e : Env) : Option Operand → Option (Option Value)
  | none => some none
  | some x => match oev e x with
    | none => none
    | some v => some (some v)
def loW (lo : Option Value) (K : Int → Prop) : Prop := match lo with
  | none => K 0
  | some v => mInt v K
def hiW (hi : Option Value) (n : Nat) (K : Int → Prop) : Prop := match hi with
  | none => K n
  | some v => mInt v K
def sliceW (d : Option TypeDesc) (es : Option Nat) (x : Value) (lo hi : Option Value) (K : Value → Prop) : Prop := match d with
  | some .string => mStr x fun s => loW lo fun l => hiW hi s.size fun h => mG (0 ≤ l ∧ l ≤ h ∧ h ≤ s.size) (K (.string (s.extract l.toNat h.toNat)))
  | some (.slice _) => mO es fun size => mSlice x fun a n c => loW lo fun l => hiW hi n fun h => mG (0 ≤ l ∧ l ≤ h ∧ h ≤ c) (K (.slice (if c = l.toNat then a else a.map (·.add (l.toNat * size))) (h.toNat - l.toNat) (c - l.toNat)))
  | some (.array n _) => mO es fun size => mPtr x fun a => loW lo fun l => hiW hi n fun h => mG (0 ≤ l ∧ l ≤ h ∧ h ≤ n) (K (.slice (some (if n = l.toNat then a else a.add (l.toNat * size))) (h.toNat - l.toNat) (n - l.toNat)))
  | _ => False
def elemSize (P : Program) : Option TypeDesc → Option Nat
  | some (.slice e) => sizeO P e
  | some (.array _ e) => sizeO P e
  | _ => none
def indexAddrW (d : Option TypeDesc) (es : Option Nat) (x i : Value) (K : Value → Prop) : Prop := match d with
  | some (.slice _) => mO es fun size => mSlice x fun a n _ => mInt i fun i => mO a fun a => mG (0 ≤ i ∧ i < n) (K (.pointer (some (a.add (i.toNat * size)))))
  | some (.array n _) => mO es fun size => mPtr x fun a => mInt i fun i => mG (0 ≤ i ∧ i < n) (K (.pointer (some (a.add (i.toNat * size)))))
  | _ => False
def partW (s : Option (Option Nat)) (cs : Array Value) (off : Nat) (K : Value → Prop) : Prop := match s with
  | some none => mO cs[off]? K
  | some (some n) => K (.agg (cs.extract off (off + n)))
  | none => False
def indexW (P : Program) (d : Option TypeDesc) (x i : Value) (K : Value → Prop) : Prop := match d with
  | some (.array n e) => mO (sizeO P e) fun size => mAgg x fun cs => mInt i fun i => mG (0 ≤ i ∧ i < n) (partW (shp P e) cs (i.toNat * size) K)
  | some .string => mStr x fun s => mInt i fun i => mG (0 ≤ i) (mO s[i.toNat]? fun b => K (.int .u8 b.toNat))
  | _ => False
def taW (t : TypeId) (z : Value) (ok : Bool) (x : Value) (K : Value → Prop) : Prop := match x with
  | .nilIface => bif ok then K (.tuple #[z, .bool false]) else False
  | .iface t' v => bif Nat.beq t' t then (bif ok then K (.tuple #[v, .bool true]) else K v) else (bif ok then K (.tuple #[z, .bool false]) else False)
  | _ => False
def makeSliceW (z : Value) (bytes : Nat) (t : TypeId) (l c : Value) (K : Value → World → Prop) (w : World) : Prop :=
  mIntK .i64 l fun l => mIntK .i64 c fun c => mG (0 ≤ l ∧ l ≤ c ∧ c ≤ 9223372036854775807 ∧ bytes * c ≤ 281474976710656) (K (.slice (some ⟨w.heap.size, 0, none⟩) l.toNat c.toNat) (w.alloc (.cells (zrow z.cells.toList c.toNat).toArray t)))
def callable (P : Program) (f : FuncId) : Bool := match P.funcs[f]? with
  | some fn => fn.body.isSome && !(fn.name == "runtime.NumGoroutine")
  | none => false
/-- THE CONTRACT: function f, called so in this world, returns, and Q holds of its result and the world behind it. -/
def Meets (P : Program) (f : FuncId) (args : Array Value) (w : World) (Q : Value → World → Prop) : Prop :=
  callable P f = true ∧ Calls P f args w fun e w' => ∃ v, e = .returned v ∧ Q v w'
theorem Meets.mono {P : Program} {f : FuncId} {args : Array Value} {w : World} {Q Q' : Value → World → Prop} (h : Meets P f args w Q) (hq : ∀ v w', Q v w' → Q' v w') : Meets P f args w Q' :=
  ⟨h.1, h.2.mono fun _ _ ⟨v, he, hv⟩ => ⟨v, he, hq _ _ hv⟩⟩
def callV (P : Program) (f : Value) (args : List Value) (K : Value → World → Prop) (w : World) : Prop := match f with
  | .func (.func f) first captured => Meets P f (first ++ args.toArray ++ captured) w K
  | _ => False
def extW (P : Program) (f : FuncId) (args : List Value) (K : Value → World → Prop) (w : World) : Prop :=
  match (callFunc f args.toArray).run P w with
  | .ok (.value v) w' => K v w'
  | _ => False
def callF (P : Program) (f : FuncId) (args : List Value) (K : Value → World → Prop) (w : World) : Prop := match P.funcs[f]? with
  | some fn => bif fn.body.isSome then Meets P f args.toArray w K else extW P f args K w
  | none => False
def callM (P : Program) (r : Value) (name : String) (args : List Value) (K : Value → World → Prop) (w : World) : Prop := match r with
  | .iface t v => match (method (P.types.size + Made.depth) t v name).run P w with
    | .ok (f, u) w' => callF P f (u :: args) K w'
    | .halt _ _ => False
  | _ => False
def minmaxW (k : IntKind) (isMax : Bool) (a b : Value) (K : Value → Prop) : Prop :=
  mIntK k a fun x => mIntK k b fun y => K (.int k (bif isMax then (if y > x then y else x) else (if y < x then y else x)))
def lenW (P : Program) (t : TypeId) (x : Value) (K : Value → World → Prop) (w : World) : Prop := match P.underlying t with
  | some .string => mStr x fun s => K (.int .i64 s.size) w
  | some (.slice _) => mSlice x fun _ n _ => K (.int .i64 n) w
  | _ => semV P (Builtin.len_ #[t] 0 #[x]) K w
def capW (P : Program) (t : TypeId) (x : Value) (K : Value → Prop) : Prop := match P.underlying t with
  | some (.slice _) => mSlice x fun _ _ c => K (.int .i64 c)
  | _ => False
def builtinW (P : Program) (b : Builtin) (at_ : List TypeId) (ty : TypeId) (vs : List Value) (K : Value → World → Prop) (w : World) : Prop := match b, at_, vs with
  | .len, [t], [x] => lenW P t x K w
  | .cap, [t], [x] => capW P t x fun v => K v w
  | .append, ts, vs => semV P (Builtin.append_ ts.toArray 0 vs.toArray) K w
  | .copy, ts, vs => semV P (Builtin.copy_ ts.toArray 0 vs.toArray) K w
  | .delete, ts, vs => semV P (Builtin.delete_ ts.toArray 0 vs.toArray) K w
  | .clear, ts, vs => semV P (Builtin.clear_ ts.toArray 0 vs.toArray) K w
  | .min, [_, _], [a, b] => match P.underlying ty with
    | some (.int k) => minmaxW k false a b fun v => K v w
    | _ => False
  | .max, [_, _], [a, b] => match P.underlying ty with
    | some (.int k) => minmaxW k true a b fun v => K v w
    | _ => False
  | .unsafeSliceData, ts, vs => semV P (Builtin.unsafeSliceData_ ts.toArray ty vs.toArray) K w
  | .unsafeString, ts, vs => semV P (Builtin.unsafeString_ ts.toArray ty vs.toArray) K w
  | _, _, _ => False
def calleeF : Operand → Option FuncId
  | .func f => some f
  | _ => none
def callW (P : Program) (e : Env) (ty : TypeId) (K : Value → World → Prop) (w : World) (c : Call) : Prop := mO (oevs e c.args.toList) fun vs =>
  match c.callee with
  | .builtin b => builtinW P b c.argTypes.toList ty vs K w
  | .invoke r name => mO (oev e r) fun r => callM P r name vs K w
  | .value f => match calleeF f with
    | some f => match P.funcs[f]? with
      | some fn => bif fn.body.isSome then Meets P f vs.toArray w K else extW P f vs K w
      | none => False
    | none => mO (oev e f) fun f => callV P f vs K w
def buildPl (P : Program) (t : TypeId) : Option (Nat → Option (Nat × Nat)) := match P.underlying t with
  | some (.struct fields) => match placesO P fields.toList with
    | some l => some fun i => l[i]?
    | none => none
  | some (.array _ el) => match sizeO P el with
    | some n => some fun i => some (i * n, n)
    | none => none
  | _ => none
def opW (P : Program) (e : Env) (ty : TypeId) (K : Value → World → Prop) (w : World) : Op → Prop
  | .move x | .assign x => mO (oev e x) fun v => K v w
  | .pick c a b => mO (oev e c) fun c => pickW c (oev e a) (oev e b) fun v => K v w
  | .alloc t => mO (zeroO P t) fun z => K (.pointer (some ⟨w.heap.size, 0, none⟩)) (w.alloc (.cells z.cells t))
  | .box t x => mO (oev e x) fun v => K (.pointer (some ⟨w.heap.size, 0, none⟩)) (w.alloc (.cells v.cells t))
  | .build t parts => mO (oevps e parts.toList) fun ps => mO (zeroO P t) fun z => mO (buildPl P t) fun pl => mO (partsAt pl ps) fun qs =>
      mO (fillL z.cells.toList qs) fun cs => K (.agg cs.toArray) w
  | .buildSlice t len parts => mO (oevps e parts.toList) fun ps => match P.underlying t with
    | some (.slice el) => mO (sizeO P el) fun n => mO (zeroO P el) fun z => bif Nat.ble (len * n) 16777216 then mO (partsAt (fun i => some (i * n, n)) ps) fun qs =>
        mO (fillL (zrow z.cells.toList len) qs) fun cs => bif Nat.beq z.cells.size n then K (.slice (some ⟨w.heap.size, 0, none⟩) len len) (w.alloc (.cells cs.toArray el)) else False else False
    | _ => False
  | .insert t m k v | .mapUpdate t m k v => mO (oev e m) fun m => mO (oev e k) fun k => mO (oev e v) fun v => semU P (Instr.mapUpdate t m k v) K w
  | .load t x => mO (oev e x) fun x => mO (shp P t) fun s => mPtr x fun a => match s with
    | none => mO (w.cell? a) fun v => K v w
    | some n => mO (cellsAt w a 0 n) fun cs => K (.agg cs.toArray) w
  | .store t x v => mO (oev e x) fun x => mO (oev e v) fun v => mO (sizeO P t) fun n => mPtr x fun a => mG (v.cells.size = n) (mO (stores a v.cells.toList 0 w) fun w' => K undef w')
  | .nilCheck x => mO (oev e x) fun v => mNil v (K v w)
  | .binOp op t x y _ => mO (oev e x) fun a => mO (oev e y) fun b => binW P op t (isC x) (isC y) a b K w
  | .unOp op t x => mO (oev e x) fun a => unW op (P.underlying t) a fun v => K v w
  | .convert s d x => mO (oev e x) fun x => convW P s d x K w
  | .makeInterface t x => mO (oev e x) fun x => match P.underlying t with
    | some d => match d with
      | .interface _ => False
      | _ => K (.iface t x) w
    | none => False
  | .makeFunc fn first captured => mO (oevs e first.toList) fun vs => mO (oevs e captured.toList) fun cs => K (.func fn vs.toArray cs.toArray) w
  | .makeMap t r => match r with
    | none => K (.map (some w.heap.size)) (w.alloc (.map #[] 0))
    | some r => mO (oev e r) fun r => mInt r fun _ => match P.underlying t with
      | some (.map _ _) => K (.map (some w.heap.size)) (w.alloc (.map #[] 0))
      | _ => False
  | .makeSlice t l c => mO (oev e l) fun l => mO (oev e c) fun c => match P.underlying t with
    | some (.slice el) => match P.info? el with
      | some i => mO i.zero fun z => bif Nat.beq z.cells.size i.size then makeSliceW z i.bytes el l c K w else False
      | none => False
    | _ => False
  | .slice t x lo hi mx => match mx with
    | none => mO (oev e x) fun x => mO (oopt e lo) fun lo => mO (oopt e hi) fun hi => sliceW (P.underlying t) (elemSize P (P.underlying t)) x lo hi fun v => K v w
    | some _ => False
  | .fieldAddr s x f => mO (oev e x) fun x => mO (fieldOff P s f) fun (off, ft) => mO (sizeO P ft) fun n => bif Nat.beq n 0 then False else mPtr x fun a => K (.pointer (some (a.add off))) w
  | .field s x f => mO (oev e x) fun x => mO (fieldOff P s f) fun (off, ft) => mAgg x fun cs => partW (shp P ft) cs off fun v => K v w
  | .indexAddr t x i => mO (oev e x) fun x => mO (oev e i) fun i => indexAddrW (P.underlying t) (elemSize P (P.underlying t)) x i fun v => K v w
  | .index t x i => mO (oev e x) fun x => mO (oev e i) fun i => indexW P (P.underlying t) x i fun v => K v w
  | .lookup t m k ok => mO (oev e m) fun m => mO (oev e k) fun k => semV P (Instr.lookup t m k ok) K w
  | .mapEntry t m k => mO (oev e m) fun m => mO (oev e k) fun k => semV P (Instr.mapEntry t m k) K w
  | .entryStore t m s x => mO (oev e m) fun m => mO (oev e s) fun s => mO (oev e x) fun x => semU P (Instr.entryStore t m s x) K w
  | .range t x => mO (oev e x) fun x => semV P (Instr.range t x) K w
  | .next it s => mO (oev e it) fun it => semV P (Instr.next it s ty) K w
  | .entry it => mO (oev e it) fun it => semV P (Instr.entry it) K w
  | .typeAssert x xt t ok => mO (oev e x) fun x => match P.underlying t with
    | some (.interface _) => semV P (Instr.typeAssert x xt t ok) K w
    | some _ => mO (zeroO P t) fun z => taW t z ok x fun v => K v w
    | none => False
  | .extract x i => mO (oev e x) fun x => mTup x fun vs => mO vs[i]? fun v => K v w
  | .call c => callW P e ty K w c
  | _ => False

/-- Operations that yield a value themselves (no call of a function, no store). -/
def valOp : Op → Bool
  | .insert .. | .mapUpdate .. | .store .. | .entryStore .. => false
  | .call c => match c.callee with
    | .builtin _ => true
    | _ => false
  | _ => true
theorem eqGuard_flag (op : BinOp) (t : TypeId) (x y : Operand) (a b : Value) : eqGuard op t (flagOp (isC x)) (flagOp (isC y)) a b = eqGuard op t x y a b := by
  cases x <;> cases y <;> rfl
end Go.Ev
