/-
Lemmas for the statements of this seat: no statement of the seat is proved in this part (1 of 8); the conditions stand in each theorem.
-/
import Derived.WalkKit
import Derived.Orders
import Derived.KernelRfl
import Derived.Below
import Derived.Deep.AppendSrc
import Derived.LaidEql
set_option autoImplicit true
set_option relaxedAutoImplicit true
set_option linter.unusedSimpArgs false
set_option linter.unusedVariables false
set_option maxRecDepth 100000
section
/- A verification-condition reading of the model's code: 'vc' of a function's code holds at once for all orders and tapes, and it implies the model's own 'Calls' (no condition). -/
namespace Go.Ev
open Go
def mO {α:Type} (o:Option α) (K:α→Prop):Prop:=match o with | some a=>K a | none=>False
def mPtr (x:Value) (K:Addr→Prop):Prop:=match x with | .pointer (some a)=>K a | _=>False
def mBool (x:Value) (K:Bool→Prop):Prop:=match x with | .bool b=>K b | _=>False
def mIntK (k:IntKind) (x:Value) (K:Int→Prop):Prop:=match x with | .int k' n=>k'=k∧K n | _=>False
def mInt (x:Value) (K:Int→Prop):Prop:=match x with | .int _ n=>K n | _=>False
def mStr (x:Value) (K:ByteArray→Prop):Prop:=match x with | .string s=>K s | _=>False
def mSlice (x:Value) (K:Option Addr→Nat→Nat→Prop):Prop:=match x with | .slice a n c=>K a n c | _=>False
def uX (x:Value) (K:Array Value→Prop):Prop:=match x with | .agg cs=>K cs | _=>False
def CL (x:Value) (K:Array Value→Prop):Prop:=match x with | .tuple cs=>K cs | _=>False
def CM (x:Value) (K:Prop):Prop:=match x with | .pointer none | .nilIface | .nilFunc=>False | .func (.method _) _ _=>False | _=>K
def tF (b:Bool) (X Y:Prop):Prop:=bif b then X else Y
def mG (p:Prop) (K:Prop):Prop:=p∧K
def semV (P:Program) (s:Sem Value) (K:Value→World→Prop) (w:World):Prop:=match s.run P w with | .ok v w'=>K v w' | .halt _ _=>False
def semU (P:Program) (s:Sem Unit) (K:Value→World→Prop) (w:World):Prop:=match s.run P w with | .ok _ w'=>K undef w' | .halt _ _=>False
theorem aO {α:Type} {o:Option α} {K:α→Prop} (h:mO o K):∃a,o=some a∧K a:=by
 cases o with
 | none=>exact h.elim
 | some a=>exact⟨a,rfl,h⟩
theorem fO {K:Addr→Prop} (h:mPtr x K):∃a,x=.pointer (some a)∧K a:=by
 unfold mPtr at h; split at h
 ·exact⟨_,rfl,h⟩
 ·exact h.elim
theorem d4 {K:Bool→Prop} (h:mBool x K):∃a,x=.bool a∧K a:=by
 unfold mBool at h; split at h
 ·exact⟨_,rfl,h⟩
 ·exact h.elim
theorem cG {K:Int→Prop} (h:mIntK k x K):∃a,x=.int k a∧K a:=by
 unfold mIntK at h; split at h
 ·obtain⟨rfl,h⟩:=h; exact⟨_,rfl,h⟩
 ·exact h.elim
theorem dX {K:Int→Prop} (h:mInt x K):∃k a,x=.int k a∧K a:=by
 unfold mInt at h; split at h
 ·exact⟨_,_,rfl,h⟩
 ·exact h.elim
theorem eI {K:ByteArray→Prop} (h:mStr x K):∃a,x=.string a∧K a:=by
 unfold mStr at h; split at h
 ·exact⟨_,rfl,h⟩
 ·exact h.elim
theorem gg {K:Option Addr→Nat→Nat→Prop} (h:mSlice x K):∃a n c,x=.slice a n c∧K a n c:=by
 unfold mSlice at h; split at h
 ·exact⟨_,_,_,rfl,h⟩
 ·exact h.elim
theorem nJ {K:Array Value→Prop} (h:uX x K):∃a,x=.agg a∧K a:=by
 unfold uX at h; split at h
 ·exact⟨_,rfl,h⟩
 ·exact h.elim
theorem uY {K:Array Value→Prop} (h:CL x K):∃a,x=.tuple a∧K a:=by
 unfold CL at h; split at h
 ·exact⟨_,rfl,h⟩
 ·exact h.elim
theorem eJ {K:Value→World→Prop} (h:semV P s K w):∃v w',s.run P w=.ok v w'∧K v w':=by
 unfold semV at h; split at h
 ·exact⟨_,_,by assumption,h⟩
 ·exact h.elim
theorem kh {K:Value→World→Prop} (h:semU P s K w):∃w',s.run P w=.ok () w'∧K undef w':=by
 unfold semU at h; split at h
 ·exact⟨_,by assumption,h⟩
 ·exact h.elim
inductive AV where
 | unk | und
 | val (v:Value)
abbrev dt:=List (Nat×AV)
def eget:dt→Nat→AV
 | [],_=>.unk
 | (t',v)::e,t=>bif Nat.beq t' t then v else eget e t
def AV.opt:AV→Option Value
 | .val v=>some v
 | _=>none
def oev (e:dt):Operand→Option Value
 | .tmp t=>(eget e t).opt
 | .const v=>some v
 | .global g=>some (.pointer (some ⟨g,0,none⟩))
 | .func f=>some (.func (.func f) #[] #[])
def oevs (e:dt):List Operand→Option (List Value)
 | []=>some []
 | x::l=>match oev e x with
  | none=>none
  | some v=>match oevs e l with
   | none=>none
   | some vs=>some (v::vs)
def oevps (e:dt):List (Nat×Operand)→Option (List (Nat×Value))
 | []=>some []
 | (i,x)::l=>match oev e x with
  | none=>none
  | some v=>match oevps e l with
   | none=>none
   | some vs=>some ((i,v)::vs)
def eK (e:dt) (a:Act):Prop:=∀t,match eget e t with
 | .val v=>a.tmps.getD t undef=v
 | .und=>a.tmps.getD t undef=undef
 | .unk=>True
theorem eK.val (h:eK e a) {t:Nat} {v:Value} (hv:eget e t=.val v):a.tmps.getD t undef=v:=by
 have:=h t; rw[hv]at this; exact this
theorem oev_sound (h:eK e a) {x:Operand} {v:Value} (hx:oev e x=some v):a.eval x=v:=by
 cases x with
 | tmp t =>
  simp only[oev]at hx;cases hg:eget e t<;>rw[hg]at hx<;>simp[AV.opt]at hx;subst hx;exact h.val hg
 | const v=>simpa [oev,Act.eval] using hx
 | global g=>simpa [oev,Act.eval] using hx
 | func f=>simpa [oev,Act.eval] using hx
theorem oevs_sound (h:eK e a):∀{l:List Operand} {vs:List Value},oevs e l=some vs→l.map a.eval=vs
 | [],vs,hx=>by simpa [oevs] using hx
 | x::l,vs,hx=>by
  simp only[oevs]at hx;split at hx
  ·cases hx
  ·rename_i v hv;split at hx
   ·cases hx
   ·rename_i us hu;cases hx;simp[oev_sound h hv,oevs_sound h hu]
theorem oevps_sound (h:eK e a):∀{l:List (Nat×Operand)} {vs:List (Nat×Value)},oevps e l=some vs→(l.map fun p=>(p.1,a.eval p.2))=vs
 | [],vs,hx=>by simpa [oevps] using hx
 | (i,x)::l,vs,hx=>by
  simp only[oevps]at hx;split at hx
  ·cases hx
  ·rename_i v hv;split at hx
   ·cases hx
   ·rename_i us hu;cases hx;simp[oev_sound h hv,oevps_sound h hu]
def cellsAt (w:World) (a:Addr):Nat→Nat→Option (List Value)
 | _,0=>some []
 | i,n+1=>match w.cell? (a.add i)with
  | none=>none
  | some v=>match cellsAt w a (i+1) n with
   | none=>none
   | some vs=>some (v::vs)
def stores (a:Addr):List Value→Nat→World→Option World
 | [],_,w=>some w
 | v::vs,i,w=>bif v.oneCell'&&(w.cell? (a.add i)).isSome&&!(w.frozen? (a.add i)) then stores a vs (i+1) (w.setCell (a.add i) v) else none
def putAt (cs:List Value) (off:Nat) (vs:List Value):List Value:=cs.take off++vs++cs.drop (off+vs.length)
def fillL:List Value→List (Nat×Nat×Value)→Option (List Value)
 | cs,[]=>some cs
 | cs,(off,size,v)::r=>bif Nat.beq v.cells.size size&&Nat.ble (off+size) cs.length then fillL (putAt cs off v.cells.toList) r else none
def zrow (z:List Value):Nat→List Value
 | 0=>[]
 | n+1=>z++zrow z n
theorem run_loadCellsFrom_cells:∀(n i:Nat) (acc:Array Value) (cs:List Value),cellsAt w a i n=some cs →
  (loadCellsFrom a i n acc).run P w=.ok (acc++cs.toArray) w
 | 0,i,acc,cs,h=>by simp[cellsAt]at h; subst h; simp[loadCellsFrom]
 | n+1,i,acc,cs,h=>by
  simp only[cellsAt]at h;split at h
  ·cases h
  ·rename_i v hv;split at h
   ·cases h
   ·rename_i us hu;cases h;simp[loadCellsFrom,hv,run_loadCellsFrom_cells n (i+1) (acc.push v) us hu]
theorem fc:∀(vs:List Value) (i:Nat) (w w':World),stores a vs i w=some w'→(storeCells a vs i).run P w=.ok () w'
 | [],i,w,w',h=>by simp[stores]at h; subst h; simp[storeCells]
 | v::vs,i,w,w',h=>by
  simp only[stores,cond_eq_ite,Bool.and_eq_true,Bool.not_eq_true']at h;split at h
  ·rename_i hc;obtain⟨⟨h1,h2⟩,h3⟩:=hc;obtain⟨u,hu⟩:=Option.isSome_iff_exists.1 h2;simp only[storeCells,Sem.run_bind,run_store P w (a.add i) v .plain h1,hu,h3,Bool.false_eq_true,if_false,Result.andThen_ok];exact fc vs (i+1) _ w' h
  ·cases h
def isAggD:TypeDesc→Bool
 | .struct _=>true
 | .array _ _=>true
 | _=>false
def wV (P:Program) (t:TypeId):Option (Option Nat) :=
 match P.underlying t with
 | none=>none
 | some d=>match P.info? t with
  | none=>none
  | some i=>bif isAggD d then some (some i.size) else some none
def eP (P:Program) (t:TypeId):Option Value:=match P.info? t with
 | none=>none
 | some i=>i.zero
def iz (P:Program) (t:TypeId):Option Nat:=match P.info? t with
 | none=>none
 | some i=>some i.size
def gB (P:Program) (s:TypeId) (f:Nat):Option (Nat×TypeId) :=
 match P.underlying s with
 | some (.struct fields)=>match fields.toList[f]? with
  | none=>none
  | some fd=>some (fd.offset,fd.type)
 | _=>none
def placesO (P:Program):List Field→Option (List (Nat×Nat))
 | []=>some []
 | f::fs=>match iz P f.type with
  | none=>none
  | some n=>match placesO P fs with
   | none=>none
   | some l=>some ((f.offset,n)::l)
def partsAt (pl:Nat→Option (Nat×Nat)):List (Nat×Value)→Option (List (Nat×Nat×Value))
 | []=>some []
 | (i,v)::r=>match pl i with
  | none=>none
  | some (off,size)=>match partsAt pl r with
   | none=>none
   | some l=>some ((off,size,v)::l)
section
variable {P:Program} {w:World} {t:TypeId}
theorem run_typeInfo' {i:TypeInfo} (h:P.info? t=some i):(typeInfo t).run P w=.ok i w:=by simp[typeInfo,h]
theorem run_sizeOf' {i:TypeInfo} (h:P.info? t=some i):(sizeOf t).run P w=.ok i.size w:=by simp[sizeOf,run_typeInfo' h]
theorem run_zero' (h:eP P t=some z):(zeroValue t).run P w=.ok z w:=by
 unfold eP at h;split at h
 ·cases h
 ·rename_i i hi;simp[zeroValue,run_typeInfo' hi,h]
theorem run_size' (h:iz P t=some n):(sizeOf t).run P w=.ok n w:=by
 unfold iz at h;split at h
 ·cases h
 ·rename_i i hi;cases h;exact run_sizeOf' hi
theorem run_isAgg' {d:TypeDesc} (h:P.underlying t=some d):(isAgg t).run P w=.ok (isAggD d) w:=by
 simp only[isAgg,Sem.run_bind,run_underlying h,Result.andThen_ok];cases d<;>simp[isAggD]
end
end Go.Ev
end
namespace Go.Ev
open Go
section
def Mo:Operand→Bool
 | .const _=>true
 | _=>false
def wZ (c:Value) (a b:Option Value) (K:Value→Prop):Prop:=match a,b with
 | some a,some b=>mBool c fun t=>K (bif t then a else b)
 | some a,none=>mBool c fun t=>bif t then K a else False
 | none,some b=>mBool c fun t=>bif t then False else K b
 | none,none=>False
def intBin (k:IntKind) (x y:Int):BinOp→Option Value
 | .add=>some (.int k (k.wrap (x+y)))
 | .sub=>some (.int k (k.wrap (x-y)))
 | .mul=>some (.int k (k.wrap (x*y)))
 | .and=>some (.int k (k.wrap (BitVec.ofInt k.bits x&&&BitVec.ofInt k.bits y).toNat))
 | .or=>some (.int k (k.wrap (BitVec.ofInt k.bits x |||BitVec.ofInt k.bits y).toNat))
 | .xor=>some (.int k (k.wrap (BitVec.ofInt k.bits x ^^^BitVec.ofInt k.bits y).toNat))
 | .andNot=>some (.int k (k.wrap (BitVec.ofInt k.bits x&&&~~~(BitVec.ofInt k.bits y)).toNat))
 | .eql=>some (.bool (x ==y))
 | .neq=>some (.bool (x !=y))
 | .lss=>some (.bool (decide (x<y)))
 | .leq=>some (.bool (decide (x≤y)))
 | .gtr=>some (.bool (decide (x>y)))
 | .geq=>some (.bool (decide (x≥y)))
 | _=>none
def intW (k:IntKind) (op:BinOp) (a b:Value) (K:Value→Prop):Prop:=match op with
 | .shl=>mIntK k a fun x=>mInt b fun y=>mG (0≤y) (K (.int k (k.wrap (x*2^(min y.toNat k.bits)))))
 | .shr=>mIntK k a fun x=>mInt b fun y=>mG (0≤y) (K (.int k (x.fdiv (2^(min y.toNat k.bits)))))
 | .quo=>mIntK k a fun x=>mIntK k b fun y=>mG (y≠0) (K (.int k (k.wrap (x.tdiv y))))
 | .rem=>mIntK k a fun x=>mIntK k b fun y=>mG (y≠0) (K (.int k (x.tmod y)))
 | op=>mIntK k a fun x=>mIntK k b fun y=>mO (intBin k x y op) K
def strBin (x y:ByteArray):BinOp→Option Value
 | .eql=>some (.bool (x.toList ==y.toList))
 | .neq=>some (.bool (!(x.toList ==y.toList)))
 | .lss=>some (.bool (Op.bytesLess x.toList y.toList))
 | .leq=>some (.bool (Op.bytesLess x.toList y.toList||x.toList ==y.toList))
 | .gtr=>some (.bool (!(Op.bytesLess x.toList y.toList||x.toList ==y.toList)))
 | .geq=>some (.bool (!(Op.bytesLess x.toList y.toList)))
 | _=>none
def strW (op:BinOp) (a b:Value) (K:Value→Prop):Prop:=match op with
 | .add=>mStr a fun x=>mStr b fun y=>mG (x.size+y.size≤9223372036854775807) (K (.string (x++y)))
 | op=>mStr a fun x=>mStr b fun y=>mO (strBin x y op) K
def boolBin (x y:Bool):BinOp→Option Value
 | .eql=>some (.bool (x ==y))
 | .neq=>some (.bool (!(x ==y)))
 | _=>none
def flagOp:Bool→Operand
 | true=>.const undef
 | false=>.tmp 0
def eqW (P:Program) (op:BinOp) (t:TypeId) (cx cy:Bool) (a b:Value) (K:Value→World→Prop) (w:World):Prop :=
 semV P (do eqGuard op t (flagOp cx) (flagOp cy) a b; binOp op t a b) K w
def Iv (P:Program) (op:BinOp) (t:TypeId) (cx cy:Bool) (a b:Value) (K:Value→World→Prop) (w:World):Prop :=
 match P.underlying t with
 | some (.int k)=>intW k op a b fun v=>K v w
 | some .string=>strW op a b fun v=>K v w
 | some .bool=>mBool a fun x=>mBool b fun y=>mO (boolBin x y op) fun v=>K v w
 | _=>eqW P op t cx cy a b K w
def unW (op:UnOp) (d:Option TypeDesc) (a:Value) (K:Value→Prop):Prop:=match op,d with
 | .neg,some (.int k)=>mIntK k a fun n=>K (.int k (k.wrap (0-n)))
 | .xor,some (.int k)=>mIntK k a fun n=>K (.int k (k.wrap (BitVec.ofInt k.bits (if k.signed then -1 else k.max) ^^^BitVec.ofInt k.bits n).toNat))
 | .not,_=>mBool a fun b=>K (.bool (!b))
 | _,_=>False
def xd (P:Program) (s d:TypeId) (x:Value) (K:Value→World→Prop) (w:World):Prop :=
 match P.underlying s,P.underlying d with
 | some (.int _),some (.int k)=>mInt x fun n=>K (.int k (k.wrap n)) w
 | some .string,some .string=>mStr x fun s=>K (.string s) w
 | _,_=>semV P (convert s d x) K w
def oopt (e:dt):Option Operand→Option (Option Value)
 | none=>some none
 | some x=>match oev e x with
  | none=>none
  | some v=>some (some v)
def Mp (lo:Option Value) (K:Int→Prop):Prop:=match lo with
 | none=>K 0
 | some v=>mInt v K
def Mq (hi:Option Value) (n:Nat) (K:Int→Prop):Prop:=match hi with
 | none=>K n
 | some v=>mInt v K
def sliceW (d:Option TypeDesc) (es:Option Nat) (x:Value) (lo hi:Option Value) (K:Value→Prop):Prop:=match d with
 | some .string=>mStr x fun s=>Mp lo fun l=>Mq hi s.size fun h=>mG (0≤l∧l≤h∧h≤s.size) (K (.string (s.extract l.toNat h.toNat)))
 | some (.slice _)=>mO es fun size=>mSlice x fun a n c=>Mp lo fun l=>Mq hi n fun h=>mG (0≤l∧l≤h∧h≤c) (K (.slice (if c=l.toNat then a else a.map (·.add (l.toNat*size))) (h.toNat-l.toNat) (c-l.toNat)))
 | some (.array n _)=>mO es fun size=>mPtr x fun a=>Mp lo fun l=>Mq hi n fun h=>mG (0≤l∧l≤h∧h≤n) (K (.slice (some (if n=l.toNat then a else a.add (l.toNat*size))) (h.toNat-l.toNat) (n-l.toNat)))
 | _=>False
def iA (P:Program):Option TypeDesc→Option Nat
 | some (.slice e)=>iz P e
 | some (.array _ e)=>iz P e
 | _=>none
def gS (d:Option TypeDesc) (es:Option Nat) (x i:Value) (K:Value→Prop):Prop:=match d with
 | some (.slice _)=>mO es fun size=>mSlice x fun a n _=>mInt i fun i=>mO a fun a=>mG (0≤i∧i<n) (K (.pointer (some (a.add (i.toNat*size)))))
 | some (.array n _)=>mO es fun size=>mPtr x fun a=>mInt i fun i=>mG (0≤i∧i<n) (K (.pointer (some (a.add (i.toNat*size)))))
 | _=>False
def tG (s:Option (Option Nat)) (cs:Array Value) (off:Nat) (K:Value→Prop):Prop:=match s with
 | some none=>mO cs[off]? K
 | some (some n)=>K (.agg (cs.extract off (off+n)))
 | none=>False
def oI (P:Program) (d:Option TypeDesc) (x i:Value) (K:Value→Prop):Prop:=match d with
 | some (.array n e)=>mO (iz P e) fun size=>uX x fun cs=>mInt i fun i=>mG (0≤i∧i<n) (tG (wV P e) cs (i.toNat*size) K)
 | some .string=>mStr x fun s=>mInt i fun i=>mG (0≤i) (mO s[i.toNat]? fun b=>K (.int .u8 b.toNat))
 | _=>False
def taW (t:TypeId) (z:Value) (ok:Bool) (x:Value) (K:Value→Prop):Prop:=match x with
 | .nilIface=>bif ok then K (.tuple #[z,.bool false]) else False
 | .iface t' v=>bif Nat.beq t' t then(bif ok then K (.tuple #[v,.bool true]) else K v) else(bif ok then K (.tuple #[z,.bool false]) else False)
 | _=>False
def makeSliceW (z:Value) (bytes:Nat) (t:TypeId) (l c:Value) (K:Value→World→Prop) (w:World):Prop :=
 mIntK .i64 l fun l=>mIntK .i64 c fun c=>mG (0≤l∧l≤c∧c≤9223372036854775807∧bytes*c≤281474976710656) (K (.slice (some ⟨w.heap.size,0,none⟩) l.toNat c.toNat) (w.alloc (.cells (zrow z.cells.toList c.toNat).toArray t)))
def gC (P:Program) (f:FuncId):Bool:=match P.funcs[f]? with
 | some fn=>fn.body.isSome&&!(fn.name == "runtime.NumGoroutine")
 | none=>false
def af (P:Program) (f:FuncId) (args:Array Value) (w:World) (Q:Value→World→Prop):Prop :=
 gC P f=true∧Calls P f args w fun e w'=>∃v,e=.returned v∧Q v w'
theorem af.mono {Q Q':Value→World→Prop} (h:af P f args w Q) (hq:∀v w',Q v w'→Q' v w'):af P f args w Q' :=
 ⟨h.1,h.2.mono fun _ _ ⟨v,he,hv⟩=>⟨v,he,hq _ _ hv⟩⟩
def xe (P:Program) (f:Value) (args:List Value) (K:Value→World→Prop) (w:World):Prop:=match f with
 | .func (.func f) first captured=>af P f (first++args.toArray++captured) w K
 | _=>False
def xf (P:Program) (f:FuncId) (args:List Value) (K:Value→World→Prop) (w:World):Prop :=
 match (callFunc f args.toArray).run P w with
 | .ok (.value v) w'=>K v w'
 | _=>False
def xg (P:Program) (f:FuncId) (args:List Value) (K:Value→World→Prop) (w:World):Prop:=match P.funcs[f]? with
 | some fn=>bif fn.body.isSome then af P f args.toArray w K else xf P f args K w
 | none=>False
def xh (P:Program) (r:Value) (name:String) (args:List Value) (K:Value→World→Prop) (w:World):Prop:=match r with
 | .iface t v=>match (method (P.types.size+Made.depth) t v name).run P w with
  | .ok (f,u) w'=>xg P f (u::args) K w'
  | .halt _ _=>False
 | _=>False
def minmaxW (k:IntKind) (isMax:Bool) (a b:Value) (K:Value→Prop):Prop :=
 mIntK k a fun x=>mIntK k b fun y=>K (.int k (bif isMax then(if y>x then y else x) else(if y<x then y else x)))
def Mx (P:Program) (t:TypeId) (x:Value) (K:Value→World→Prop) (w:World):Prop:=match P.underlying t with
 | some .string=>mStr x fun s=>K (.int .i64 s.size) w
 | some (.slice _)=>mSlice x fun _ n _=>K (.int .i64 n) w
 | _=>semV P (Builtin.len_ #[t] 0 #[x]) K w
def My (P:Program) (t:TypeId) (x:Value) (K:Value→Prop):Prop:=match P.underlying t with
 | some (.slice _)=>mSlice x fun _ _ c=>K (.int .i64 c)
 | _=>False
def ly (P:Program) (b:Builtin) (at_:List TypeId) (ty:TypeId) (vs:List Value) (K:Value→World→Prop) (w:World):Prop:=match b,at_,vs with
 | .len,[t],[x]=>Mx P t x K w
 | .cap,[t],[x]=>My P t x fun v=>K v w
 | .append,ts,vs=>semV P (Builtin.append_ ts.toArray 0 vs.toArray) K w
 | .copy,ts,vs=>semV P (Builtin.copy_ ts.toArray 0 vs.toArray) K w
 | .delete,ts,vs=>semV P (Builtin.delete_ ts.toArray 0 vs.toArray) K w
 | .clear,ts,vs=>semV P (Builtin.clear_ ts.toArray 0 vs.toArray) K w
 | .min,[_,_],[a,b]=>match P.underlying ty with
  | some (.int k)=>minmaxW k false a b fun v=>K v w
  | _=>False
 | .max,[_,_],[a,b]=>match P.underlying ty with
  | some (.int k)=>minmaxW k true a b fun v=>K v w
  | _=>False
 | .unsafeSliceData,ts,vs=>semV P (Builtin.unsafeSliceData_ ts.toArray ty vs.toArray) K w
 | .unsafeString,ts,vs=>semV P (Builtin.unsafeString_ ts.toArray ty vs.toArray) K w
 | _,_,_=>False
def calleeF:Operand→Option FuncId
 | .func f=>some f
 | _=>none
def xi (P:Program) (e:dt) (ty:TypeId) (K:Value→World→Prop) (w:World) (c:Call):Prop:=mO (oevs e c.args.toList) fun vs =>
 match c.callee with
 | .builtin b=>ly P b c.argTypes.toList ty vs K w
 | .invoke r name=>mO (oev e r) fun r=>xh P r name vs K w
 | .value f=>match calleeF f with
  | some f=>match P.funcs[f]? with
   | some fn=>bif fn.body.isSome then af P f vs.toArray w K else xf P f vs K w
   | none=>False
  | none=>mO (oev e f) fun f=>xe P f vs K w
def oJ (P:Program) (t:TypeId):Option (Nat→Option (Nat×Nat)):=match P.underlying t with
 | some (.struct fields)=>match placesO P fields.toList with
  | some l=>some fun i=>l[i]?
  | none=>none
 | some (.array _ el)=>match iz P el with
  | some n=>some fun i=>some (i*n,n)
  | none=>none
 | _=>none
def opW (P:Program) (e:dt) (ty:TypeId) (K:Value→World→Prop) (w:World):Op→Prop
 | .move x | .assign x=>mO (oev e x) fun v=>K v w
 | .pick c a b=>mO (oev e c) fun c=>wZ c (oev e a) (oev e b) fun v=>K v w
 | .alloc t=>mO (eP P t) fun z=>K (.pointer (some ⟨w.heap.size,0,none⟩)) (w.alloc (.cells z.cells t))
 | .box t x=>mO (oev e x) fun v=>K (.pointer (some ⟨w.heap.size,0,none⟩)) (w.alloc (.cells v.cells t))
 | .build t parts=>mO (oevps e parts.toList) fun ps=>mO (eP P t) fun z=>mO (oJ P t) fun pl=>mO (partsAt pl ps) fun qs =>
   mO (fillL z.cells.toList qs) fun cs=>K (.agg cs.toArray) w
 | .buildSlice t len parts=>mO (oevps e parts.toList) fun ps=>match P.underlying t with
  | some (.slice el)=>mO (iz P el) fun n=>mO (eP P el) fun z=>bif Nat.ble (len*n) 16777216 then mO (partsAt (fun i=>some (i*n,n)) ps) fun qs =>
    mO (fillL (zrow z.cells.toList len) qs) fun cs=>bif Nat.beq z.cells.size n then K (.slice (some ⟨w.heap.size,0,none⟩) len len) (w.alloc (.cells cs.toArray el)) else False else False
  | _=>False
 | .insert t m k v | .mapUpdate t m k v=>mO (oev e m) fun m=>mO (oev e k) fun k=>mO (oev e v) fun v=>semU P (Instr.mapUpdate t m k v) K w
 | .load t x=>mO (oev e x) fun x=>mO (wV P t) fun s=>mPtr x fun a=>match s with
  | none=>mO (w.cell? a) fun v=>K v w
  | some n=>mO (cellsAt w a 0 n) fun cs=>K (.agg cs.toArray) w
 | .store t x v=>mO (oev e x) fun x=>mO (oev e v) fun v=>mO (iz P t) fun n=>mPtr x fun a=>mG (v.cells.size=n) (mO (stores a v.cells.toList 0 w) fun w'=>K undef w')
 | .nilCheck x=>mO (oev e x) fun v=>CM v (K v w)
 | .binOp op t x y _=>mO (oev e x) fun a=>mO (oev e y) fun b=>Iv P op t (Mo x) (Mo y) a b K w
 | .unOp op t x=>mO (oev e x) fun a=>unW op (P.underlying t) a fun v=>K v w
 | .convert s d x=>mO (oev e x) fun x=>xd P s d x K w
 | .makeInterface t x=>mO (oev e x) fun x=>match P.underlying t with
  | some d=>match d with
   | .interface _=>False
   | _=>K (.iface t x) w
  | none=>False
 | .makeFunc fn first captured=>mO (oevs e first.toList) fun vs=>mO (oevs e captured.toList) fun cs=>K (.func fn vs.toArray cs.toArray) w
 | .makeMap t r=>match r with
  | none=>K (.map (some w.heap.size)) (w.alloc (.map #[] 0))
  | some r=>mO (oev e r) fun r=>mInt r fun _=>match P.underlying t with
   | some (.map _ _)=>K (.map (some w.heap.size)) (w.alloc (.map #[] 0))
   | _=>False
 | .makeSlice t l c=>mO (oev e l) fun l=>mO (oev e c) fun c=>match P.underlying t with
  | some (.slice el)=>match P.info? el with
   | some i=>mO i.zero fun z=>bif Nat.beq z.cells.size i.size then makeSliceW z i.bytes el l c K w else False
   | none=>False
  | _=>False
 | .slice t x lo hi mx=>match mx with
  | none=>mO (oev e x) fun x=>mO (oopt e lo) fun lo=>mO (oopt e hi) fun hi=>sliceW (P.underlying t) (iA P (P.underlying t)) x lo hi fun v=>K v w
  | some _=>False
 | .fieldAddr s x f=>mO (oev e x) fun x=>mO (gB P s f) fun(off,ft)=>mO (iz P ft) fun n=>bif Nat.beq n 0 then False else mPtr x fun a=>K (.pointer (some (a.add off))) w
 | .field s x f=>mO (oev e x) fun x=>mO (gB P s f) fun(off,ft)=>uX x fun cs=>tG (wV P ft) cs off fun v=>K v w
 | .indexAddr t x i=>mO (oev e x) fun x=>mO (oev e i) fun i=>gS (P.underlying t) (iA P (P.underlying t)) x i fun v=>K v w
 | .index t x i=>mO (oev e x) fun x=>mO (oev e i) fun i=>oI P (P.underlying t) x i fun v=>K v w
 | .lookup t m k ok=>mO (oev e m) fun m=>mO (oev e k) fun k=>semV P (Instr.lookup t m k ok) K w
 | .mapEntry t m k=>mO (oev e m) fun m=>mO (oev e k) fun k=>semV P (Instr.mapEntry t m k) K w
 | .entryStore t m s x=>mO (oev e m) fun m=>mO (oev e s) fun s=>mO (oev e x) fun x=>semU P (Instr.entryStore t m s x) K w
 | .range t x=>mO (oev e x) fun x=>semV P (Instr.range t x) K w
 | .next it s=>mO (oev e it) fun it=>semV P (Instr.next it s ty) K w
 | .entry it=>mO (oev e it) fun it=>semV P (Instr.entry it) K w
 | .typeAssert x xt t ok=>mO (oev e x) fun x=>match P.underlying t with
  | some (.interface _)=>semV P (Instr.typeAssert x xt t ok) K w
  | some _=>mO (eP P t) fun z=>taW t z ok x fun v=>K v w
  | none=>False
 | .extract x i=>mO (oev e x) fun x=>CL x fun vs=>mO vs[i]? fun v=>K v w
 | .call c=>xi P e ty K w c
 | _=>False
def valOp:Op→Bool
 | .insert .. | .mapUpdate .. | .store .. | .entryStore ..=>false
 | .call c=>match c.callee with
  | .builtin _=>true
  | _=>false
 | _=>true
theorem oK (op:BinOp) (t:TypeId) (x y:Operand) (a b:Value):eqGuard op t (flagOp (Mo x)) (flagOp (Mo y)) a b=eqGuard op t x y a b:=by
 cases x<;>cases y<;>rfl
end
section
theorem dn {s:Sem Value} (h:s.run P w=.ok v w'):(do pure (Next.value (←s)):Sem Next).run P w=.ok (.value v) w':=by simp[h]
theorem iB:∀{ps:List (Nat×Value)} {qs:List (Nat×Nat×Value)} {cs:Array Value} {ds:List Value},partsAt pl ps=some qs→fillL cs.toList qs=some ds→Instr.fill pl cs ps=some ds.toArray
 | [],qs,cs,ds,h,hf=>by
  simp[partsAt]at h; subst h; simp[fillL]at hf; subst hf; simp[Instr.fill]
 | (i,v)::ps,qs,cs,ds,h,hf=>by
  simp only[partsAt]at h;split at h
  ·cases h
  ·rename_i off size hpl;split at h
   ·cases h
   ·rename_i l hl;cases h;simp only[fillL,cond_eq_ite,Bool.and_eq_true]at hf;split at hf
    ·rename_i hc;obtain⟨h1,h2⟩:=hc;have h1:v.cells.size=size:=by simpa using h1
     have h2:off+size≤cs.toList.length:=Nat.le_of_ble_eq_true h2;simp only[Instr.fill,hpl];rw[if_neg (by simp[h1]; simpa using h2)];refine iB hl ?_;have key:∀(us:List Value) (k:Nat) (cs:Array Value),off+k+us.length≤cs.size →
       ((us.zipIdx k).foldl (fun cs (x:Value×Nat)=>cs.setIfInBounds (off+x.2) x.1) cs).toList=putAt cs.toList (off+k) us:=by
      intro us;induction us with
      | nil=>intro k cs _; simp[putAt]
      | cons u us ih =>
       intro k cs hle;simp only[List.zipIdx_cons,List.foldl_cons];rw[ih (k+1) _ (by simp at hle ⊢; omega)];simp only[putAt,Array.toList_setIfInBounds,List.length_cons];have hlen:off+k<cs.toList.length:=by simp at hle ⊢; omega
       have e1:(cs.toList.set (off+k) u).take (off+(k+1))=cs.toList.take (off+k)++[u]:=by
        rw[show off+(k+1)=(off+k)+1 by omega,List.take_succ_eq_append_getElem (by simpa using hlen)];simp[List.take_set_of_le]
       have e2:(cs.toList.set (off+k) u).drop (off+(k+1)+us.length)=cs.toList.drop (off+k+(us.length+1)):=by
        rw[List.drop_set_of_lt (by omega)]; congr 1; omega
       rw[e1,e2]; simp
     have hk:=key v.cells.toList 0 cs (by simpa [h1] using h2);have e3:(v.cells.zipIdx.foldl (fun cs (x:Value×Nat)=>cs.setIfInBounds (off+x.2) x.1) cs)=(v.cells.toList.zipIdx.foldl (fun cs (x:Value×Nat)=>cs.setIfInBounds (off+x.2) x.1) cs):=by
      rw[←Array.foldl_toList]; simp
     have hk':(v.cells.zipIdx.foldl (fun cs (c,j)=>cs.setIfInBounds (off+j) c) cs).toList=putAt cs.toList off v.cells.toList:=by
      have:=e3▸hk;simpa using this
     rw[hk']; exact hf
    ·cases hf
theorem zrow_length (z:List Value):∀n,(zrow z n).length=n*z.length
 | 0=>by simp[zrow]
 | n+1=>by simp[zrow,zrow_length z n,Nat.add_mul]; omega
theorem pZ (z:List Value):∀(n i:Nat),i<n*z.length→(zrow z n)[i]?=z[i%z.length]?
 | 0,i,h=>by simp at h
 | n+1,i,h=>by
  have hp:0<z.length:=by
   rcases Nat.eq_zero_or_pos z.length with h0 | h0
   ·simp[h0]at h
   ·exact h0
  by_cases hi:i<z.length
  ·simp[zrow,List.getElem?_append_left hi,Nat.mod_eq_of_lt hi]
  ·rw[zrow,List.getElem?_append_right (by omega),pZ z n (i-z.length) (by rw[Nat.add_mul]at h; omega),←Nat.mod_eq_sub_mod (by omega)]
theorem lz (z:Array Value) (n:Nat):(Array.range (n*z.size)).map (fun i=>z[i%z.size]!)=(zrow z.toList n).toArray:=by
 apply Array.ext';apply List.ext_getElem?;intro i;by_cases hi:i<n*z.size
 ·have hp:0<z.size:=by
   rcases Nat.eq_zero_or_pos z.size with h0 | h0
   ·simp[h0]at hi
   ·exact h0
  have:=pZ z.toList n i (by simpa using hi);simp only[Array.length_toList]at this;rw[this];have hm:i%z.size<z.size:=Nat.mod_lt _ hp;simp[hi,hm]
 ·have h1:(zrow z.toList n).length≤i:=by rw[zrow_length]; simp; omega
  rw[List.getElem?_eq_none (by simpa using hi),List.getElem?_eq_none (by simpa using h1)]
section
variable {P:Program} {w:World}
theorem run_loadAt1 {t:TypeId} (hs:wV P t=some none) (h:w.cell? a=some v):(Instr.loadAt t (.pointer (some a))).run P w=.ok v w:=by
 unfold wV at hs;split at hs
 ·cases hs
 ·rename_i d hd;split at hs
  ·cases hs
  ·rename_i i hi;have hb:isAggD d=false:=by cases hb:isAggD d<;>simp[hb]at hs ⊢
   simp[Instr.loadAt,Instr.sureAddr,loadVar,run_isAgg' hd,hb,h]
theorem run_loadAtN {t:TypeId} (hs:wV P t=some (some n)) (h:cellsAt w a 0 n=some cs):(Instr.loadAt t (.pointer (some a))).run P w=.ok (.agg cs.toArray) w:=by
 unfold wV at hs;split at hs
 ·cases hs
 ·rename_i d hd;split at hs
  ·cases hs
  ·rename_i i hi;have hb:isAggD d=true:=by cases hb:isAggD d<;>simp[hb]at hs ⊢
   simp[hb]at hs;subst hs;have hl:=run_loadCellsFrom_cells (P:=P) i.size 0 #[] cs h;simp[Instr.loadAt,Instr.sureAddr,loadVar,run_isAgg' hd,hb,run_sizeOf' hi,loadCells,hl]
theorem p6 {t:TypeId} {cs:Array Value} {off:Nat} {K:Value→Prop} (h:tG (wV P t) cs off K):∃v,(∀w,(part t cs off).run P w=.ok v w)∧K v:=by
 cases hs:wV P t with
 | none=>rw[hs]at h; exact h.elim
 | some s =>
  rw[hs]at h;have hs':=hs;unfold wV at hs;split at hs
  ·cases hs
  ·rename_i d hd;split at hs
   ·cases hs
   ·rename_i i hi;cases s with
    | none =>
     obtain⟨v,hv,hk⟩:=aO h;have hb:isAggD d=false:=by cases hb:isAggD d<;>simp[hb]at hs ⊢
     exact⟨v,fun w=>by simp[part,run_isAgg' hd,hb,hv],hk⟩
    | some n =>
     have hb:isAggD d=true:=by cases hb:isAggD d<;>simp[hb]at hs ⊢
     simp[hb]at hs;subst hs;exact⟨_,fun w=>by simp[part,run_isAgg' hd,hb,run_sizeOf' hi],h⟩
theorem jb {ft:TypeId} (h:gB P s f=some (off,ft)):∃fields fd,P.underlying s=some (.struct fields)∧fields[f]?=some fd∧fd.offset=off∧fd.type=ft:=by
 unfold gB at h;split at h
 ·rename_i fields hu;split at h
  ·cases h
  ·rename_i fd hfd;cases h;exact⟨fields,fd,hu,by simpa using hfd,rfl,rfl⟩
 ·cases h
theorem p7 {ft:TypeId} (h:gB P s f=some (off,ft)) (hn:iz P ft=some n) (h0:n≠0):(Instr.fieldAt s (.pointer (some a)) f).run P w=.ok (.pointer (some (a.add off))) w:=by
 obtain⟨fields,fd,hu,hf,rfl,rfl⟩:=jb h;simp[Instr.fieldAt,run_underlying hu,hf,Instr.sureAddr,fieldPlace,run_size' hn,h0]
theorem uZ {ft:TypeId} {K:Value→Prop} (h:gB P s f=some (off,ft)) (hp:tG (wV P ft) cs off K):∃v,(∀w,(Instr.field s (.agg cs) f).run P w=.ok v w)∧K v:=by
 obtain⟨fields,fd,hu,hf,rfl,rfl⟩:=jb h;obtain⟨v,hv,hk⟩:=p6 hp;exact⟨v,fun w=>by simp[Instr.field,run_underlying hu,hf,asAgg,hv],hk⟩
theorem u4 {t:TypeId} (h:intBin k x y op=some v):(do eqGuard op t p q (.int k x) (.int k y); binOp op t (.int k x) (.int k y):Sem Value).run P w=.ok v w:=by
 cases op<;>simp[intBin]at h<;>subst h<;>simp[eqGuard,binOp,Op.intArith,Op.intBits,Op.intCmp]
theorem rO {op:BinOp} {k:IntKind} {t:TypeId} {a b:Value} {p q:Operand} {K:Value→Prop} (h:intW k op a b K):∃v,(∀w,(do eqGuard op t p q a b; binOp op t a b:Sem Value).run P w=.ok v w)∧K v:=by
 unfold intW at h;split at h
 ·replace h:=cG h; obtain⟨x,rfl,h⟩:=h;replace h:=dX h; obtain⟨k',y,rfl,h⟩:=h;refine⟨_,fun w=>?_,h.2⟩;simp[eqGuard,binOp,Op.shift,Int.not_lt.2 h.1]
 ·replace h:=cG h; obtain⟨x,rfl,h⟩:=h;replace h:=dX h; obtain⟨k',y,rfl,h⟩:=h;refine⟨_,fun w=>?_,h.2⟩;simp[eqGuard,binOp,Op.shift,Int.not_lt.2 h.1]
 ·replace h:=cG h; obtain⟨x,rfl,h⟩:=h;replace h:=cG h; obtain⟨y,rfl,h⟩:=h;refine⟨_,fun w=>?_,h.2⟩;simp[eqGuard,binOp,Op.intDiv,h.1]
 ·replace h:=cG h; obtain⟨x,rfl,h⟩:=h;replace h:=cG h; obtain⟨y,rfl,h⟩:=h;refine⟨_,fun w=>?_,h.2⟩;simp[eqGuard,binOp,Op.intDiv,h.1]
 ·replace h:=cG h; obtain⟨x,rfl,h⟩:=h;replace h:=cG h; obtain⟨y,rfl,h⟩:=h;replace h:=aO h; obtain⟨v,hv,h⟩:=h;exact⟨v,fun w=>u4 hv,h⟩
theorem rP {op:BinOp} {t:TypeId} {a b:Value} {p q:Operand} {K:Value→Prop} (h:strW op a b K):∃v,(∀w,(do eqGuard op t p q a b; binOp op t a b:Sem Value).run P w=.ok v w)∧K v:=by
 unfold strW at h;split at h
 ·replace h:=eI h; obtain⟨x,rfl,h⟩:=h;replace h:=eI h; obtain⟨y,rfl,h⟩:=h;refine⟨_,fun w=>?_,h.2⟩;have h1:x.size+y.size≤9223372036854775807:=h.1;have h2:¬(((x.size+y.size:Nat):Int)>IntKind.i64.max):=by
   have:IntKind.i64.max=9223372036854775807:=rfl;omega
  simp only[eqGuard,binOp,Op.stringOp,if_neg h2];simp
 ·replace h:=eI h; obtain⟨x,rfl,h⟩:=h;replace h:=eI h; obtain⟨y,rfl,h⟩:=h;replace h:=aO h; obtain⟨v,hv,h⟩:=h;refine⟨v,fun w=>?_,h⟩;cases op<;>simp[strBin]at hv<;>subst hv<;>simp[eqGuard,binOp,Op.stringOp]
theorem run_equal_bool {t:TypeId} (ht:P.underlying t=some .bool):(Op.equal t (.bool x) (.bool y)).run P w=.ok (x ==y) w:=by
 unfold Op.equal Op.maxDepth;rw[Op.equalIn];simp[run_underlying ht]
theorem kQ {t:TypeId} (ht:P.underlying t=some .bool) (h:boolBin x y op=some v):(do eqGuard op t p q (.bool x) (.bool y); binOp op t (.bool x) (.bool y):Sem Value).run P w=.ok v w:=by
 cases op<;>simp[boolBin]at h<;>subst h<;>simp[eqGuard,binOp,run_equal_bool ht]
def lA:Option TypeDesc→Bool
 | some (.int _) | some .string | some .bool=>true
 | _=>false
theorem xj {op:BinOp} {t:TypeId} {x y:Operand} {a b:Value} {K:Value→World→Prop} (h:Iv P op t (Mo x) (Mo y) a b K w) :
  ∃v w',(do eqGuard op t x y a b; binOp op t a b:Sem Value).run P w=.ok v w'∧K v w'∧(lA (P.underlying t)=true→∀w1,(do eqGuard op t x y a b; binOp op t a b:Sem Value).run P w1=.ok v w1)∧(lA (P.underlying t)=true→w'=w):=by
 unfold Iv at h;split at h
 ·obtain⟨v,hv,h⟩:=rO (P:=P) (t:=t) (p:=x) (q:=y) h;exact⟨v,w,hv w,h,fun _=>hv,fun _=>rfl⟩
 ·obtain⟨v,hv,h⟩:=rP (P:=P) (t:=t) (p:=x) (q:=y) h;exact⟨v,w,hv w,h,fun _=>hv,fun _=>rfl⟩
 ·rename_i hu;replace h:=d4 h; obtain⟨u,rfl,h⟩:=h;replace h:=d4 h; obtain⟨z,rfl,h⟩:=h;replace h:=aO h; obtain⟨v,hv,h⟩:=h;exact⟨v,w,kQ hu hv,h,fun _ w1=>kQ hu hv,fun _=>rfl⟩
 ·rename_i h1 h2 h3;obtain⟨v,w',hr,hk⟩:=eJ h;rw[oK]at hr;have hp:lA (P.underlying t)=false:=by
   unfold lA;split<;>first | rfl | (rename_i hh; first | exact absurd hh (h1 _) | exact absurd hh h2 | exact absurd hh h3)
  exact⟨v,w',hr,hk,by simp[hp],by simp[hp]⟩
theorem CN {K:Value→Prop} (h:unW op d a K):∃v,(∀w,(Op.unary op a).run P w=.ok v w)∧K v:=by
 unfold unW at h;split at h
 ·replace h:=cG h; obtain⟨x,rfl,h⟩:=h;exact⟨_,fun w=>by simp[Op.unary,Op.intArith],h⟩
 ·replace h:=cG h; obtain⟨x,rfl,h⟩:=h;exact⟨_,fun w=>by simp only[Op.unary,Op.intBits,Sem.run_pure],h⟩
 ·replace h:=d4 h; obtain⟨x,rfl,h⟩:=h;exact⟨_,fun w=>by simp[Op.unary],h⟩
 ·exact h.elim
def jB (P:Program) (s d:TypeId):Bool:=match P.underlying s,P.underlying d with
 | some (.int _),some (.int _)=>true
 | some .string,some .string=>true
 | _,_=>false
theorem u5 {s d:TypeId} {K:Value→World→Prop} (h:xd P s d x K w):∃v w',(convert s d x).run P w=.ok v w'∧K v w'∧(jB P s d=true→(∀w1,(convert s d x).run P w1=.ok v w1)∧w'=w):=by
 unfold xd at h;split at h
 ·rename_i k k' hs hd;replace h:=dX h; obtain⟨j,n,rfl,h⟩:=h;have hr:∀w1,(convert s d (.int j n)).run P w1=.ok (.int k' (k'.wrap n)) w1:=fun w1=>by simp[convert,run_underlying hs,run_underlying hd,Conv.intToInt]
  exact⟨_,w,hr w,h,fun _=>⟨hr,rfl⟩⟩
 ·rename_i hs hd;replace h:=eI h; obtain⟨b,rfl,h⟩:=h;have hr:∀w1,(convert s d (.string b)).run P w1=.ok (.string b) w1:=fun w1=>by simp[convert,run_underlying hs,run_underlying hd]
  exact⟨_,w,hr w,h,fun _=>⟨hr,rfl⟩⟩
 ·rename_i h1 h2;obtain⟨v,w',hr,hk⟩:=eJ h;have hp:jB P s d=false:=by
   unfold jB;split<;>first | rfl | (rename_i e1 e2; first | exact absurd e2 (h1 _ _ e1) | exact absurd e2 (h2 e1))
  exact⟨v,w',hr,hk,by simp[hp]⟩
theorem lB {K:Int→Prop} (h:Mp lo K):∃l,K l∧((lo=none∧l=0)∨∃k,lo=some (.int k l)):=by
 cases lo with
 | none=>exact⟨0,h,.inl ⟨rfl,rfl⟩⟩
 | some v=>replace h:=dX h; obtain⟨k,n,rfl,h⟩:=h; exact⟨n,h,.inr ⟨k,rfl⟩⟩
theorem lC {K:Int→Prop} (h:Mq lo n K):∃l,K l∧((lo=none∧l=n)∨∃k,lo=some (.int k l)):=by
 cases lo with
 | none=>exact⟨n,h,.inl ⟨rfl,rfl⟩⟩
 | some v=>replace h:=dX h; obtain⟨k,n,rfl,h⟩:=h; exact⟨n,h,.inr ⟨k,rfl⟩⟩
theorem run_sliceBounds {isSlice:Bool} {n c:Nat} {lo hi:Option Value} {l h:Int} (hl:(lo=none∧l=0)∨∃k,lo=some (.int k l)) (hh:(hi=none∧h=n)∨∃k,hi=some (.int k h))
  (h0:0≤l) (h1:l≤h) (h2:h≤c):(Instr.sliceBounds isSlice n c lo hi none).run P w=.ok (l.toNat,h.toNat,c) w:=by
 have e:((h.toNat:Nat):Int)=h:=Int.toNat_of_nonneg (by omega);rcases hl with⟨rfl,rfl⟩ | ⟨k,rfl⟩<;>rcases hh with⟨rfl,rfl⟩ | ⟨k',rfl⟩
 ·simp[Instr.sliceBounds]
 ·simp[Instr.sliceBounds,Instr.sliceBound,asIntOf,h1,h2]
 ·simp[Instr.sliceBounds,Instr.sliceBound,asIntOf,h0,h1]
 ·simp[Instr.sliceBounds,Instr.sliceBound,asIntOf,h0,h1,h2,e,show(0:Int)≤h by omega]
theorem elemSize_slice {e:TypeId} (h:iA P (some (.slice e))=some n):(sizeOf e).run P w=.ok n w:=run_size' h
theorem rQ {t:TypeId} {x:Value} {lo hi:Option Value} {K:Value→Prop} (h:sliceW (P.underlying t) (iA P (P.underlying t)) x lo hi K):∃v,(∀w,(Instr.sliceAt t x lo hi none).run P w=.ok v w)∧K v:=by
 unfold sliceW at h
 split at h
 ·rename_i hu
  replace h:=eI h; obtain⟨s,rfl,h⟩:=h
  replace h:=lB h; obtain⟨l,h,hl⟩:=h
  replace h:=lC h; obtain⟨g,h,hh⟩:=h
  obtain⟨⟨h0,h1,h2⟩,hk⟩:=h
  refine⟨_,fun w=>?_,hk⟩
  simp[Instr.sliceAt,Instr.slice,run_underlying hu,run_sliceBounds hl hh h0 h1 h2]
 ·rename_i e hu
  replace h:=aO h; obtain⟨size,hs,h⟩:=h
  rw[hu]at hs
  replace h:=gg h; obtain⟨a,n,c,rfl,h⟩:=h
  replace h:=lB h; obtain⟨l,h,hl⟩:=h
  replace h:=lC h; obtain⟨g,h,hh⟩:=h
  obtain⟨⟨h0,h1,h2⟩,hk⟩:=h
  refine⟨_,fun w=>?_,hk⟩
  simp[Instr.sliceAt,Instr.slice,run_underlying hu,run_sliceBounds hl hh h0 h1 h2,elemSize_slice hs]
 ·rename_i n e hu
  replace h:=aO h; obtain⟨size,hs,h⟩:=h
  rw[hu]at hs
  replace h:=fO h; obtain⟨a,rfl,h⟩:=h
  replace h:=lB h; obtain⟨l,h,hl⟩:=h
  replace h:=lC h; obtain⟨g,h,hh⟩:=h
  obtain⟨⟨h0,h1,h2⟩,hk⟩:=h
  refine⟨_,fun w=>?_,hk⟩
  have hz:(sizeOf e).run P w=.ok size w:=run_size' hs
  simp[Instr.sliceAt,run_underlying hu,Instr.sureAddr,run_sliceBounds hl hh h0 h1 h2,hz]
 ·exact h.elim
theorem lD {t:TypeId} {x i:Value} {K:Value→Prop} (h:gS (P.underlying t) (iA P (P.underlying t)) x i K):∃v,(∀w,(Instr.indexAt t x i).run P w=.ok v w)∧K v:=by
 unfold gS at h;split at h
 ·rename_i e hu;replace h:=aO h; obtain⟨size,hs,h⟩:=h;rw[hu]at hs;replace h:=gg h; obtain⟨a,n,c,rfl,h⟩:=h;replace h:=dX h; obtain⟨k,j,rfl,h⟩:=h;replace h:=aO h; obtain⟨a,rfl,h⟩:=h;obtain⟨⟨h0,h1⟩,hk⟩:=h;refine⟨_,fun w=>?_,hk⟩;have hz:(sizeOf e).run P w=.ok size w:=run_size' hs;simp[Instr.indexAt,asIntOf,run_underlying hu,h0,h1,hz]
 ·rename_i n e hu;replace h:=aO h; obtain⟨size,hs,h⟩:=h;rw[hu]at hs;replace h:=fO h; obtain⟨a,rfl,h⟩:=h;replace h:=dX h; obtain⟨k,j,rfl,h⟩:=h;obtain⟨⟨h0,h1⟩,hk⟩:=h;refine⟨_,fun w=>?_,hk⟩;have hz:(sizeOf e).run P w=.ok size w:=run_size' hs;simp[Instr.indexAt,asIntOf,run_underlying hu,Instr.sureAddr,h0,h1,hz]
 ·exact h.elim
theorem rR {t:TypeId} {x i:Value} {K:Value→Prop} (h:oI P (P.underlying t) x i K):∃v,(∀w,(Instr.index t x i).run P w=.ok v w)∧K v:=by
 unfold oI at h;split at h
 ·rename_i n e hu;replace h:=aO h; obtain⟨size,hs,h⟩:=h;replace h:=nJ h; obtain⟨cs,rfl,h⟩:=h;replace h:=dX h; obtain⟨k,j,rfl,h⟩:=h;obtain⟨⟨h0,h1⟩,hk⟩:=h;obtain⟨v,hv,hk⟩:=p6 hk;refine⟨v,fun w=>?_,hk⟩;have hz:(sizeOf e).run P w=.ok size w:=run_size' hs;simp[Instr.index,asIntOf,run_underlying hu,h0,h1,hz,hv]
 ·rename_i hu;replace h:=eI h; obtain⟨s,rfl,h⟩:=h;replace h:=dX h; obtain⟨k,j,rfl,h⟩:=h;obtain⟨h0,h⟩:=h;obtain⟨b,hb,hk⟩:=aO h;refine⟨_,fun w=>?_,hk⟩;simp[Instr.index,asIntOf,run_underlying hu,h0,hb]
 ·exact h.elim
end
end
section
def gk (P:Program):Builtin→List TypeId→Bool
 | .len,[t]=>match P.underlying t with
  | some .string | some (.slice _)=>true
  | _=>false
 | .cap,_ | .min,_ | .max,_=>true
 | _,_=>false
def pureOp (P:Program):Op→Bool
 | .move _ | .assign _ | .pick .. | .build .. | .nilCheck _ | .unOp .. | .makeInterface .. | .makeFunc .. | .slice .. | .fieldAddr .. | .field .. | .indexAddr .. | .index .. | .extract ..=>true
 | .binOp _ t _ _ _=>lA (P.underlying t)
 | .convert s d _=>jB P s d
 | .typeAssert _ _ t _=>match P.underlying t with
  | some (.interface _)=>false
  | _=>true
 | .call c=>match c.callee with
  | .builtin b=>gk P b c.argTypes.toList
  | _=>false
 | _=>false
section
variable {P:Program}
def xk (P:Program) (pure:Bool) (s:Sem Next) (K:Value→World→Prop) (w:World):Prop :=
 ∃v w',s.run P w=.ok (.value v) w'∧K v w'∧(pure=true→(∀w1,s.run P w1=.ok (.value v) w1)∧w'=w)
theorem xk.all {s:Sem Next} {K:Value→World→Prop} (h:∀w1,s.run P w1=.ok (.value v) w1) (hk:K v w):xk P p s K w :=
 ⟨v,w,h w,hk,fun _=>⟨h,rfl⟩⟩
theorem xk.one {s:Sem Next} {K:Value→World→Prop} (h:s.run P w=.ok (.value v) w') (hk:K v w'):xk P false s K w :=
 ⟨v,w',h,hk,fun h=>by cases h⟩
theorem xk.sem (h:semV P s K w):xk P false (do pure (.value (←s))) K w:=by
 obtain⟨v,w',hr,hk⟩:=eJ h;exact .one (dn hr) hk
theorem p8 {ty:TypeId} (h:ly P b ts ty vs K w):xk P (gk P b ts) (builtin b ts.toArray ty cs vs.toArray) K w:=by
 unfold ly at h;split at h
 ·unfold Mx at h;split at h
  ·rename_i t x hu;replace h:=eI h; obtain⟨s,rfl,h⟩:=h;exact .all (fun w1=>by simp[builtin,Builtin.len_,run_underlying hu,goInt]) h
  ·rename_i t x e hu;replace h:=gg h; obtain⟨a,n,c,rfl,h⟩:=h;exact .all (fun w1=>by simp[builtin,Builtin.len_,run_underlying hu,goInt]) h
  ·rename_i t x _ h1 h2;have hp:gk P .len [t]=false:=by
    show(match P.underlying t with
     | some .string | some (.slice _)=>true
     | _=>false)=false
    split
    ·rename_i hu; exact absurd hu h1
    ·rename_i hu; exact absurd hu (h2 _)
    ·rfl
   rw[hp];obtain⟨v,w',hr,hk⟩:=eJ h;exact .one (dn (by simpa [Builtin.len_] using hr)) hk
 ·unfold My at h;split at h
  ·rename_i t x e hu;replace h:=gg h; obtain⟨a,n,c,rfl,h⟩:=h;exact .all (fun w1=>by simp[builtin,Builtin.cap_,run_underlying hu,goInt]) h
  ·exact h.elim
 ·obtain⟨v,w',hr,hk⟩:=eJ h;exact .one (dn (s:=Builtin.append_ _ _ _) (by simpa [Builtin.append_] using hr)) hk
 ·obtain⟨v,w',hr,hk⟩:=eJ h;exact .one (dn (s:=Builtin.copy_ _ _ _) (by simpa [Builtin.copy_] using hr)) hk
 ·obtain⟨v,w',hr,hk⟩:=eJ h;exact .one (dn (s:=Builtin.delete_ _ _ _) (by simpa [Builtin.delete_] using hr)) hk
 ·obtain⟨v,w',hr,hk⟩:=eJ h;exact .one (dn (s:=Builtin.clear_ _ _ _) (by simpa [Builtin.clear_] using hr)) hk
 ·split at h
  ·unfold minmaxW at h;replace h:=cG h; obtain⟨x,rfl,h⟩:=h;replace h:=cG h; obtain⟨y,rfl,h⟩:=h;exact .all (fun w1=>by simp[builtin,Builtin.min_,Builtin.min2]) h
  ·exact h.elim
 ·split at h
  ·unfold minmaxW at h;replace h:=cG h; obtain⟨x,rfl,h⟩:=h;replace h:=cG h; obtain⟨y,rfl,h⟩:=h;exact .all (fun w1=>by simp[builtin,Builtin.max_,Builtin.max2]) h
  ·exact h.elim
 ·exact .sem h
 ·exact .sem h
 ·exact h.elim
theorem rS {K:Value→Prop} (h:wZ c a b K):∃t v,c=.bool t∧(if t then a else b)=some v∧K v:=by
 unfold wZ at h;split at h
 ·replace h:=d4 h; obtain⟨t,rfl,h⟩:=h;cases t<;>exact⟨_,_,rfl,rfl,h⟩
 ·replace h:=d4 h; obtain⟨t,rfl,h⟩:=h;cases t
  ·exact h.elim
  ·exact⟨_,_,rfl,rfl,h⟩
 ·replace h:=d4 h; obtain⟨t,rfl,h⟩:=h;cases t
  ·exact⟨_,_,rfl,rfl,h⟩
  ·exact h.elim
 ·exact h.elim
theorem oopt_sound (ag:eK e a) {x:Option Operand} {v:Option Value} (h:oopt e x=some v):x.map a.eval=v:=by
 cases x with
 | none=>simpa [oopt] using h
 | some x =>
  simp only[oopt]at h;split at h
  ·cases h
  ·rename_i u hu;cases h;simp[oev_sound ag hu]
theorem eval_map (ag:eK e a) {xs:Array Operand} {vs:List Value} (h:oevs e xs.toList=some vs):xs.map a.eval=vs.toArray:=by
 apply Array.ext';simpa using oevs_sound ag h
theorem evalp_map (ag:eK e a) {xs:Array (Nat×Operand)} {vs:List (Nat×Value)} (h:oevps e xs.toList=some vs):(xs.map fun(i,x)=>(i,a.eval x))=vs.toArray:=by
 apply Array.ext';simpa using oevps_sound ag h
theorem lE:∀{fs:List Field} {l:List (Nat×Nat)},placesO P fs=some l→(fs.mapM fun f=>(do pure (f.offset,←sizeOf f.type):Sem (Nat×Nat))).run P w=.ok l w
 | [],l,h=>by simp[placesO]at h; subst h; simp
 | f::fs,l,h=>by
  simp only[placesO]at h;split at h
  ·cases h
  ·rename_i n hn;split at h
   ·cases h
   ·rename_i l' hl;cases h;have hz:(sizeOf f.type).run P w=.ok n w:=run_size' hn;have:=lE (w:=w) hl;simp only[List.mapM_cons,Sem.run_bind,hz,Result.andThen_ok,Sem.run_pure,this]
theorem u6 {t:TypeId} (hz:eP P t=some z) (hp:oJ P t=some pl) (hq:partsAt pl ps=some qs) (hc:fillL z.cells.toList qs=some cs) (w:World) :
  (Instr.build t ps.toArray).run P w=.ok (.agg cs.toArray) w:=by
 have hf:=iB (cs:=z.cells) hq hc;unfold oJ at hp;split at hp
 ·rename_i fields hu;split at hp
  ·rename_i l hl;cases hp;have hm:=lE (w:=w) hl;have hm':(fields.mapM fun f=>(do pure (f.offset,←sizeOf f.type):Sem (Nat×Nat))).run P w=.ok l.toArray w:=by
    rw[Array.mapM_eq_mapM_toList];simp only[Sem.run_map,hm,Result.andThen_ok]
   have hf':Instr.fill (fun x=>l.toArray[x]?) z.cells ps=some cs.toArray:=by simpa using hf
   simp only[Instr.build,Sem.run_bind,run_zero' hz,run_underlying hu,Result.andThen_ok,hm',hf',Sem.run_pure]
  ·cases hp
 ·rename_i n el hu;split at hp
  ·rename_i m hm;cases hp;have hs:(sizeOf el).run P w=.ok m w:=run_size' hm;simp only[Instr.build,Sem.run_bind,run_zero' hz,run_underlying hu,Result.andThen_ok,hs,hf,Sem.run_pure]
  ·cases hp
 ·cases hp
theorem u7 {a:Act} {o:Oper} (ho:o.op=.nilCheck y) (hx:a.eval y=x) (h:CM x K):(∀w1,(execOp a.eval o).run P w1=.ok (.value x) w1)∧K:=by
 unfold CM at h;split at h
 ·exact h.elim
 ·exact h.elim
 ·exact h.elim
 ·exact h.elim
 ·rename_i h1 h2 h3 h4;refine⟨fun w1=>?_,h⟩;simp only[execOp,ho,hx];rfl
theorem gT {e:dt} {a:Act} {o:Oper} {K:Value→World→Prop} {w:World} (ag:eK e a) (hv:valOp o.op=true) (h:opW P e o.type K w o.op):xk P (pureOp P o.op) (execOp a.eval o) K w:=by
 obtain⟨dst,op,ty,pos,after,guard⟩:=o;cases op<;>simp only[valOp]at hv<;>simp only[opW]at h;case move x =>
  replace h:=aO h; obtain⟨v,hx,h⟩:=h;exact .all (fun w1=>by simp[execOp,oev_sound ag hx]) h
 case assign x =>
  replace h:=aO h; obtain⟨v,hx,h⟩:=h;exact .all (fun w1=>by simp[execOp,oev_sound ag hx]) h
 case pick c x y =>
  replace h:=aO h; obtain⟨c',hc,h⟩:=h;replace h:=rS h; obtain⟨t,v,rfl,hv,h⟩:=h;refine .all (fun w1=>?_) h;cases t
  ·simp[execOp,oev_sound ag hc,asBool,oev_sound ag (x:=y) (by simpa using hv)]
  ·simp[execOp,oev_sound ag hc,asBool,oev_sound ag (x:=x) (by simpa using hv)]
 case alloc t =>
  replace h:=aO h; obtain⟨z,hz,h⟩:=h;refine .one ?_ h;simp[execOp,Instr.alloc,run_zero' hz,newVar,newRow]
 case box t x =>
  replace h:=aO h; obtain⟨v,hx,h⟩:=h;refine .one ?_ h;simp[execOp,Instr.box,oev_sound ag hx,newVar,newRow]
 case build t parts =>
  replace h:=aO h; obtain⟨ps,hp,h⟩:=h;replace h:=aO h; obtain⟨z,hz,h⟩:=h;replace h:=aO h; obtain⟨pl,hpl,h⟩:=h;replace h:=aO h; obtain⟨qs,hq,h⟩:=h;replace h:=aO h; obtain⟨cs,hc,h⟩:=h;refine .all (fun w1=>?_) h;simp only[execOp,evalp_map ag hp];exact dn (u6 hz hpl hq hc w1)
 case buildSlice t len parts =>
  replace h:=aO h; obtain⟨ps,hp,h⟩:=h;split at h
  ·rename_i el hu;replace h:=aO h; obtain⟨n,hn,h⟩:=h;replace h:=aO h; obtain⟨z,hz,h⟩:=h;simp only[cond_eq_ite]at h;split at h
   ·rename_i hle;replace h:=aO h; obtain⟨qs,hq,h⟩:=h;replace h:=aO h; obtain⟨cs,hc,h⟩:=h;split at h;case isFalse=>exact h.elim
    rename_i hzn';replace hzn':z.cells.size=n:=by simpa using hzn'
    refine .one (w':=w.alloc (.cells cs.toArray el)) (v:=.slice (some ⟨w.heap.size,0,none⟩) len len) ?_ h;simp only[execOp,evalp_map ag hp];refine dn ?_;have hs:(sizeOf el).run P w=.ok n w:=run_size' hn;have hle':¬(len*n>2^24):=by have:=Nat.le_of_ble_eq_true hle; omega
    by_cases hzn:z.cells.size=n
    ·have hrow:(Array.range (len*n)).map (fun i=>(if len*n=0 then #[] else z.cells)[i%(if len*n=0 then #[] else z.cells).size]!)=(zrow z.cells.toList len).toArray:=by
      by_cases h0:len*n=0
      ·have hl:(zrow z.cells.toList len).length=0:=by rw[zrow_length]; simp[hzn,h0]
       have:=List.eq_nil_of_length_eq_zero hl;simp[h0,this]
      ·simp only[h0,if_false];subst hzn;exact lz _ _
     have hf:=iB (cs:=(zrow z.cells.toList len).toArray) hq (by simpa using hc);simp only[Instr.buildSlice,Sem.run_bind,run_underlying hu,hs,Result.andThen_ok,if_neg hle'];by_cases h0:len*n=0
     ·simp only[if_pos h0]at hrow ⊢;simp only[Sem.run_bind,Sem.run_pure,Result.andThen_ok,hrow,hf,newRow,run_newObj];rfl
     ·simp only[if_neg h0]at hrow ⊢;simp only[Sem.run_bind,run_zero' hz,Sem.run_pure,Result.andThen_ok,hrow,hf,newRow,run_newObj];rfl
    ·exact absurd hzn' hzn
   ·exact h.elim
  ·exact h.elim
 case load t x =>
  replace h:=aO h; obtain⟨x',hx,h⟩:=h;replace h:=aO h; obtain⟨s,hs,h⟩:=h;replace h:=fO h; obtain⟨ad,rfl,h⟩:=h;cases s with
  | none =>
   replace h:=aO h; obtain⟨v,hv,h⟩:=h;refine .one ?_ h;simp only[execOp,oev_sound ag hx];exact dn (run_loadAt1 hs hv)
  | some n =>
   replace h:=aO h; obtain⟨cs,hc,h⟩:=h;refine .one ?_ h;simp only[execOp,oev_sound ag hx];exact dn (run_loadAtN hs hc)
 case nilCheck x =>
  replace h:=aO h; obtain⟨v,hx,h⟩:=h;obtain⟨h1,h2⟩:=u7 (a:=a) (o:=⟨dst,.nilCheck x,ty,pos,after,guard⟩) rfl (oev_sound ag hx) h;exact .all h1 h2
 case binOp op t x y yt =>
  replace h:=aO h; obtain⟨v,hx,h⟩:=h;replace h:=aO h; obtain⟨u,hy,h⟩:=h;obtain⟨r,w',hr,hk,h1,h2⟩:=xj h;refine⟨r,w',?_,hk,fun hp=>⟨fun w1=>?_,h2 hp⟩⟩
  ·simp only[execOp,oev_sound ag hx,oev_sound ag hy]; exact dn hr
  ·simp only[execOp,oev_sound ag hx,oev_sound ag hy]; exact dn (h1 hp w1)
 case unOp op t x =>
  replace h:=aO h; obtain⟨v,hx,h⟩:=h;obtain⟨r,hr,hk⟩:=CN h;exact .all (fun w1=>by simp only[execOp,oev_sound ag hx]; exact dn (hr w1)) hk
 case convert s d x =>
  replace h:=aO h; obtain⟨v,hx,h⟩:=h;obtain⟨r,w',hr,hk,h1⟩:=u5 h;refine⟨r,w',?_,hk,fun hp=>⟨fun w1=>?_,(h1 hp).2⟩⟩
  ·simp only[execOp,oev_sound ag hx]; exact dn hr
  ·simp only[execOp,oev_sound ag hx]; exact dn ((h1 hp).1 w1)
 case makeInterface t x =>
  replace h:=aO h; obtain⟨v,hx,h⟩:=h;split at h
  ·rename_i d hu;split at h
   ·exact h.elim
   ·rename_i hd;refine .all (fun w1=>?_) h;simp only[execOp,oev_sound ag hx];refine dn ?_;simp only[Instr.makeInterface,Sem.run_bind,run_underlying hu,Result.andThen_ok];first | rfl | (split<;>first | rfl | exact absurd rfl (hd _))
  ·exact h.elim
 case makeFunc fn first captured =>
  replace h:=aO h; obtain⟨vs,h1,h⟩:=h;replace h:=aO h; obtain⟨cs,h2,h⟩:=h;exact .all (fun w1=>by simp[execOp,Instr.makeFunc,eval_map ag h1,eval_map ag h2]) h
 case makeMap t r =>
  cases r with
  | none=>exact .one (by simp[execOp,Instr.makeMap]) h
  | some r =>
   replace h:=aO h; obtain⟨v,hr,h⟩:=h;replace h:=dX h; obtain⟨k,n,rfl,h⟩:=h;split at h
   ·rename_i k' e' hu;exact .one (by simp[execOp,Instr.makeMap,oev_sound ag hr,run_underlying hu,asInt,asIntOf]) h
   ·exact h.elim
 case makeSlice t l c =>
  replace h:=aO h; obtain⟨lv,hl,h⟩:=h;replace h:=aO h; obtain⟨cv,hc,h⟩:=h;split at h
  ·rename_i el hu;split at h
   ·rename_i i hi;replace h:=aO h; obtain⟨z,hz,h⟩:=h;simp only[cond_eq_ite]at h;split at h
    ·rename_i hzn;replace hzn:z.cells.size=i.size:=by simpa using hzn
     unfold makeSliceW at h;replace h:=cG h; obtain⟨l',rfl,h⟩:=h;replace h:=cG h; obtain⟨c',rfl,h⟩:=h;obtain⟨⟨h0,h1,h2,h3⟩,hk⟩:=h;refine .one ?_ hk;simp only[execOp,oev_sound ag hl,oev_sound ag hc];refine dn ?_;have w1:IntKind.i64.wrap l'=l':=by unfold IntKind.wrap; simp[IntKind.signed,IntKind.bits]; omega
     have w2:IntKind.i64.wrap c'=c':=by unfold IntKind.wrap; simp[IntKind.signed,IntKind.bits]; omega
     have hs:(sizeOf el).run P w=.ok i.size w:=run_sizeOf' hi;have hzv:(zeroValue el).run P w=.ok z w:=run_zero' (by unfold eP; rw[hi]; exact hz);have n1:¬(c'<0):=by omega
     have n2:¬(l'<0):=by omega
     have n3:¬(c'<l'):=by omega
     have n4:¬(281474976710656<(i.bytes:Int)*c'):=by omega
     have hrow:(Array.range (c'.toNat*i.size)).map (fun j=>(if c'.toNat*i.size=0 then #[] else z.cells)[j%(if c'.toNat*i.size=0 then #[] else z.cells).size]!)=(zrow z.cells.toList c'.toNat).toArray:=by
      by_cases h0:c'.toNat*i.size=0
      ·have hl:(zrow z.cells.toList c'.toNat).length=0:=by rw[zrow_length]; simp[hzn,h0]
       have:=List.eq_nil_of_length_eq_zero hl;simp[h0,this]
      ·simp only[h0,if_false];rw[←hzn];exact lz _ _
     simp only[Instr.makeSlice,Sem.run_bind,run_underlying hu,Result.andThen_ok,asInt,asIntOf,Sem.run_pure,run_typeInfo' hi,w1,w2];simp only[n1,n2,n3,show ¬((i.bytes:Int)*c'>2^48)from n4,decide_false,Bool.or_false,Bool.false_eq_true,if_false,Sem.run_bind,run_askRoom,Result.andThen_ok,hs];by_cases h0:c'.toNat*i.size=0
     ·simp only[if_pos h0]at hrow ⊢;simp only[Sem.run_bind,Sem.run_pure,Result.andThen_ok,hrow,newRow,run_newObj];rfl
     ·simp only[if_neg h0]at hrow ⊢;simp only[Sem.run_bind,hzv,Sem.run_pure,Result.andThen_ok,hrow,newRow,run_newObj];rfl
    ·exact h.elim
   ·exact h.elim
  ·exact h.elim
 case slice t x lo hi mx =>
  cases mx with
  | some _=>exact h.elim
  | none =>
   replace h:=aO h; obtain⟨xv,hx,h⟩:=h;replace h:=aO h; obtain⟨l,hl,h⟩:=h;replace h:=aO h; obtain⟨g,hg,h⟩:=h;obtain⟨v,hv,hk⟩:=rQ h;exact .all (fun w1=>by simp only[execOp,oev_sound ag hx,oopt_sound ag hl,oopt_sound ag hg]; exact dn (hv w1)) hk
 case fieldAddr s x f =>
  replace h:=aO h; obtain⟨xv,hx,h⟩:=h;replace h:=aO h; obtain⟨⟨off,ft⟩,hf,h⟩:=h;replace h:=aO h; obtain⟨n,hn,h⟩:=h;simp only[cond_eq_ite]at h;split at h
  ·exact h.elim
  ·rename_i h0;replace h:=fO h; obtain⟨ad,rfl,h⟩:=h;exact .all (fun w1=>by simp only[execOp,oev_sound ag hx]; exact dn (p7 hf hn (by simpa using h0))) h
 case field s x f =>
  replace h:=aO h; obtain⟨xv,hx,h⟩:=h;replace h:=aO h; obtain⟨⟨off,ft⟩,hf,h⟩:=h;replace h:=nJ h; obtain⟨cs,rfl,h⟩:=h;obtain⟨v,hv,hk⟩:=uZ hf h;exact .all (fun w1=>by simp only[execOp,oev_sound ag hx]; exact dn (hv w1)) hk
 case indexAddr t x i =>
  replace h:=aO h; obtain⟨xv,hx,h⟩:=h;replace h:=aO h; obtain⟨iv,hi,h⟩:=h;obtain⟨v,hv,hk⟩:=lD h;exact .all (fun w1=>by simp only[execOp,oev_sound ag hx,oev_sound ag hi]; exact dn (hv w1)) hk
 case index t x i =>
  replace h:=aO h; obtain⟨xv,hx,h⟩:=h;replace h:=aO h; obtain⟨iv,hi,h⟩:=h;obtain⟨v,hv,hk⟩:=rR h;exact .all (fun w1=>by simp only[execOp,oev_sound ag hx,oev_sound ag hi]; exact dn (hv w1)) hk
 case lookup t m k ok =>
  replace h:=aO h; obtain⟨mv,hm,h⟩:=h;replace h:=aO h; obtain⟨kv,hk,h⟩:=h;simp only[execOp,oev_sound ag hm,oev_sound ag hk];exact .sem h
 case mapEntry t m k =>
  replace h:=aO h; obtain⟨mv,hm,h⟩:=h;replace h:=aO h; obtain⟨kv,hk,h⟩:=h;simp only[execOp,oev_sound ag hm,oev_sound ag hk];exact .sem h
 case range t x =>
  replace h:=aO h; obtain⟨xv,hx,h⟩:=h;simp only[execOp,oev_sound ag hx];exact .sem h
 case next it s =>
  replace h:=aO h; obtain⟨xv,hx,h⟩:=h;simp only[execOp,oev_sound ag hx];exact .sem h
 case entry it =>
  replace h:=aO h; obtain⟨xv,hx,h⟩:=h;simp only[execOp,oev_sound ag hx];exact .sem h
 case typeAssert x xt t ok =>
  replace h:=aO h; obtain⟨xv,hx,h⟩:=h;split at h
  ·rename_i ms hu;simp only[execOp,oev_sound ag hx,pureOp,hu];exact .sem h
  ·rename_i d hd hu;replace h:=aO h; obtain⟨z,hz,h⟩:=h;have hr:∃v,(∀w1,(Instr.typeAssert xv xt t ok).run P w1=.ok v w1)∧K v w:=by
    unfold taW at h;split at h
    ·cases ok
     ·exact h.elim
     ·refine⟨_,fun w1=>?_,h⟩;cases d<;>first | exact absurd hu (hd _) | exact absurd rfl (hd _) | exact(hd _ hu).elim | exact absurd hd (hu _) | simp[Instr.typeAssert,run_underlying hu,run_zero' hz]
    ·rename_i t' v';simp only[cond_eq_ite]at h;split at h
     ·rename_i he;have he:t'=t:=by simpa using he
      subst he;cases ok
      ·refine⟨_,fun w1=>?_,h⟩;cases d<;>first | exact absurd hu (hd _) | exact absurd rfl (hd _) | exact(hd _ hu).elim | exact absurd hd (hu _) | simp[Instr.typeAssert,run_underlying hu]
      ·refine⟨_,fun w1=>?_,h⟩;cases d<;>first | exact absurd hu (hd _) | exact absurd rfl (hd _) | exact(hd _ hu).elim | exact absurd hd (hu _) | simp[Instr.typeAssert,run_underlying hu]
     ·rename_i he;have he:t'≠t:=by simpa using he
      cases ok
      ·exact h.elim
      ·refine⟨_,fun w1=>?_,h⟩;cases d<;>first | exact absurd hu (hd _) | exact absurd rfl (hd _) | exact(hd _ hu).elim | exact absurd hd (hu _) | simp[Instr.typeAssert,run_underlying hu,he,run_zero' hz]
    ·exact h.elim
   obtain⟨v,hv,hk⟩:=hr;exact .all (fun w1=>by simp only[execOp,oev_sound ag hx]; exact dn (hv w1)) hk
  ·exact h.elim
 case extract x i =>
  replace h:=aO h; obtain⟨xv,hx,h⟩:=h;replace h:=uY h; obtain⟨vs,rfl,h⟩:=h;replace h:=aO h; obtain⟨v,hv,h⟩:=h;exact .all (fun w1=>by simp[execOp,oev_sound ag hx,Instr.extract,hv]) h
 case call c =>
  obtain⟨callee,args,argTypes⟩:=c;unfold xi at h;replace h:=aO h; obtain⟨vs,hvs,h⟩:=h;cases callee with
  | builtin b =>
   show xk P (gk P b argTypes.toList) _ K w;simp only[execOp,resolve,eval_map ag hvs,invoke,pure_bind];exact p8 h
  | value f=>simp at hv
  | invoke r n=>simp at hv
 all_goals first | exact h.elim | (simp at hv; done)
end
end
section
section
variable {P:Program}
def dl (P:Program) (s:Sem Next) (w:World) (K:Value→World→Prop):Prop :=
 match s.run P w with
 | .ok (.value v) w'=>K v w'
 | .ok .skip w'=>K undef w'
 | .ok (.enter f args) w'=>Calls P f args w' fun e w''=>∃v,e=.returned v∧K v w''
 | _=>False
theorem dl.mono {K K':Value→World→Prop} (h:dl P s w K) (hk:∀v w',K v w'→K' v w'):dl P s w K':=by
 unfold dl at *;split<;>rename_i hr<;>simp only[hr]at h
 ·exact hk _ _ h
 ·exact hk _ _ h
 ·exact h.mono fun e w'' ⟨v,he,hv⟩=>⟨v,he,hk _ _ hv⟩
theorem dl.some {K:Value→World→Prop} (h:dl P s w K):∃v w',K v w':=by
 unfold dl at h;split at h
 ·exact⟨_,_,h⟩
 ·exact⟨_,_,h⟩
 ·obtain⟨e,w',_,⟨v,_,hv⟩,_⟩:=h [];exact⟨v,w',hv⟩
 ·exact h.elim
theorem dl.wp {a:Act} {K:Value→World→Prop} (h:dl P (execOp a.eval o) w K):o.wp P a w (fun a' w'=>∃v,a'=a.put o.dst v∧K v w') Q:=by
 unfold Oper.wp;unfold dl at h;split at h
 ·rename_i hr; rw[hr]; exact⟨_,rfl,h⟩
 ·rename_i hr; rw[hr]; exact⟨_,rfl,h⟩
 ·rename_i hr;rw[hr];exact h.mono fun e w'' ⟨v,he,hv⟩=>by subst he; exact⟨v,rfl,hv⟩
 ·exact h.elim
theorem xk.eff (h:xk P b s K w):dl P s w K:=by
 obtain⟨v,w',hr,hk,_⟩:=h;unfold dl;rw[hr]; exact hk
theorem oM (h:gC P f=true):(callFunc f args).run P w=.ok (.enter f args) w:=by
 unfold gC at h;split at h
 ·rename_i fn hfn;simp only[Bool.and_eq_true,Bool.not_eq_true']at h;have h2:fn.name ≠ "runtime.NumGoroutine" :=by simpa using h.2
  have hb:fn.body≠none:=by intro hb; simp[hb]at h
  simp[callFunc,hfn,h2,hb]
 ·cases h
theorem lF (h:af P f args w K):dl P (callFunc f args) w K:=by
 unfold dl;rw[oM h.1];exact h.2
theorem u9 (h:xg P f args K w):dl P (callFunc f args.toArray) w K:=by
 unfold xg at h;split at h
 ·simp only[cond_eq_ite]at h;split at h
  ·exact lF h
  ·unfold xf at h;unfold dl;split at h
   ·rename_i hr; rw[hr]; exact h
   ·exact h.elim
 ·exact h.elim
theorem oN {e:dt} {a:Act} {o:Oper} {K:Value→World→Prop} {w:World} (ag:eK e a) (h:opW P e o.type K w o.op):dl P (execOp a.eval o) w K:=by
 by_cases hv:valOp o.op=true
 ·exact(gT ag hv h).eff
 ·obtain⟨dst,op,ty,pos,after,guard⟩:=o;cases op<;>simp[valOp]at hv<;>simp only[opW]at h;case insert t m k v =>
   replace h:=aO h; obtain⟨mv,hm,h⟩:=h;replace h:=aO h; obtain⟨kv,hk,h⟩:=h;replace h:=aO h; obtain⟨vv,hv,h⟩:=h;obtain⟨w',hr,hK⟩:=kh h;unfold dl;simp[execOp,oev_sound ag hm,oev_sound ag hk,oev_sound ag hv,hr,hK]
  case mapUpdate t m k v =>
   replace h:=aO h; obtain⟨mv,hm,h⟩:=h;replace h:=aO h; obtain⟨kv,hk,h⟩:=h;replace h:=aO h; obtain⟨vv,hv,h⟩:=h;obtain⟨w',hr,hK⟩:=kh h;unfold dl;simp[execOp,oev_sound ag hm,oev_sound ag hk,oev_sound ag hv,hr,hK]
  case entryStore t m s x =>
   replace h:=aO h; obtain⟨mv,hm,h⟩:=h;replace h:=aO h; obtain⟨kv,hk,h⟩:=h;replace h:=aO h; obtain⟨vv,hv,h⟩:=h;obtain⟨w',hr,hK⟩:=kh h;unfold dl;simp[execOp,oev_sound ag hm,oev_sound ag hk,oev_sound ag hv,hr,hK]
  case store t x v =>
   replace h:=aO h; obtain⟨xv,hx,h⟩:=h;replace h:=aO h; obtain⟨vv,hv,h⟩:=h;replace h:=aO h; obtain⟨n,hn,h⟩:=h;replace h:=fO h; obtain⟨ad,rfl,h⟩:=h;obtain⟨hsz,h⟩:=h;replace h:=aO h; obtain⟨w',hs,hK⟩:=h;have hz:(sizeOf t).run P w=.ok n w:=run_size' hn;have hst:=fc (P:=P) _ _ _ _ hs;unfold dl;simp[execOp,oev_sound ag hx,oev_sound ag hv,Instr.storeAt,Instr.sureAddr,storeVar,hz,hsz,hst,hK]
  case call c =>
   obtain⟨callee,args,argTypes⟩:=c;unfold xi at h;replace h:=aO h; obtain⟨vs,hvs,h⟩:=h;cases callee with
   | builtin b=>simp at hv
   | value f =>
    simp only[]at h;split at h
    ·rename_i g hg;have hf:f=.func g:=by cases f<;>simp[calleeF]at hg; subst hg; rfl
     subst hf;have he:(execOp a.eval ⟨dst,.call ⟨.value (.func g),args,argTypes⟩,ty,pos,after,guard⟩)=callFunc g vs.toArray:=by
      simp[execOp,resolve,eval_map ag hvs,Act.eval,Deferred.ofValue,invoke]
     rw[he];split at h
     ·simp only[cond_eq_ite]at h;split at h
      ·exact lF h
      ·unfold xf at h;unfold dl;split at h
       ·rename_i hr; rw[hr]; exact h
       ·exact h.elim
     ·exact h.elim
    ·replace h:=aO h; obtain⟨fv,hf,h⟩:=h;unfold xe at h;split at h
     ·rename_i g first captured
      have he:(execOp a.eval ⟨dst,.call ⟨.value f,args,argTypes⟩,ty,pos,after,guard⟩)=callFunc g (first++vs.toArray++captured):=by
       simp[execOp,resolve,eval_map ag hvs,oev_sound ag hf,Deferred.ofValue,invoke]
      rw[he];exact lF h
     ·exact h.elim
   | invoke r name =>
    replace h:=aO h; obtain⟨rv,hr,h⟩:=h;unfold xh at h;split at h
    ·rename_i t v;split at h
     ·rename_i g u w' hm;have he:(execOp a.eval ⟨dst,.call ⟨.invoke r name,args,argTypes⟩,ty,pos,after,guard⟩)=callMethod (.iface t v) name vs.toArray:=by
       simp[execOp,resolve,eval_map ag hvs,oev_sound ag hr,invoke]
      rw[he];have hc:(callMethod (.iface t v) name vs.toArray).run P w=(callFunc g (#[u]++vs.toArray)).run P w':=by
       simp[callMethod,hm]
      have hf:=u9 h;unfold dl at hf ⊢;rw[hc];have hv:(u::vs).toArray=#[u]++vs.toArray:=by simp
      rw[←hv];exact hf
     ·exact h.elim
    ·exact h.elim
  all_goals exact h.elim
end
end
section
section
variable {P:Program}
def readOp:Op→Bool
 | .load .. | .lookup .. | .binOp .. | .typeAssert ..=>true
 | .call c=>match c.callee with
  | .builtin .len=>true
  | _=>false
 | _=>false
inductive SD where | pure | read | eff
 deriving DecidableEq
def kf (P:Program) (op:Op):SD:=bif pureOp P op then .pure else bif readOp op then .read else .eff
def ir (ops:List Oper):List Nat:=go ops []
where
 go:List Oper→List Nat→List Nat
  | [],acc=>acc
  | o::l,acc=>go l (acc++[o.after.toList.foldl (fun s e=>bif Region.binds .any e then s |||2^e.on |||acc.getD e.on 0 else s) 0])
abbrev cW:=List (Nat×(World→Prop))
abbrev dH:=List (Nat×World)
def T (P:Program) (ops:Array Oper) (anc:Nat→Nat→Bool) (Q:Act→World→Prop):List Nat→cW→dH→Act→World→Prop
 | [],_,_,a,w=>Q a w
 | i::l,pend,past,a,w=>match ops[i]? with
  | none=>False
  | some o=>if Region.wanted o (yielded ops a.tmps)=true then
    match kf P o.op with
    | .pure=>∃v,(∀w1,(execOp a.eval o).run P w1=.ok (.value v) w1)∧T P ops anc Q l pend past (a.put o.dst v) w
    | .read=>∃v,(execOp a.eval o).run P w=.ok (.value v) w∧(∀x∈past,anc i x.1=false→(execOp a.eval o).run P x.2=.ok (.value v) x.2) ∧
      T P ops anc Q l ((i,fun W=>(execOp a.eval o).run P W=.ok (.value v) W)::pend) past (a.put o.dst v) w
    | .eff=>(∀x∈past,anc i x.1=true)∧dl P (execOp a.eval o) w fun v w'=>(∀q∈pend,anc i q.1=false→q.2 w')∧T P ops anc Q l pend ((i,w)::past) (a.put o.dst v) w'
   else T P ops anc Q l pend past (a.put o.dst undef) w
variable {ops:Array Oper} {anc:Nat→Nat→Bool} {Q:Act→World→Prop}
theorem T.mono:∀(l:List Nat) {pend pend':cW} {past past':dH} {a:Act} {w:World},(∀x∈pend',x∈pend)→(∀x∈past',x∈past)→T P ops anc Q l pend past a w→T P ops anc Q l pend' past' a w
 | [],_,_,_,_,_,_,_,_,h=>h
 | i::l,pend,pend',past,past',a,w,h1,h2,h=>by
  simp only[T]at h ⊢;cases ho:ops[i]? with
  | none=>simp[ho]at h
  | some o =>
   simp only[ho]at h ⊢;split
   ·rename_i hw;simp only[hw,if_true]at h;cases hc:kf P o.op
    ·simp only[hc]at h ⊢;obtain⟨v,hv,h⟩:=h;exact⟨v,hv,T.mono l h1 h2 h⟩
    ·simp only[hc]at h ⊢;obtain⟨v,hv,hp,h⟩:=h;refine⟨v,hv,fun x hx=>hp x (h2 x hx),T.mono l ?_ h2 h⟩;intro x hx;rcases List.mem_cons.1 hx with rfl | hx
     ·exact List.mem_cons_self
     ·exact List.mem_cons_of_mem _ (h1 x hx)
    ·simp only[hc]at h ⊢;refine⟨fun x hx=>h.1 x (h2 x hx),h.2.mono fun v w' ⟨hq,h⟩=>⟨fun q hq'=>hq q (h1 q hq'),T.mono l h1 ?_ h⟩⟩;intro x hx;rcases List.mem_cons.1 hx with rfl | hx
     ·exact List.mem_cons_self
     ·exact List.mem_cons_of_mem _ (h2 x hx)
   ·rename_i hw;simp only[hw]at h;exact T.mono l h1 h2 h
theorem T.swap (hk:ops[k]?=some ok) (hi:ops[i]?=some oi) (hki:anc i k=false) (hap:ok.apart ops oi=true)
  (hsk:∀cs b,ok.op≠.select cs b) (hsi:∀cs b,oi.op≠.select cs b) {l:List Nat} {pend:cW} {past:dH} {a:Act} {w:World}
  (h:T P ops anc Q (k::i::l) pend past a w):T P ops anc Q (i::k::l) pend past a w:=by
 obtain⟨a1,a2,a3⟩:=Oper.apart_spec hap;have ei:∀v,execOp (a.put ok.dst v).eval oi=execOp a.eval oi:=fun v=>execOp_put oi hsi a ok.dst v a1;have ek:∀v,execOp (a.put oi.dst v).eval ok=execOp a.eval ok:=fun v=>execOp_put ok hsk a oi.dst v a3;have wi:∀v,Region.wanted oi (yielded ops (a.put ok.dst v).tmps)=Region.wanted oi (yielded ops a.tmps):=fun v=>wanted_put oi a ok.dst v a1;have wk:∀v,Region.wanted ok (yielded ops (a.put oi.dst v).tmps)=Region.wanted ok (yielded ops a.tmps):=fun v=>wanted_put ok a oi.dst v a3;have pc:∀v u,(a.put ok.dst v).put oi.dst u=(a.put oi.dst u).put ok.dst v:=fun v u=>Act.put_comm a v u a2;have sw:∀(x y:Nat×(World→Prop)) (p:cW),∀z∈x::y::p,z∈y::x::p:=by
  intro x y p z hz;simp only[List.mem_cons]at hz ⊢;rcases hz with h | h | h
  ·exact .inr (.inl h)
  ·exact .inl h
  ·exact .inr (.inr h)
 simp only[T,hk,hi]at h ⊢;by_cases hwk:Region.wanted ok (yielded ops a.tmps)=true<;>by_cases hwi:Region.wanted oi (yielded ops a.tmps)=true
 ·simp only[hwk,hwi,wi,wk,if_true,ei,ek]at h ⊢;cases hck:kf P ok.op<;>cases hci:kf P oi.op<;>simp only[hck,hci]at h ⊢
  ·obtain⟨v,hv,u,hu,h⟩:=h;exact⟨u,hu,v,hv,by rw[←pc]; exact h⟩
  ·obtain⟨v,hv,u,hu,hp,h⟩:=h;exact⟨u,hu,hp,v,hv,by rw[←pc]; exact h⟩
  ·obtain⟨v,hv,hp,h⟩:=h;exact⟨hp,h.mono fun u w' ⟨h1,h2⟩=>⟨h1,v,hv,by rw[←pc]; exact h2⟩⟩
  ·obtain⟨v,hv,hp,u,hu,h⟩:=h;exact⟨u,hu,v,hv,hp,by rw[←pc]; exact h⟩
  ·obtain⟨v,hv,hp,u,hu,hq,h⟩:=h;refine⟨u,hu,hq,v,hv,hp,?_⟩;rw[←pc];exact T.mono l (sw _ _ _) (fun _ h=>h) h
  ·obtain⟨v,hv,hp,hq,h⟩:=h;refine⟨hq,h.mono fun u w' ⟨h1,h2⟩=>⟨fun q hq'=>h1 q (List.mem_cons_of_mem _ hq'),v,h1 _ List.mem_cons_self hki,?_,by rw[←pc]; exact h2⟩⟩;intro x hx hxa;rcases List.mem_cons.1 hx with rfl | hx
   ·exact hv
   ·exact hp x hx hxa
  ·obtain⟨hq,h⟩:=h;obtain⟨v0,w0,_,u,hu,_⟩:=h.some;refine⟨u,hu,hq,h.mono fun v w' ⟨h1,u',hu',h2⟩=>⟨h1,?_⟩⟩;have:u'=u:=by have e1:=hu' w; rw[hu w]at e1; injection e1 with e1; injection e1 with e1; exact e1.symm
   subst this;rw[←pc]; exact h2
  ·obtain⟨hq,h⟩:=h;obtain⟨v0,w0,_,u,hu,hpu,_⟩:=h.some;have huw:=hpu _ List.mem_cons_self hki;refine⟨u,huw,fun x hx hxa=>hpu x (List.mem_cons_of_mem _ hx) hxa,hq,h.mono fun v w' ⟨h1,u',hu',hp',h2⟩=>?_⟩;have:u'=u:=by have e1:=hp' _ List.mem_cons_self hki; rw[huw]at e1; injection e1 with e1; injection e1 with e1; exact e1.symm
   subst this;refine⟨fun q hq' hqa=>?_,by rw[←pc]; exact h2⟩;rcases List.mem_cons.1 hq' with rfl | hq'
   ·exact hu'
   ·exact h1 q hq' hqa
  ·obtain⟨hq,h⟩:=h;obtain⟨v0,w0,_,hp,_⟩:=h.some;have:=hp _ List.mem_cons_self;rw[hki]at this; cases this
 ·simp only[hwk,hwi,wi,wk,if_true,ek]at h ⊢;cases hck:kf P ok.op<;>simp only[hck]at h ⊢
  ·obtain⟨v,hv,h⟩:=h;exact⟨v,hv,by rw[←pc]; exact h⟩
  ·obtain⟨v,hv,hp,h⟩:=h;exact⟨v,hv,hp,by rw[←pc]; exact h⟩
  ·obtain⟨hq,h⟩:=h;exact⟨hq,h.mono fun v w' ⟨h1,h2⟩=>⟨h1,by rw[←pc]; exact h2⟩⟩
 ·simp only[hwk,hwi,wi,wk,if_true,ei]at h ⊢;cases hci:kf P oi.op<;>simp only[hci]at h ⊢
  ·obtain⟨v,hv,h⟩:=h;exact⟨v,hv,by rw[←pc]; exact h⟩
  ·obtain⟨v,hv,hp,h⟩:=h;exact⟨v,hv,hp,by rw[←pc]; exact h⟩
  ·obtain⟨hq,h⟩:=h;exact⟨hq,h.mono fun v w' ⟨h1,h2⟩=>⟨h1,by rw[←pc]; exact h2⟩⟩
 ·simp only[hwk,hwi,wi,wk]at h ⊢;rw[←pc]; exact h
end
end
section
section
variable {P:Program} {ops:Array Oper} {anc:Nat→Nat→Bool} {Q:Act→World→Prop}
theorem T.front (hsel:∀(j:Nat) (o:Oper) cs b,ops[j]?=some o→o.op≠.select cs b) {i:Nat} {oi:Oper} (hi:ops[i]?=some oi):∀(l:List Nat) {pend:cW} {past:dH} {a:Act} {w:World},i∈l →
  (∀k∈l,k<i→anc i k=false∧∃ok,ops[k]?=some ok∧ok.apart ops oi=true)→l.Pairwise (·<·)→T P ops anc Q l pend past a w→T P ops anc Q (i::l.erase i) pend past a w
 | [],_,_,_,_,hm,_,_,_=>by cases hm
 | k::l,pend,past,a,w,hm,hf,hs,h=>by
  by_cases hki:k=i
  ·subst hki; simpa using h
  ·have hm':i∈l:=(List.mem_cons.1 hm).resolve_left (fun e=>hki e.symm);have hlt:k<i:=(List.pairwise_cons.1 hs).1 i hm';obtain⟨h1,ok,hk,hap⟩:=hf k List.mem_cons_self hlt;have he:(k::l).erase i=k::l.erase i:=by rw[List.erase_cons]; simp[hki]
   rw[he];refine T.swap hk hi h1 hap (hsel k ok · · hk) (hsel i oi · · hi) ?_;have ih:∀{pend:cW} {past:dH} {a:Act} {w:World},T P ops anc Q l pend past a w→T P ops anc Q (i::l.erase i) pend past a w:=fun h =>
    T.front hsel hi l hm' (fun k' hk' hlt'=>hf k' (List.mem_cons_of_mem _ hk') hlt') (List.pairwise_cons.1 hs).2 h
   rw[T.eq_def]at h;rw[T.eq_def];simp only[hk]at h ⊢;split
   ·rename_i hw;simp only[hw,if_true]at h;cases hc:kf P ok.op<;>simp only[hc]at h ⊢
    ·obtain⟨v,hv,h⟩:=h;exact⟨v,hv,ih h⟩
    ·obtain⟨v,hv,hp,h⟩:=h;exact⟨v,hv,hp,ih h⟩
    ·exact⟨h.1,h.2.mono fun v w' ⟨h1,h2⟩=>⟨h1,ih h2⟩⟩
   ·rename_i hw;simp only[hw]at h;exact ih h
structure Edges (ops:Array Oper) (anc:Nat→Nat→Bool):Prop where
 sel:∀(j:Nat) (o:Oper) cs b,ops[j]?=some o→o.op≠.select cs b
 back:∀i o,ops[i]?=some o→∀e∈o.after,Region.binds .any e=true→e.on<i
 step:∀i o,ops[i]?=some o→∀k,anc i k=true→∃e∈o.after,Region.binds .any e=true∧(e.on=k∨anc e.on k=true)
 apart:∀i oi k ok,ops[i]?=some oi→ops[k]?=some ok→k<i→anc i k=false→ok.apart ops oi=true
theorem CO (he:Edges ops anc) {Q':Exit→Act→World→Prop} (hQ:∀a w,Q a w→Q' .normal a w):∀(fuel:Nat) (listed:Array Bool) (l:List Nat) (pend:cW) (past:dH) (a:Act) (w:World),
  listed.size=ops.size→l.length≤fuel→l.Pairwise (·<·)→(∀i,i∈l↔i<ops.size∧listed.getD i true=false) →
  (∀i o,ops[i]?=some o→listed.getD i false=true→∀e∈o.after,Region.binds .any e=true→listed.getD e.on false=true) →
  T P ops anc Q l pend past a w→wpAny P .any ops Q' fuel listed a w:=by
 have hanc:∀(listed:Array Bool),listed.size=ops.size→(∀i o,ops[i]?=some o→listed.getD i false=true→∀e∈o.after,Region.binds .any e=true→listed.getD e.on false=true) →
   ∀n i,i<n→∀o,ops[i]?=some o→(∀e∈o.after,Region.binds .any e=true→listed.getD e.on false=true)→∀k,anc i k=true→listed.getD k false=true:=by
  intro listed hsz hdown n;induction n with
  | zero=>intro i hi; omega
  | succ n ih =>
   intro i hi o ho hall k hk;obtain⟨e,hem,heb,hek⟩:=he.step i o ho k hk;have hl:=hall e hem heb;rcases hek with rfl | hek
   ·exact hl
   ·have hb:=he.back i o ho e hem heb;have hlt:i<ops.size:=(Array.getElem?_eq_some_iff.1 ho).1;have hoe:ops[e.on]?=some (ops[e.on]'(by omega)):=by simp[show e.on<ops.size by omega]
    exact ih e.on (by omega) _ hoe (fun e' hm' hb'=>hdown e.on _ hoe hl e' hm' hb') k hek
 intro fuel;induction fuel with
 | zero =>
  intro listed l pend past a w hsz hlen hs hm hdown h;have:l=[]:=List.eq_nil_of_length_eq_zero (by omega);subst this;refine⟨?_,hQ _ _ h⟩;apply List.eq_nil_iff_forall_not_mem.2;intro j hj;obtain⟨h0,o,ho,_⟩:=mem_ready.1 hj;have:=(hm j).2 ⟨(Array.getElem?_eq_some_iff.1 ho).1,h0⟩;cases this
 | succ fuel ih =>
  intro listed l pend past a w hsz hlen hs hm hdown h;refine⟨fun hr=>?_,fun i hi=>?_⟩
  ·cases l with
   | nil=>exact hQ _ _ h
   | cons i l =>
    exfalso;have him:=(hm i).1 List.mem_cons_self;have hoi:ops[i]?=some (ops[i]'him.1):=by simp[him.1]
    have:i∈Region.ready .any ops listed:=by
     refine mem_ready.2 ⟨him.2,_,hoi,fun e hem heb=>?_⟩;have hb:=he.back i _ hoi e hem heb;cases hl:listed.getD e.on false with
     | true=>rfl
     | false =>
      have hlt:e.on<listed.size:=by omega
      have h2:listed.getD e.on true=false:=by simp[hlt]at hl ⊢; exact hl
      have:=(hm e.on).2 ⟨by omega,h2⟩;rcases List.mem_cons.1 this with h3 | h3
      ·omega
      ·have:=(List.pairwise_cons.1 hs).1 _ h3;omega
    rw[hr]at this; cases this
  ·obtain⟨hun,oi,hoi,hall⟩:=mem_ready.1 hi;have hilt:i<ops.size:=(Array.getElem?_eq_some_iff.1 hoi).1;have him:i∈l:=(hm i).2 ⟨hilt,hun⟩;have hfront:=T.front he.sel hoi l him (fun k hk hlt=>by
    have hk':=(hm k).1 hk;have hok:ops[k]?=some (ops[k]'hk'.1):=by simp[hk'.1]
    have hna:anc i k=false:=by
     cases ha:anc i k with
     | false=>rfl
     | true =>
      have:=hanc listed hsz hdown (i+1) i (by omega) oi hoi hall k ha;have h2:=hk'.2;have hlt2:k<listed.size:=by omega
      simp[hlt2]at this h2;rw[this]at h2; cases h2
    exact⟨hna,_,hok,he.apart i oi k _ hoi hok hlt hna⟩) hs h
   have next:∀{pend:cW} {past:dH} {a:Act} {w:World},T P ops anc Q (l.erase i) pend past a w→wpAny P .any ops Q' fuel (listed.setIfInBounds i true) a w:=by
    intro pend past a w h;refine ih _ (l.erase i) pend past a w (by simpa using hsz) ?_ (hs.sublist List.erase_sublist) ?_ ?_ h
    ·rw[List.length_erase_of_mem him]; omega
    ·intro j;have hnd:l.Nodup:=hs.imp (fun h=>by omega);rw[hnd.mem_erase_iff,hm j];by_cases hji:j=i
     ·subst hji;simp[show j<listed.size by omega]
     ·rw[getD_set_ne true (Ne.symm hji)];simp[hji]
    ·intro j o ho hl e hem heb;by_cases hji:j=i
     ·subst hji;rw[hoi]at ho; cases ho;exact getD_set_true (hall e hem heb)
     ·rw[getD_set_ne false (Ne.symm hji)]at hl;exact getD_set_true (hdown j o ho hl e hem heb)
   rw[T.eq_def]at hfront;simp only[hoi]at hfront;unfold wpOp;simp only[hoi];split
   ·rename_i hw;simp only[hw,if_true]at hfront;refine .inl ?_;have heff:dl P (execOp a.eval oi) w fun v w'=>wpAny P .any ops Q' fuel (listed.setIfInBounds i true) (a.put oi.dst v) w':=by
     cases hc:kf P oi.op<;>simp only[hc]at hfront
     ·obtain⟨v,hv,h⟩:=hfront;unfold dl;rw[hv w]; exact next h
     ·obtain⟨v,hv,_,h⟩:=hfront;unfold dl;rw[hv]; exact next h
     ·exact hfront.2.mono fun v w' ⟨_,h⟩=>next h
    exact Oper.wp_mono (fun a' w' ⟨v,e,hv⟩=>by subst e; exact hv) (heff.wp (Q:=Q'))
   ·rename_i hw;simp only[hw]at hfront;exact next hfront
theorem p9 {id:Nat} {Q':Exit→Act→World→Prop} {a:Act} {w:World} (hm:P.follows .mixedOrders=true) (he:Edges ops anc) (hQ:∀a w,Q a w→Q' .normal a w)
  (h:T P ops anc Q (List.range ops.size) [] [] a w.drew):(Code.region id ops true).wp P Q' a w:=by
 refine wp_region_any hm (CO he hQ ops.size _ (List.range ops.size) [] [] a _ (by simp) (by simp) List.pairwise_lt_range ?_ ?_ h)
 ·intro i;simp only[List.mem_range];constructor
  ·intro hi; exact⟨hi,by simp[hi]⟩
  ·exact fun h=>h.1
 ·intro i o ho hl;have hi:i<ops.size:=(Array.getElem?_eq_some_iff.1 ho).1;simp[hi]at hl
end
end
section
section
variable {P:Program}
def eQ (P:Program) (ops:Array Oper) (i:Nat):Bool:=match ops[i]? with
 | none=>false
 | some o=>match kf P o.op with
  | .eff=>true
  | _=>false
def quietStep (P:Program) (ops:Array Oper) (anc:Nat→Nat→Bool) (past:dH) (w:World) (i:Nat) (D:cW→Act→Prop) (pend:cW) (a:Act):Prop:=match ops[i]? with
 | none=>False
 | some o=>if Region.wanted o (yielded ops a.tmps)=true then
   match kf P o.op with
   | .pure=>∃v,(∀w1,(execOp a.eval o).run P w1=.ok (.value v) w1)∧D pend (a.put o.dst v)
   | .read=>∃v,(execOp a.eval o).run P w=.ok (.value v) w∧(∀x∈past,anc i x.1=false→(execOp a.eval o).run P x.2=.ok (.value v) x.2) ∧
     D ((i,fun W=>(execOp a.eval o).run P W=.ok (.value v) W)::pend) (a.put o.dst v)
   | .eff=>False
  else D pend (a.put o.dst undef)
def Tq (P:Program) (ops:Array Oper) (anc:Nat→Nat→Bool) (past:dH) (w:World):List Nat→(cW→Act→Prop)→cW→Act→Prop
 | [],D,pend,a=>D pend a
 | i::l,D,pend,a=>quietStep P ops anc past w i (fun pend a=>Tq P ops anc past w l D pend a) pend a
def dq (P:Program) (ops:Array Oper) (anc:Nat→Nat→Bool) (i:Nat) (D:cW→dH→Act→World→Prop) (pend:cW) (past:dH) (a:Act) (w:World):Prop:=match ops[i]? with
 | none=>False
 | some o=>if Region.wanted o (yielded ops a.tmps)=true then
   dl P (execOp a.eval o) w fun v w'=>(∀q∈pend,anc i q.1=false→q.2 w')∧D pend ((i,w)::past) (a.put o.dst v) w'
  else D pend past (a.put o.dst undef) w
def W (P:Program) (ops:Array Oper) (anc:Nat→Nat→Bool) (Q:Act→World→Prop):Nat→List Nat→cW→dH→Act→World→Prop
 | 0,_,_,_,_,_=>False
 | f+1,l,pend,past,a,w =>
  if (l.all fun i=>!eQ P ops i)=true then Tq P ops anc past w l (fun _ a=>Q a w) pend a
  else ∀i∈l,eQ P ops i=true→(∀k∈l,anc i k=true→eQ P ops k=false) →
   Tq P ops anc past w (l.filter fun k=>anc i k) (fun pend a=>dq P ops anc i (fun pend past a w=>W P ops anc Q f (l.filter fun k=>!anc i k&&k !=i) pend past a w) pend past a w) pend a
variable {ops:Array Oper} {anc:Nat→Nat→Bool} {Q:Act→World→Prop}
def PM (D:cW→Act→Prop):Prop:=∀pend pend' a,(∀x∈pend',x∈pend)→D pend a→D pend' a
theorem quietStep.mono {D D':cW→Act→Prop} (h:quietStep P ops anc past w i D pend a) (hd:∀pend a,D pend a→D' pend a):quietStep P ops anc past w i D' pend a:=by
 unfold quietStep at *;cases ho:ops[i]? with
 | none=>simp[ho]at h
 | some o =>
  simp only[ho]at h ⊢;split
  ·rename_i hw;simp only[hw,if_true]at h;cases hc:kf P o.op<;>simp only[hc]at h ⊢
   ·obtain⟨v,hv,h⟩:=h; exact⟨v,hv,hd _ _ h⟩
   ·obtain⟨v,hv,hp,h⟩:=h; exact⟨v,hv,hp,hd _ _ h⟩
  ·rename_i hw;simp only[hw]at h;exact hd _ _ h
theorem quietStep.pm (hd:PM D):PM (quietStep P ops anc past w i D):=by
 intro pend pend' a hs h;unfold quietStep at *;cases ho:ops[i]? with
 | none=>simp[ho]at h
 | some o =>
  simp only[ho]at h ⊢;split
  ·rename_i hw;simp only[hw,if_true]at h;cases hc:kf P o.op<;>simp only[hc]at h ⊢
   ·obtain⟨v,hv,h⟩:=h; exact⟨v,hv,hd _ _ _ hs h⟩
   ·obtain⟨v,hv,hp,h⟩:=h;refine⟨v,hv,hp,hd _ _ _ ?_ h⟩;intro x hx;rcases List.mem_cons.1 hx with hx | hx
    ·exact List.mem_cons.2 (.inl hx)
    ·exact List.mem_cons_of_mem _ (hs x hx)
  ·rename_i hw;simp only[hw]at h;exact hd _ _ _ hs h
theorem Tq.mono:∀{l:List Nat} {D D':cW→Act→Prop} {pend:cW} {a:Act},Tq P ops anc past w l D pend a→(∀pend a,D pend a→D' pend a)→Tq P ops anc past w l D' pend a
 | [],_,_,_,_,h,hd=>hd _ _ h
 | _::_,_,_,_,_,h,hd=>quietStep.mono h fun _ _ h=>Tq.mono h hd
theorem Tq.pm:∀{l:List Nat} {D:cW→Act→Prop},PM D→PM (Tq P ops anc past w l D)
 | [],_,hd=>hd
 | _::l,_,hd=>quietStep.pm (Tq.pm (l:=l) hd)
theorem dq.mono {D D':cW→dH→Act→World→Prop} (h:dq P ops anc i D pend past a w) (hs:∀x∈pend',x∈pend) (hd:∀past a w,D pend past a w→D' pend' past a w):dq P ops anc i D' pend' past a w:=by
 unfold dq at *;cases ho:ops[i]? with
 | none=>simp[ho]at h
 | some o =>
  simp only[ho]at h ⊢;split
  ·rename_i hw;simp only[hw,if_true]at h;exact h.mono fun v w' ⟨h1,h2⟩=>⟨fun q hq=>h1 q (hs q hq),hd _ _ _ h2⟩
  ·rename_i hw;simp only[hw]at h;exact hd _ _ _ h
theorem W.pm:∀(f:Nat) {l:List Nat} {pend pend':cW} {past:dH} {a:Act} {w:World},(∀x∈pend',x∈pend)→W P ops anc Q f l pend past a w→W P ops anc Q f l pend' past a w
 | 0,_,_,_,_,_,_,_,h=>h
 | f+1,l,pend,pend',past,a,w,hs,h=>by
  rw[W]at h ⊢;split
  ·rename_i hc;rw[if_pos hc]at h;exact Tq.pm (D:=fun _ a=>Q a w) (fun _ _ _ _ h=>h) _ _ _ hs h
  ·rename_i hc;rw[if_neg hc]at h;intro i hi he hk;have hpm:PM fun pend a=>dq P ops anc i (fun pend past a w=>W P ops anc Q f (l.filter fun k=>!anc i k&&k !=i) pend past a w) pend past a w :=
    fun p p' a hs h=>dq.mono h hs fun past a w h=>W.pm f hs h
   exact Tq.pm hpm _ _ _ hs (h i hi he hk)
theorem Fv (he:∀(j:Nat) (o:Oper) cs b,ops[j]?=some o→o.op≠.select cs b) {past:dH} {w:World} {k j:Nat} (hap:∀ok oj,ops[k]?=some ok→ops[j]?=some oj→ok.apart ops oj=true) {D:cW→Act→Prop} (hd:PM D) {pend:cW} {a:Act}
  (h:quietStep P ops anc past w k (quietStep P ops anc past w j D) pend a):quietStep P ops anc past w j (quietStep P ops anc past w k D) pend a:=by
 unfold quietStep at *;cases hok:ops[k]? with
 | none=>simp[hok]at h
 | some ok =>
  cases hoj:ops[j]? with
  | none =>
   exfalso;simp only[hok,hoj]at h;split at h
   ·split at h
    ·obtain⟨_,_,h⟩:=h; exact h
    ·obtain⟨_,_,_,h⟩:=h; exact h
    ·exact h
   ·exact h
  | some oj =>
   obtain⟨a1,a2,a3⟩:=Oper.apart_spec (hap ok oj hok hoj);have hsk:=fun cs b=>he k ok cs b hok;have hsj:=fun cs b=>he j oj cs b hoj;have ej:∀v,execOp (a.put ok.dst v).eval oj=execOp a.eval oj:=fun v=>execOp_put oj hsj a ok.dst v a1;have ek:∀v,execOp (a.put oj.dst v).eval ok=execOp a.eval ok:=fun v=>execOp_put ok hsk a oj.dst v a3;have wj:∀v,Region.wanted oj (yielded ops (a.put ok.dst v).tmps)=Region.wanted oj (yielded ops a.tmps):=fun v=>wanted_put oj a ok.dst v a1;have wk:∀v,Region.wanted ok (yielded ops (a.put oj.dst v).tmps)=Region.wanted ok (yielded ops a.tmps):=fun v=>wanted_put ok a oj.dst v a3;have pc:∀v u,(a.put ok.dst v).put oj.dst u=(a.put oj.dst u).put ok.dst v:=fun v u=>Act.put_comm a v u a2;have sw:∀(x y:Nat×(World→Prop)) (p:cW),∀z∈x::y::p,z∈y::x::p:=by
    intro x y p z hz;simp only[List.mem_cons]at hz ⊢;rcases hz with h | h | h
    ·exact .inr (.inl h)
    ·exact .inl h
    ·exact .inr (.inr h)
   simp only[hok,hoj]at h ⊢;rcases Bool.eq_false_or_eq_true (Region.wanted ok (yielded ops a.tmps))with hwk | hwk<;>rcases Bool.eq_false_or_eq_true (Region.wanted oj (yielded ops a.tmps))with hwj | hwj
   ·simp only[hwk,hwj,wj,wk,if_true,ej,ek]at h ⊢;cases hck:kf P ok.op<;>cases hcj:kf P oj.op<;>simp only[hck,hcj]at h ⊢
    ·obtain⟨v,hv,u,hu,h⟩:=h;exact⟨u,hu,v,hv,by rw[←pc]; exact h⟩
    ·obtain⟨v,hv,u,hu,hp,h⟩:=h;exact⟨u,hu,hp,v,hv,by rw[←pc]; exact h⟩
    ·obtain⟨_,_,h⟩:=h; exact h
    ·obtain⟨v,hv,hp,u,hu,h⟩:=h;exact⟨u,hu,v,hv,hp,by rw[←pc]; exact h⟩
    ·obtain⟨v,hv,hp,u,hu,hq,h⟩:=h;exact⟨u,hu,hq,v,hv,hp,by rw[←pc]; exact hd _ _ _ (sw _ _ _) h⟩
    ·obtain⟨_,_,_,h⟩:=h; exact h
   ·simp only[hwk,hwj,wj,wk,if_true,ek,Bool.false_eq_true,if_false]at h ⊢;cases hck:kf P ok.op<;>simp only[hck]at h ⊢
    ·obtain⟨v,hv,h⟩:=h;exact⟨v,hv,by rw[←pc]; exact h⟩
    ·obtain⟨v,hv,hp,h⟩:=h;exact⟨v,hv,hp,by rw[←pc]; exact h⟩
   ·simp only[hwk,hwj,wj,wk,if_true,ej,Bool.false_eq_true,if_false]at h ⊢;cases hcj:kf P oj.op<;>simp only[hcj]at h ⊢
    ·obtain⟨v,hv,h⟩:=h;exact⟨v,hv,by rw[←pc]; exact h⟩
    ·obtain⟨v,hv,hp,h⟩:=h;exact⟨v,hv,hp,by rw[←pc]; exact h⟩
   ·simp only[hwk,hwj,wj,wk,Bool.false_eq_true,if_false]at h ⊢;rw[←pc]; exact h
theorem Tq.pull (he:∀(j:Nat) (o:Oper) cs b,ops[j]?=some o→o.op≠.select cs b) {past:dH} {w:World} {j:Nat}:∀{l:List Nat} {D:cW→Act→Prop} {pend:cW} {a:Act},PM D→(∀k∈l,∀ok oj,ops[k]?=some ok→ops[j]?=some oj→ok.apart ops oj=true) →
  Tq P ops anc past w l (quietStep P ops anc past w j D) pend a→quietStep P ops anc past w j (Tq P ops anc past w l D) pend a
 | [],_,_,_,_,_,h=>h
 | k::_,_,_,_,hd,hap,h=>Fv he (hap k List.mem_cons_self) (Tq.pm hd) (quietStep.mono h fun _ _ h=>Tq.pull he hd (fun k' hk'=>hap k' (List.mem_cons_of_mem _ hk')) h)
theorem Tq.front (he:∀(j:Nat) (o:Oper) cs b,ops[j]?=some o→o.op≠.select cs b) {past:dH} {w:World} {j:Nat}:∀{l:List Nat} {D:cW→Act→Prop} {pend:cW} {a:Act},PM D→j∈l→l.Pairwise (·<·)→(∀k∈l,k<j→∀ok oj,ops[k]?=some ok→ops[j]?=some oj→ok.apart ops oj=true) →
  Tq P ops anc past w l D pend a→quietStep P ops anc past w j (Tq P ops anc past w (l.erase j) D) pend a
 | [],_,_,_,_,hm,_,_,_=>by cases hm
 | k::l,D,pend,a,hd,hm,hs,hap,h=>by
  by_cases hkj:k=j
  ·subst hkj; simpa [Tq] using h
  ·have hm':j∈l:=(List.mem_cons.1 hm).resolve_left (fun e=>hkj e.symm);have hlt:k<j:=(List.pairwise_cons.1 hs).1 j hm';have e:(k::l).erase j=k::l.erase j:=by rw[List.erase_cons]; simp[hkj]
   rw[e];exact Fv he (hap k List.mem_cons_self hlt) (Tq.pm hd) (quietStep.mono h fun _ _ h=>Tq.front he hd hm' (List.pairwise_cons.1 hs).2 (fun k' hk' hl'=>hap k' (List.mem_cons_of_mem _ hk') hl') h)
theorem CP (he:∀(j:Nat) (o:Oper) cs b,ops[j]?=some o→o.op≠.select cs b) {i j:Nat} (hji:anc j i=false) (hap:∀oi oj,ops[i]?=some oi→ops[j]?=some oj→oi.apart ops oj=true) {D:cW→dH→Act→World→Prop} {pend:cW} {past:dH} {a:Act} {w:World}
  (h:dq P ops anc i (fun pend past a w=>quietStep P ops anc past w j (fun pend a=>D pend past a w) pend a) pend past a w):quietStep P ops anc past w j (fun pend a=>dq P ops anc i D pend past a w) pend a:=by
 unfold dq quietStep at *;cases hoi:ops[i]? with
 | none=>simp[hoi]at h
 | some oi =>
  cases hoj:ops[j]? with
  | none =>
   exfalso;simp only[hoi,hoj]at h;split at h
   ·obtain⟨_,_,_,h⟩:=h.some; exact h
   ·exact h
  | some oj =>
   obtain⟨a1,a2,a3⟩:=Oper.apart_spec (hap oi oj hoi hoj);have hsi:=fun cs b=>he i oi cs b hoi;have hsj:=fun cs b=>he j oj cs b hoj;have ej:∀v,execOp (a.put oi.dst v).eval oj=execOp a.eval oj:=fun v=>execOp_put oj hsj a oi.dst v a1;have ei:∀v,execOp (a.put oj.dst v).eval oi=execOp a.eval oi:=fun v=>execOp_put oi hsi a oj.dst v a3;have wj:∀v,Region.wanted oj (yielded ops (a.put oi.dst v).tmps)=Region.wanted oj (yielded ops a.tmps):=fun v=>wanted_put oj a oi.dst v a1;have wi:∀v,Region.wanted oi (yielded ops (a.put oj.dst v).tmps)=Region.wanted oi (yielded ops a.tmps):=fun v=>wanted_put oi a oj.dst v a3;have pc:∀v u,(a.put oi.dst v).put oj.dst u=(a.put oj.dst u).put oi.dst v:=fun v u=>Act.put_comm a v u a2;simp only[hoi,hoj]at h ⊢;rcases Bool.eq_false_or_eq_true (Region.wanted oi (yielded ops a.tmps))with hwi | hwi<;>rcases Bool.eq_false_or_eq_true (Region.wanted oj (yielded ops a.tmps))with hwj | hwj
   ·simp only[hwi,hwj,wj,wi,if_true,ej,ei]at h ⊢;cases hcj:kf P oj.op<;>simp only[hcj]at h ⊢
    ·obtain⟨v0,w0,_,u,hu,_⟩:=h.some;refine⟨u,hu,h.mono fun v w' ⟨h1,u',hu',h2⟩=>⟨h1,?_⟩⟩;have:u'=u:=by have e1:=hu' w; rw[hu w]at e1; injection e1 with e1; injection e1 with e1; exact e1.symm
     subst this;rw[←pc]; exact h2
    ·obtain⟨v0,w0,_,u,hu,hpu,_⟩:=h.some;have huw:=hpu _ List.mem_cons_self hji;refine⟨u,huw,fun x hx hxa=>hpu x (List.mem_cons_of_mem _ hx) hxa,h.mono fun v w' ⟨h1,u',hu',hp',h2⟩=>?_⟩;have:u'=u:=by have e1:=hp' _ List.mem_cons_self hji; rw[huw]at e1; injection e1 with e1; injection e1 with e1; exact e1.symm
     subst this;refine⟨fun q hq' hqa=>?_,by rw[←pc]; exact h2⟩;rcases List.mem_cons.1 hq' with rfl | hq'
     ·exact hu'
     ·exact h1 q hq' hqa
    ·obtain⟨_,_,_,h⟩:=h.some; exact h
   ·simp only[hwi,hwj,wj,wi,if_true,ei,Bool.false_eq_true,if_false]at h ⊢;exact h.mono fun v w' ⟨h1,h2⟩=>⟨h1,by rw[←pc]; exact h2⟩
   ·simp only[hwi,hwj,wj,wi,if_true,ej,Bool.false_eq_true,if_false]at h ⊢;cases hcj:kf P oj.op<;>simp only[hcj]at h ⊢
    ·obtain⟨v,hv,h⟩:=h;exact⟨v,hv,by rw[←pc]; exact h⟩
    ·obtain⟨v,hv,hp,h⟩:=h;exact⟨v,hv,hp,by rw[←pc]; exact h⟩
   ·simp only[hwi,hwj,wj,wi,Bool.false_eq_true,if_false]at h ⊢;rw[←pc]; exact h
theorem quietStep.all {ι:Type} [Inhabited ι] {past:dH} {w:World} {j:Nat} {p:ι→Prop} (i0:ι) (h0:p i0) {D:ι→cW→Act→Prop} {pend:cW} {a:Act} (h:∀i,p i→quietStep P ops anc past w j (D i) pend a):quietStep P ops anc past w j (fun pend a=>∀i,p i→D i pend a) pend a:=by
 have h1:=h i0 h0;unfold quietStep at *;cases ho:ops[j]? with
 | none=>simp[ho]at h1
 | some o =>
  simp only[ho]at h h1 ⊢;split
  ·rename_i hw;simp only[hw,if_true]at h h1;cases hc:kf P o.op<;>simp only[hc]at h h1 ⊢
   ·obtain⟨v,hv,_⟩:=h1;refine⟨v,hv,fun i hi=>?_⟩;obtain⟨v',hv',h'⟩:=h i hi;have:v'=v:=by have e1:=hv' w; rw[hv w]at e1; injection e1 with e1; injection e1 with e1; exact e1.symm
    subst this; exact h'
   ·obtain⟨v,hv,hp,_⟩:=h1;refine⟨v,hv,hp,fun i hi=>?_⟩;obtain⟨v',hv',_,h'⟩:=h i hi;have:v'=v:=by rw[hv]at hv'; injection hv' with e1; injection e1 with e1; exact e1.symm
    subst this; exact h'
  ·rename_i hw;simp only[hw]at h;exact fun i hi=>h i hi
end
end
section
section
variable {P:Program} {ops:Array Oper} {anc:Nat→Nat→Bool} {Q:Act→World→Prop}
theorem rT {x y:Oper} (h:x.apart ops y=true):y.apart ops x=true:=by
 obtain⟨h1,h2,h3⟩:=Oper.apart_spec h;unfold Oper.apart;simp only[Bool.and_eq_true];refine⟨?_,?_⟩
 ·cases hy:y.dst with
  | none=>rfl
  | some d =>
   simp only[Bool.and_eq_true,Bool.not_eq_true',bne_iff_ne,ne_eq];refine⟨by simpa using h3 d hy,fun e=>h2 d e hy⟩
 ·cases hx:x.dst with
  | none=>rfl
  | some d=>simpa using h1 d hx
structure ki (ops:Array Oper) (anc:Nat→Nat→Bool):Prop extends Edges ops anc where
 up:∀i o,ops[i]?=some o→∀e∈o.after,Region.binds .any e=true→anc i e.on=true∧∀k,anc e.on k=true→anc i k=true
theorem Edges.lt (he:Edges ops anc):∀n i,i<n→∀k,anc i k=true→i<ops.size→k<i:=by
 intro n;induction n with
 | zero=>intro i hi; omega
 | succ n ih =>
  intro i hi k hk hsz;have hoi:ops[i]?=some (ops[i]'hsz):=by simp[hsz]
  obtain⟨e,hem,heb,hek⟩:=he.step i _ hoi k hk;have hb:=he.back i _ hoi e hem heb;rcases hek with rfl | hek
  ·exact hb
  ·have:=ih e.on (by omega) k hek (by omega);omega
theorem ki.trans (he:ki ops anc):∀n i,i<n→∀k j,i<ops.size→anc i k=true→anc k j=true→anc i j=true:=by
 intro n;induction n with
 | zero=>intro i hi; omega
 | succ n ih =>
  intro i hi k j hsz hk hj;have hoi:ops[i]?=some (ops[i]'hsz):=by simp[hsz]
  obtain⟨e,hem,heb,hek⟩:=he.step i _ hoi k hk;have hb:=he.back i _ hoi e hem heb;have hup:=he.up i _ hoi e hem heb;rcases hek with rfl | hek
  ·exact hup.2 j hj
  ·exact hup.2 j (ih e.on (by omega) k j (by omega) hek hj)
theorem nK (he:Edges ops anc) {i j:Nat} {oi oj:Oper} (hi:ops[i]?=some oi) (hj:ops[j]?=some oj) (hne:i≠j) (h1:anc i j=false) (h2:anc j i=false):oi.apart ops oj=true:=by
 rcases Nat.lt_or_gt_of_ne hne with h | h
 ·exact he.apart j oj i oi hj hi h h2
 ·exact rT (he.apart i oi j oj hi hj h h1)
theorem nL:∀(l:List Nat),l.Pairwise (·<·)→(∃i∈l,eQ P ops i=true)→∃i∈l,eQ P ops i=true∧∀k∈l,k<i→eQ P ops k=false
 | [],_,h=>by obtain⟨_,h,_⟩:=h; cases h
 | x::l,hs,h=>by
  by_cases hx:eQ P ops x=true
  ·exact⟨x,List.mem_cons_self,hx,fun k hk hlt=>by
    rcases List.mem_cons.1 hk with rfl | hk
    ·omega
    ·have:=(List.pairwise_cons.1 hs).1 k hk; omega⟩
  ·obtain⟨i,hi,he⟩:=h;have hi':i∈l:=(List.mem_cons.1 hi).resolve_left (fun e=>hx (e▸he));obtain⟨m,hm,h1,h2⟩:=nL l (List.pairwise_cons.1 hs).2 ⟨i,hi',he⟩;refine⟨m,List.mem_cons_of_mem _ hm,h1,fun k hk hlt=>?_⟩;rcases List.mem_cons.1 hk with rfl | hk
   ·simpa using hx
   ·exact h2 k hk hlt
theorem fl {l:List Nat} (hn:l.Nodup) (p:Nat→Bool) (j:Nat):(l.erase j).filter p=(l.filter p).erase j:=by
 have hn':(l.filter p).Nodup:=List.Pairwise.filter p hn;rw[hn.erase_eq_filter,List.Nodup.erase_eq_filter hn',List.filter_filter,List.filter_filter];congr 1; funext x; exact Bool.and_comm _ _
theorem W.quiet (he:ki ops anc) {j:Nat} {oj:Oper} (hj:ops[j]?=some oj) (hq:eQ P ops j=false):∀(f:Nat) (l:List Nat) (pend:cW) (past:dH) (a:Act) (w:World),j∈l→l.Pairwise (·<·)→(∀k∈l,k<ops.size)→(∀k∈l,anc j k=false) →
  W P ops anc Q f l pend past a w→quietStep P ops anc past w j (fun pend a=>W P ops anc Q f (l.erase j) pend past a w) pend a:=by
 intro f;induction f with
 | zero=>intro l pend past a w _ _ _ _ h; exact h.elim
 | succ f ih =>
  intro l pend past a w hm hs hsz hr h;have hnd:l.Nodup:=hs.imp (fun h=>by omega);rw[W]at h;by_cases hall:(l.all fun i=>!eQ P ops i)=true
  ·rw[if_pos hall]at h;refine(Tq.front he.sel (D:=fun _ a=>Q a w) (fun _ _ _ _ h=>h) hm hs ?_ h).mono fun pend a h=>?_
   ·intro k hk hlt ok oj' hok hoj';rw[hj]at hoj'; cases hoj';exact he.apart j oj k ok hj hok hlt (hr k hk)
   ·rw[W,if_pos]
    ·exact h
    ·rw[List.all_eq_true]at hall ⊢;exact fun x hx=>hall x (List.mem_of_mem_erase hx)
  ·rw[if_neg hall]at h;have hex:∃i∈l,eQ P ops i=true:=by
    have hf:(l.all fun i=>!eQ P ops i)=false:=by simpa using hall
    rw[List.all_eq_false]at hf;obtain⟨i,hi,h⟩:=hf;exact⟨i,hi,by simpa using h⟩
   obtain⟨i0,hi0,he0,hmin⟩:=nL l hs hex;have hen0:∀k∈l,anc i0 k=true→eQ P ops k=false:=fun k hk ha=>hmin k hk (he.toEdges.lt (i0+1) i0 (by omega) k ha (hsz i0 hi0));have hall':=quietStep.all (P:=P) (ops:=ops) (anc:=anc) (past:=past) (w:=w) (j:=j) (ι:=Nat) (p:=fun i=>i∈l∧eQ P ops i=true∧∀k∈l,anc i k=true→eQ P ops k=false)
    i0 ⟨hi0,he0,hen0⟩ (D:=fun i pend a=>Tq P ops anc past w ((l.erase j).filter fun k=>anc i k) (fun pend a=>dq P ops anc i (fun pend past a w=>W P ops anc Q f ((l.erase j).filter fun k=>!anc i k&&k !=i) pend past a w) pend past a w) pend a) (pend:=pend) (a:=a) (by
    rintro i ⟨hi,hei,hen⟩;have hB:=h i hi hei hen;have hij:i≠j:=fun e=>by rw[e,hq]at hei; cases hei
    have hpm:∀R,PM fun pend a=>dq P ops anc i (fun pend past a w=>W P ops anc Q f R pend past a w) pend past a w :=
     fun R p p' a hs h=>dq.mono h hs fun past a w h=>W.pm f hs h
    by_cases haij:anc i j=true
    ·have hjF:j∈l.filter fun k=>anc i k:=List.mem_filter.2 ⟨hm,haij⟩;have hR:((l.erase j).filter fun k=>!anc i k&&k !=i)=l.filter fun k=>!anc i k&&k !=i:=by
      rw[fl hnd];exact List.erase_of_not_mem (fun hx=>by have:=(List.mem_filter.1 hx).2; simp[haij]at this)
     rw[fl hnd,hR];exact Tq.front he.sel (hpm _) hjF (hs.filter _) (fun k hk hlt ok oj' hok hoj'=>by
      rw[hj]at hoj'; cases hoj';exact he.apart j oj k ok hj hok hlt (hr k (List.mem_filter.1 hk).1)) hB
    ·have haij:anc i j=false:=by simpa using haij
     have hF:((l.erase j).filter fun k=>anc i k)=l.filter fun k=>anc i k:=by
      rw[fl hnd];exact List.erase_of_not_mem (fun hx=>by have:=(List.mem_filter.1 hx).2; simp[haij]at this)
     have hjR:j∈l.filter fun k=>!anc i k&&k !=i:=List.mem_filter.2 ⟨hm,by simp[haij,Ne.symm hij]⟩;rw[hF,fl hnd];refine Tq.pull he.sel (hpm _) (fun k hk ok oj' hok hoj'=>?_) (hB.mono fun pend a hE=>?_)
     ·have hk':=List.mem_filter.1 hk;have hkj:anc k j=false:=by
       cases hc:anc k j with
       | false=>rfl
       | true =>
        have:=he.trans (i+1) i (by omega) k j (hsz i hi) hk'.2 hc;rw[haij]at this; cases this
      have hne:k≠j:=fun e=>by rw[e]at hk'; rw[haij]at hk'; cases hk'.2
      exact nK he.toEdges hok hoj' hne hkj (by rw[hj]at hoj'; exact hr k hk'.1)
     ·refine CP he.sel (hr i hi) (fun oi oj' hoi hoj'=>nK he.toEdges hoi hoj' hij haij (hr i hi)) ?_;exact dq.mono hE (fun _ h=>h) fun past a w hW=>ih _ _ _ _ _ hjR (hs.filter _) (fun k hk=>hsz k (List.mem_filter.1 hk).1) (fun k hk=>hr k (List.mem_filter.1 hk).1) hW)
   refine hall'.mono fun pend a h=>?_;rw[W,if_neg]
   ·intro i hi hei hen;have hil:i∈l:=List.mem_of_mem_erase hi;refine h i ⟨hil,hei,fun k hk ha=>?_⟩;by_cases hkj:k=j
    ·subst hkj; exact hq
    ·exact hen k ((hnd.mem_erase_iff).2 ⟨hkj,hk⟩) ha
   ·intro hc;rw[List.all_eq_true]at hc;have:i0≠j:=fun e=>by rw[e,hq]at he0; cases he0
    have:=hc i0 ((hnd.mem_erase_iff).2 ⟨this,hi0⟩);rw[he0]at this; cases this
theorem CQ (he:ki ops anc) {Q':Exit→Act→World→Prop} (hQ:∀a w,Q a w→Q' .normal a w):∀(fuel:Nat) (listed:Array Bool) (f:Nat) (l:List Nat) (pend:cW) (past:dH) (a:Act) (w:World),
  listed.size=ops.size→l.length≤fuel→l.Pairwise (·<·)→(∀i,i∈l↔i<ops.size∧listed.getD i true=false) →
  (∀i o,ops[i]?=some o→listed.getD i false=true→∀e∈o.after,Region.binds .any e=true→listed.getD e.on false=true) →
  W P ops anc Q f l pend past a w→wpAny P .any ops Q' fuel listed a w:=by
 have hanc:∀(listed:Array Bool),listed.size=ops.size→(∀i o,ops[i]?=some o→listed.getD i false=true→∀e∈o.after,Region.binds .any e=true→listed.getD e.on false=true) →
   ∀n i,i<n→∀o,ops[i]?=some o→(∀e∈o.after,Region.binds .any e=true→listed.getD e.on false=true)→∀k,anc i k=true→listed.getD k false=true:=by
  intro listed hsz hdown n;induction n with
  | zero=>intro i hi; omega
  | succ n ih =>
   intro i hi o ho hall k hk;obtain⟨e,hem,heb,hek⟩:=he.step i o ho k hk;have hl:=hall e hem heb;rcases hek with rfl | hek
   ·exact hl
   ·have hb:=he.back i o ho e hem heb;have hlt:i<ops.size:=(Array.getElem?_eq_some_iff.1 ho).1;have hoe:ops[e.on]?=some (ops[e.on]'(by omega)):=by simp[show e.on<ops.size by omega]
    exact ih e.on (by omega) _ hoe (fun e' hm' hb'=>hdown e.on _ hoe hl e' hm' hb') k hek
 intro fuel;induction fuel with
 | zero =>
  intro listed f l pend past a w hsz hlen hs hm hdown h;have:l=[]:=List.eq_nil_of_length_eq_zero (by omega);subst this;have hq:Q a w:=by
   cases f with
   | zero=>exact h.elim
   | succ f=>rw[W,if_pos (by rfl)]at h; exact h
  refine⟨?_,hQ _ _ hq⟩;apply List.eq_nil_iff_forall_not_mem.2;intro j hj;obtain⟨h0,o,ho,_⟩:=mem_ready.1 hj;have:=(hm j).2 ⟨(Array.getElem?_eq_some_iff.1 ho).1,h0⟩;cases this
 | succ fuel ih =>
  intro listed f l pend past a w hsz hlen hs hm hdown h;refine⟨fun hr=>?_,fun i hi=>?_⟩
  ·cases l with
   | nil =>
    cases f with
    | zero=>exact h.elim
    | succ f=>rw[W,if_pos (by rfl)]at h; exact hQ _ _ h
   | cons i l =>
    exfalso;have him:=(hm i).1 List.mem_cons_self;have hoi:ops[i]?=some (ops[i]'him.1):=by simp[him.1]
    have:i∈Region.ready .any ops listed:=by
     refine mem_ready.2 ⟨him.2,_,hoi,fun e hem heb=>?_⟩;have hb:=he.back i _ hoi e hem heb;cases hl:listed.getD e.on false with
     | true=>rfl
     | false =>
      have hlt:e.on<listed.size:=by omega
      have h2:listed.getD e.on true=false:=by simp[hlt]at hl ⊢; exact hl
      have:=(hm e.on).2 ⟨by omega,h2⟩;rcases List.mem_cons.1 this with h3 | h3
      ·omega
      ·have:=(List.pairwise_cons.1 hs).1 _ h3;omega
    rw[hr]at this; cases this
  ·obtain⟨hun,oi,hoi,hall⟩:=mem_ready.1 hi;have hilt:i<ops.size:=(Array.getElem?_eq_some_iff.1 hoi).1;have him:i∈l:=(hm i).2 ⟨hilt,hun⟩;have hna:∀k∈l,anc i k=false:=by
    intro k hk;have hk':=(hm k).1 hk;cases ha:anc i k with
    | false=>rfl
    | true =>
     have:=hanc listed hsz hdown (i+1) i (by omega) oi hoi hall k ha;have h2:=hk'.2;have hlt2:k<listed.size:=by omega
     simp[hlt2]at this h2;rw[this]at h2; cases h2
   have hnd:l.Nodup:=hs.imp (fun h=>by omega);have next:∀{f:Nat} {pend:cW} {past:dH} {a:Act} {w:World},W P ops anc Q f (l.erase i) pend past a w→wpAny P .any ops Q' fuel (listed.setIfInBounds i true) a w:=by
    intro f pend past a w h;refine ih _ f (l.erase i) pend past a w (by simpa using hsz) ?_ (hs.sublist List.erase_sublist) ?_ ?_ h
    ·rw[List.length_erase_of_mem him]; omega
    ·intro j;rw[hnd.mem_erase_iff,hm j];by_cases hji:j=i
     ·subst hji;simp[show j<listed.size by omega]
     ·rw[getD_set_ne true (Ne.symm hji)];simp[hji]
    ·intro j o ho hl e hem heb;by_cases hji:j=i
     ·subst hji;rw[hoi]at ho; cases ho;exact getD_set_true (hall e hem heb)
     ·rw[getD_set_ne false (Ne.symm hji)]at hl;exact getD_set_true (hdown j o ho hl e hem heb)
   unfold wpOp;simp only[hoi];cases hei:eQ P ops i with
   | false =>
    have hq:=W.quiet he hoi hei f l pend past a w him hs (fun k hk=>((hm k).1 hk).1) hna h;unfold quietStep at hq;simp only[hoi]at hq;split
    ·rename_i hw;simp only[hw,if_true]at hq;refine .inl ?_;have heff:dl P (execOp a.eval oi) w fun v w'=>wpAny P .any ops Q' fuel (listed.setIfInBounds i true) (a.put oi.dst v) w':=by
      cases hc:kf P oi.op<;>simp only[hc]at hq
      ·obtain⟨v,hv,h⟩:=hq;unfold dl;rw[hv w]; exact next h
      ·obtain⟨v,hv,_,h⟩:=hq;unfold dl;rw[hv]; exact next h
     exact Oper.wp_mono (fun a' w' ⟨v,e,hv⟩=>by subst e; exact hv) (heff.wp (Q:=Q'))
    ·rename_i hw;simp only[hw]at hq;exact next hq
   | true =>
    cases f with
    | zero=>exact h.elim
    | succ f =>
     rw[W,if_neg (by
      intro hc;rw[List.all_eq_true]at hc;have:=hc i him;rw[hei]at this; cases this)]at h
     have hB:=h i him hei (fun k hk ha=>by rw[hna k hk]at ha; cases ha);have hF:(l.filter fun k=>anc i k)=[]:=List.filter_eq_nil_iff.2 (fun k hk=>by simp[hna k hk]);have hR:(l.filter fun k=>!anc i k&&k !=i)=l.erase i:=by
      rw[hnd.erase_eq_filter];apply List.filter_congr;intro k hk;simp[hna k hk]
     rw[hF,hR]at hB;have hB:dq P ops anc i (fun pend past a w=>W P ops anc Q f (l.erase i) pend past a w) pend past a w:=hB;unfold dq at hB;simp only[hoi]at hB;split
     ·rename_i hw;simp only[hw,if_true]at hB;refine .inl ?_;exact Oper.wp_mono (fun a' w' ⟨v,e,hv⟩=>by subst e; exact hv) ((hB.mono fun v w' ⟨_,h⟩=>next h:dl P _ w fun v w'=>wpAny P .any ops Q' fuel (listed.setIfInBounds i true) (a.put oi.dst v) w').wp (Q:=Q'))
     ·rename_i hw;simp only[hw]at hB;exact next hB
theorem qa {id:Nat} {Q':Exit→Act→World→Prop} {a:Act} {w:World} (hm:P.follows .mixedOrders=true) (he:ki ops anc) (hQ:∀a w,Q a w→Q' .normal a w) {f:Nat}
  (h:W P ops anc Q f (List.range ops.size) [] [] a w.drew):(Code.region id ops true).wp P Q' a w:=by
 refine wp_region_any hm (CQ he hQ ops.size _ f (List.range ops.size) [] [] a _ (by simp) (by simp) List.pairwise_lt_range ?_ ?_ h)
 ·intro i;simp only[List.mem_range];constructor
  ·intro hi; exact⟨hi,by simp[hi]⟩
  ·exact fun h=>h.1
 ·intro i o ho hl;have hi:i<ops.size:=(Array.getElem?_eq_some_iff.1 ho).1;simp[hi]at hl
end
end
section
def dputW (n:Nat) (d:Option Tmp) (v:AV) (e:dt) (K:dt→Prop):Prop:=match d with
 | none=>K e
 | some t=>bif Nat.blt t n then K ((t,v)::e) else False
def iC (ops:Array Oper) (o:Oper) (e:dt) (X Y:dt→Prop):Prop:=match o.guard with
 | none=>X e
 | some (j,want)=>match (ops[j]?).bind (·.dst)with
  | none=>False
  | some t=>match eget e t with
   | .unk=>False
   | .und=>Y e
   | .val v=>mBool v fun b=>tF (bif want then b else !b) (X ((t,.val (.bool want))::e)) (Y ((t,.val (.bool (!want)))::e))
def iu (P:Program) (n:Nat) (ops:Array Oper) (K:dt→World→Prop):List Oper→dt→World→Prop
 | [],e,w=>K e w
 | o::l,e,w=>iC ops o e (fun e=>opW P e o.type (fun v w'=>dputW n o.dst (.val v) e fun e'=>iu P n ops K l e' w') w o.op)
   (fun e=>dputW n o.dst .und e fun e'=>iu P n ops K l e' w)
def pastW (P:Program) (e:dt) (ty:TypeId) (op:Op) (v:Value) (m:Nat):dH→Prop→Prop
 | [],K=>K
 | (j,W)::r,K=>bif Nat.testBit m j then pastW P e ty op v m r K else mG (opW P e ty (fun v' w''=>v'=v∧w''=W) W op) (pastW P e ty op v m r K)
def pendW (m:Nat) (w':World):cW→Prop→Prop
 | [],K=>K
 | (q,ob)::r,K=>bif Nat.testBit m q then pendW m w' r K else mG (ob w') (pendW m w' r K)
def behind (m:Nat):dH→Bool
 | []=>true
 | (j,_)::r=>Nat.testBit m j&&behind m r
def nM (P:Program) (n:Nat) (ops:Array Oper) (ms:List Nat) (K:dt→World→Prop):List Oper→Nat→cW→dH→dt→World→Prop
 | [],_,_,_,e,w=>K e w
 | o::l,i,pend,past,e,w=>iC ops o e (fun e=>match kf P o.op with
   | .pure=>opW P e o.type (fun v w'=>dputW n o.dst (.val v) e fun e'=>nM P n ops ms K l (i+1) pend past e' w') w o.op
   | .read=>opW P e o.type (fun v w'=>mG (w'=w) (pastW P e o.type o.op v (ms.getD i 0) past (dputW n o.dst (.val v) e fun e' =>
     nM P n ops ms K l (i+1) ((i,fun W=>opW P e o.type (fun v' w''=>v'=v∧w''=W) W o.op)::pend) past e' w'))) w o.op
   | .eff=>bif behind (ms.getD i 0) past then opW P e o.type (fun v w'=>pendW (ms.getD i 0) w' pend (dputW n o.dst (.val v) e fun e' =>
     nM P n ops ms K l (i+1) pend ((i,w)::past) e' w')) w o.op else False)
   (fun e=>dputW n o.dst .und e fun e'=>nM P n ops ms K l (i+1) pend past e' w)
def runQ (P:Program) (n:Nat) (ops:Array Oper) (ms:List Nat) (past:dH) (w:World):List Nat→(cW→dt→Prop)→cW→dt→Prop
 | [],K,pend,e=>K pend e
 | i::l,K,pend,e=>match ops[i]? with
  | none=>False
  | some o=>iC ops o e (fun e=>match kf P o.op with
    | .pure=>opW P e o.type (fun v _=>dputW n o.dst (.val v) e fun e'=>runQ P n ops ms past w l K pend e') w o.op
    | .read=>opW P e o.type (fun v w'=>mG (w'=w) (pastW P e o.type o.op v (ms.getD i 0) past (dputW n o.dst (.val v) e fun e' =>
      runQ P n ops ms past w l K ((i,fun W=>opW P e o.type (fun v' w''=>v'=v∧w''=W) W o.op)::pend) e'))) w o.op
    | .eff=>False)
    (fun e=>dputW n o.dst .und e fun e'=>runQ P n ops ms past w l K pend e')
def xl (P:Program) (n:Nat) (ops:Array Oper) (ms:List Nat) (i:Nat) (K:cW→dH→dt→World→Prop) (pend:cW) (past:dH) (e:dt) (w:World):Prop:=match ops[i]? with
 | none=>False
 | some o=>iC ops o e (fun e=>opW P e o.type (fun v w'=>pendW (ms.getD i 0) w' pend (dputW n o.dst (.val v) e fun e'=>K pend ((i,w)::past) e' w')) w o.op)
   (fun e=>dputW n o.dst .und e fun e'=>K pend past e' w)
def Iw:List Nat→(Nat→Prop)→Prop
 | [],_=>True
 | [i],F=>F i
 | i::j::l,F=>F i∧Iw (j::l) F
def qb (P:Program) (ops:Array Oper) (ms:List Nat) (l:List Nat):List Nat:=l.filter fun i=>eQ P ops i&&l.all fun k=>!Nat.testBit (ms.getD i 0) k||!eQ P ops k
def CR (P:Program) (n:Nat) (ops:Array Oper) (ms:List Nat) (K:dt→World→Prop):Nat→List Nat→cW→dH→dt→World→Prop
 | 0,_,_,_,_,_=>False
 | f+1,l,pend,past,e,w=>bif l.all fun i=>!eQ P ops i then runQ P n ops ms past w l (fun _ e=>K e w) pend e
   else Iw (qb P ops ms l) fun i=>runQ P n ops ms past w (l.filter fun k=>Nat.testBit (ms.getD i 0) k)
    (fun pend e=>xl P n ops ms i (fun pend past e w=>CR P n ops ms K f (l.filter fun k=>!Nat.testBit (ms.getD i 0) k&&k !=i) pend past e w) pend past e w) pend e
def xm (ms:List Nat):List Nat→Bool
 | []=>true
 | k::l=>(l.all fun i=>Nat.testBit (ms.getD i 0) k)&&xm ms l
def Qk (P:Program) (ops:Array Oper):Bool:=xm (ir ops.toList) ((List.range ops.size).filter fun i=>eQ P ops i)
def backB:List Oper→Nat→Bool
 | [],_=>true
 | o::l,i=>(o.after.toList.all fun e=>!Region.binds .any e||Nat.blt e.on i)&&backB l (i+1)
def apartB (ops:Array Oper) (ms:List Nat):Bool:=(List.range ops.size).all fun i=>(List.range i).all fun k =>
 Nat.testBit (ms.getD i 0) k||match ops[i]?,ops[k]? with
  | some oi,some ok=>ok.apart ops oi
  | _,_=>true
def edgesB (ops:Array Oper):Bool:=Region.noSelect ops&&backB ops.toList 0&&apartB ops (ir ops.toList)
def dsts:List Oper→List Nat
 | []=>[]
 | o::l=>match o.dst with
  | none=>dsts l
  | some t=>t::dsts l
def gd:Code→List Nat
 | .region _ ops _=>dsts ops.toList
 | .seq a b=>gd a++gd b
 | .cond _ a b=>gd a++gd b
 | .block _ a=>gd a
 | .loop a=>gd a
 | _=>[]
def cU:Code→Nat
 | .region id _ _=>id
 | .seq a _=>cU a
 | .cond _ a _=>cU a
 | .block _ a=>cU a
 | .loop a=>cU a
 | _=>0
def Ix:Nat→Type
 | 0=>World→Prop
 | k+1=>Value→Ix k
def Iy:Nat→Type
 | 0=>World→Nat
 | k+1=>Value→Iy k
def xp:(k:Nat)→Ix k→List Value→World→Prop
 | 0,f,_,w=>f w
 | _+1,_,[],_=>False
 | k+1,f,v::vs,w=>xp k (f v) vs w
def CS:(k:Nat)→Iy k→List Value→World→Nat
 | 0,f,_,w=>f w
 | _+1,_,[],_=>0
 | k+1,f,v::vs,w=>CS k (f v) vs w
def Iz:Nat→(List Value→Prop)→Prop
 | 0,F=>F []
 | k+1,F=>∀v:Value,Iz k fun vs=>F (v::vs)
def egets (e:dt):List Nat→Option (List Value)
 | []=>some []
 | t::l=>match (eget e t).opt with
  | none=>none
  | some v=>match egets e l with
   | none=>none
   | some vs=>some (v::vs)
def headE (st:List Nat) (vs:List Value) (ms:List Nat) (e:dt):dt:=match st,vs with
 | t::st,v::vs=>(t,.val v)::headE st vs ms e
 | _,_=>forget ms e
where forget:List Nat→dt→dt
 | [],e=>e
 | t::ms,e=>(t,.unk)::forget ms e
def memB:List Nat→Nat→Bool
 | [],_=>false
 | t'::l,t=>Nat.beq t' t||memB l t
def subB:List Nat→List Nat→Bool
 | [],_=>true
 | t::l,ms=>memB ms t&&subB l ms
structure KK where
 nx:dt→World→Prop
 ret:dt→World→Prop
 ex:Nat→dt→World→Prop
def oO:List (Nat×List Nat)→Nat→List Nat
 | [],_=>[]
 | (j,l)::r,i=>bif Nat.beq j i then l else oO r i
def vc (P:Program) (n:Nat) (hs:List (Nat×List Nat)):Code→KK→dt→World→Prop
 | .skip,k,e,w=>k.nx e w
 | .label _,k,e,w=>k.nx e w
 | .region _ ops d,k,e,w=>bif d then(bif P.follows .mixedOrders&&edgesB ops then(bif Qk P ops then nM P n ops (ir ops.toList) k.nx ops.toList 0 [] [] e w.drew else CR P n ops (ir ops.toList) k.nx (ops.size+1) (List.range ops.size) [] [] e w.drew) else False) else iu P n ops k.nx ops.toList e w
 | .seq a b,k,e,w=>vc P n hs a { nx:=fun e w=>vc P n hs b k e w,ret:=k.ret,ex:=k.ex } e w
 | .cond c x y,k,e,w=>mO (oev e c) fun c=>mBool c fun b=>tF b (vc P n hs x k e w) (vc P n hs y k e w)
 | .block id c,k,e,w=>vc P n hs c { nx:=k.nx,ret:=k.ret,ex:=fun i e w=>bif Nat.beq i id then k.nx e w else k.ex i e w } e w
 | .loop body,k,e,w=>bif subB (oO hs (cU body)) (gd body) then mO (egets e (oO hs (cU body))) fun vs0 =>
   ∃(I:Ix (oO hs (cU body)).length) (μ:Iy (oO hs (cU body)).length),xp _ I vs0 w ∧
    Iz (oO hs (cU body)).length fun vs=>∀w:World,xp _ I vs w →
     vc P n hs body { nx:=fun e' w'=>mO (egets e' (oO hs (cU body))) fun vs'=>xp _ I vs' w'∧CS _ μ vs' w'<CS _ μ vs w,ret:=k.ret,ex:=k.ex }
      (headE (oO hs (cU body)) vs (gd body) e) w
   else False
 | .exit id,k,e,w=>k.ex id e w
 | .ret,k,e,w=>k.ret e w
 | _,_,_,_=>False
def oP (P:Program):List ResultVar→dt→World→(List Value→Prop)→Prop
 | [],_,_,K=>K []
 | .tmp t::l,e,w,K=>mO (eget e t).opt fun v=>oP P l e w fun vs=>K (v::vs)
 | .cell t ty::l,e,w,K=>mO (eget e t).opt fun p=>mO (wV P ty) fun s=>mPtr p fun a=>match s with
  | none=>mO (w.cell? a) fun v=>oP P l e w fun vs=>K (v::vs)
  | some n=>mO (cellsAt w a 0 n) fun cs=>oP P l e w fun vs=>K (.agg cs.toArray::vs)
def retV:List Value→Value
 | [v]=>v
 | vs=>.tuple vs.toArray
def env0:List Value→Nat→dt
 | [],_=>[]
 | v::vs,i=>(i,.val v)::env0 vs (i+1)
def Mz (P:Program) (fn:Func) (hs:List (Nat×List Nat)) (c:Code) (args:List Value) (w:World) (Q:Value→World→Prop):Prop :=
 vc P fn.ntmps hs c { nx:=fun e w=>oP P fn.results.toList e w fun vs=>Q (retV vs) w,ret:=fun e w=>oP P fn.results.toList e w fun vs=>Q (retV vs) w,ex:=fun _ _ _=>False } (env0 args 0) w
end
section
def cZ (n:Nat) (e:dt) (a:Act):Prop:=eK e a∧a.tmps.size=n∧a.defers=[]
def iD (M:List Nat) (e e':dt):Prop:=∀t,t∉M→eget e' t=eget e t
theorem iD.refl (M:List Nat) (e:dt):iD M e e:=fun _ _=>rfl
theorem iD.trans (h:iD M e e') (h':iD M e' e''):iD M e e'':=fun t ht=>(h' t ht).trans (h t ht)
theorem iD.mono (h:iD M e e') (hm:∀t∈M,t∈M'):iD M' e e':=fun t ht=>h t fun hh=>ht (hm t hh)
theorem eget_cons (t':Nat) (v:AV) (e:dt) (t:Nat):eget ((t',v)::e) t=if t'=t then v else eget e t:=by
 simp only[eget,cond_eq_ite];by_cases h:t'=t<;>simp[h]
theorem iD.cons (ht:t∈M):iD M e ((t,v)::e):=fun t' ht'=>by
 rw[eget_cons];rw[if_neg (fun h:t=t'=>ht' (h▸ht))]
def AV.fits (v:AV) (u:Value):Prop:=match v with
 | .unk=>True
 | .und=>u=undef
 | .val x=>u=x
theorem eK.put (h:eK e a) {t:Nat} (ht:t<a.tmps.size) {v:AV} {u:Value} (hv:v.fits u):eK ((t,v)::e) (a.put (some t) u):=by
 intro t';rw[eget_cons];by_cases he:t=t'
 ·subst he;simp only[if_true];have:(a.put (some t) u).tmps.getD t undef=u:=by simp[Act.put,ht]
  cases v<;>simp only[AV.fits]at hv<;>simp only[this]<;>first | trivial | exact hv
 ·simp only[he,if_false];have:=h t';have hg:(a.put (some t) u).tmps.getD t' undef=a.tmps.getD t' undef:=by simp[Act.put,Array.getElem?_setIfInBounds_ne he]
  rw[hg]; exact this
theorem cZ.dput (h:cZ n e a) {d:Option Tmp} {v:AV} {u:Value} (hv:v.fits u) {K:dt→Prop} {M:List Nat} (hd:∀t,d=some t→t∈M) (hk:dputW n d v e K) :
  ∃e',cZ n e' (a.put d u)∧iD M e e'∧K e':=by
 cases d with
 | none=>exact⟨e,h,.refl _ _,hk⟩
 | some t =>
  simp only[dputW,cond_eq_ite]at hk;split at hk
  ·rename_i hlt;have hlt:t<n:=by simpa [Nat.blt_eq] using hlt
   refine⟨_,⟨h.1.put (by rw[h.2.1]; exact hlt) hv,by simp[Act.put,h.2.1],h.2.2⟩,.cons (hd t rfl),hk⟩
  ·exact hk.elim
theorem rU {a:Act} (hj:(ops[j]?).bind (·.dst)=some t):yielded ops a.tmps j=match a.tmps.getD t undef with
  | .bool b=>some b
  | _=>none:=by
 unfold yielded;rw[hj];simp only[Option.bind_some];cases ht:a.tmps[t]? with
 | none=>simp[ht,undef]
 | some v=>simp[ht]; cases v<;>rfl
theorem gl {X Y:dt→Prop} (ag:cZ n e a) (hM:∀(j:Nat) (o':Oper) (t:Nat),ops[j]?=some o'→o'.dst=some t→t∈M) (h:iC ops o e X Y) :
  (Region.wanted o (yielded ops a.tmps)=true∧∃e',cZ n e' a∧iD M e e'∧X e')∨(Region.wanted o (yielded ops a.tmps)=false∧∃e',cZ n e' a∧iD M e e'∧Y e'):=by
 unfold iC at h;split at h
 ·rename_i hg;exact .inl ⟨by simp[Region.wanted,hg],e,ag,.refl _ _,h⟩
 ·rename_i j want hg;split at h
  ·exact h.elim
  ·rename_i t ht;have htM:t∈M:=by
    cases hj:ops[j]? with
    | none=>simp[hj]at ht
    | some o'=>rw[hj]at ht; exact hM j o' t hj (by simpa using ht)
   have hy:=rU (a:=a) ht;have hag:=ag.1 t;split at h
   ·exact h.elim
   ·rename_i hu;rw[hu]at hag;simp only[]at hag;rw[hag]at hy;simp only[undef]at hy;exact .inr ⟨by simp[Region.wanted,hg,hy],e,ag,.refl _ _,h⟩
   ·rename_i v hv;rw[hv]at hag;simp only[]at hag;replace h:=d4 h; obtain⟨b,rfl,h⟩:=h;rw[hag]at hy;simp only[]at hy;have key:∀c:Bool,c=b→eK ((t,.val (.bool c))::e) a:=by
     intro c hc t';rw[eget_cons];by_cases he:t=t'
     ·subst he; subst hc; simp only[if_true]; exact hag
     ·simp only[he,if_false]; exact ag.1 t'
    unfold tF at h;by_cases hb:b=want
    ·subst hb;have:(bif b then b else !b)=true:=by cases b<;>rfl
     rw[this]at h;exact .inl ⟨by simp[Region.wanted,hg,hy],_,⟨key _ rfl,ag.2⟩,.cons htM,h⟩
    ·have:(bif want then b else !b)=false:=by cases b<;>cases want<;>first | rfl | exact absurd rfl hb
     rw[this]at h;have hnb:(!want)=b:=by cases b<;>cases want<;>first | rfl | exact absurd rfl hb
     exact .inr ⟨by simp[Region.wanted,hg,hy,hb],_,⟨key _ hnb,ag.2⟩,.cons htM,h⟩
theorem lG:∀{l:List Oper} {o:Oper} {t:Nat},o∈l→o.dst=some t→t∈dsts l
 | [],_,_,h,_=>by cases h
 | o'::l,o,t,h,ht=>by
  rcases List.mem_cons.1 h with rfl | h
  ·simp[dsts,ht]
  ·have:=lG h ht;unfold dsts;split
   ·exact this
   ·exact List.mem_cons_of_mem _ this
section
variable {P:Program} {n:Nat}
theorem jo {K:dt→World→Prop} {Q:Exit→Act→World→Prop} (hM:∀(j:Nat) (o':Oper) (t:Nat),ops[j]?=some o'→o'.dst=some t→t∈M) {e0:dt}
  (hQ:∀e a w,cZ n e a→iD M e0 e→K e w→Q .normal a w):∀(l:List Oper) (e:dt) (a:Act) (w:World),(∀o∈l,∀t,o.dst=some t→t∈M)→cZ n e a→iD M e0 e→iu P n ops K l e w→wpList P ops Q l a w
 | [],e,a,w,_,ag,hx,h=>hQ e a w ag hx h
 | o::l,e,a,w,hl,ag,hx,h=>by
  have hd:=hl o List.mem_cons_self;have hl':∀o∈l,∀t,o.dst=some t→t∈M:=fun o ho=>hl o (List.mem_cons_of_mem _ ho);unfold wpList;rcases gl ag hM h with⟨hw,e',ag',hx',h⟩ | ⟨hw,e',ag',hx',h⟩
  ·rw[if_pos hw];refine .inl (Oper.wp_mono ?_ ((oN ag'.1 h).wp (Q:=Q)));rintro a' w' ⟨v,rfl,hk⟩;obtain⟨e2,ag2,hx2,hk⟩:=ag'.dput (v:=.val v) (u:=v) rfl hd hk;exact jo hM hQ l e2 _ w' hl' ag2 ((hx.trans hx').trans hx2) hk
  ·rw[if_neg (by simp[hw])];obtain⟨e2,ag2,hx2,hk⟩:=ag'.dput (v:=.und) (u:=undef) rfl hd h;exact jo hM hQ l e2 _ w hl' ag2 ((hx.trans hx').trans hx2) hk
theorem jC (h:kf P op=.pure):pureOp P op=true:=by
 unfold kf at h; cases hp:pureOp P op
 ·simp[hp]at h; cases hr:readOp op<;>simp[hr]at h
 ·rfl
theorem jc (h:pureOp P op=true):valOp op=true:=by
 cases op<;>simp[pureOp]at h<;>simp[valOp];rename_i c;cases hc:c.callee<;>simp[hc]at h ⊢
theorem jD (h:kf P op=.read):readOp op=true:=by
 unfold kf at h; cases hp:pureOp P op
 ·simp[hp]at h; cases hr:readOp op
  ·simp[hr]at h
  ·rfl
 ·simp[hp]at h
theorem fo (h:readOp op=true):valOp op=true:=by
 cases op<;>simp[readOp]at h<;>simp[valOp];rename_i c;cases hc:c.callee<;>simp[hc]at h ⊢
theorem gU {ty:TypeId}:∀{past:dH},pastW P e ty op v m past K→(∀x∈past,Nat.testBit m x.1=false→opW P e ty (fun v' w''=>v'=v∧w''=x.2) x.2 op)∧K
 | [],h=>⟨fun _ hx=>(by cases hx),h⟩
 | (j,W)::r,h=>by
  simp only[pastW,cond_eq_ite]at h;split at h
  ·rename_i hb;obtain⟨h1,h2⟩:=gU h;refine⟨fun x hx hxb=>?_,h2⟩;rcases List.mem_cons.1 hx with hx | hx
   ·subst hx; rw[hb]at hxb; cases hxb
   ·exact h1 x hx hxb
  ·obtain⟨h1,h2⟩:=gU h.2;refine⟨fun x hx hxb=>?_,h2⟩;rcases List.mem_cons.1 hx with rfl | hx
   ·exact h.1
   ·exact h1 x hx hxb
theorem gV:∀{pend:cW},pendW m w' pend K→(∀q∈pend,Nat.testBit m q.1=false→q.2 w')∧K
 | [],h=>⟨fun _ hx=>(by cases hx),h⟩
 | (j,W)::r,h=>by
  simp only[pendW,cond_eq_ite]at h;split at h
  ·rename_i hb;obtain⟨h1,h2⟩:=gV h;refine⟨fun x hx hxb=>?_,h2⟩;rcases List.mem_cons.1 hx with hx | hx
   ·subst hx; rw[hb]at hxb; cases hxb
   ·exact h1 x hx hxb
  ·obtain⟨h1,h2⟩:=gV h.2;refine⟨fun x hx hxb=>?_,h2⟩;rcases List.mem_cons.1 hx with rfl | hx
   ·exact h.1
   ·exact h1 x hx hxb
theorem kR:∀{past:dH},behind m past=true→∀x∈past,Nat.testBit m x.1=true
 | [],_,_,hx=>by cases hx
 | (j,W)::r,h,x,hx=>by
  simp only[behind,Bool.and_eq_true]at h;rcases List.mem_cons.1 hx with rfl | hx
  ·exact h.1
  ·exact kR h.2 x hx
def lH (pend pend':cW):Prop:=∀q∈pend',∃ob,(q.1,ob)∈pend∧∀W,ob W→q.2 W
theorem jE {K:dt→World→Prop} {Q:Act→World→Prop} (hM:∀(j:Nat) (o':Oper) (t:Nat),ops[j]?=some o'→o'.dst=some t→t∈M) {e0:dt}
  (hQ:∀e a w,cZ n e a→iD M e0 e→K e w→Q a w):∀(l:List Oper) (i:Nat) (pend pend':cW) (past:dH) (e:dt) (a:Act) (w:World),(∀j,l[j]?=ops[i+j]?)→cZ n e a→iD M e0 e→lH pend pend' →
  nM P n ops ms K l i pend past e w→T P ops (fun i k=>Nat.testBit (ms.getD i 0) k) Q (List.range' i l.length) pend' past a w
 | [],i,pend,pend',past,e,a,w,_,ag,hx,_,h=>hQ e a w ag hx h
 | o::l,i,pend,pend',past,e,a,w,hl,ag,hx,hp,h=>by
  have h0:ops[i]?=some o:=by simpa using (hl 0).symm
  have hd:∀t,o.dst=some t→t∈M:=fun t ht=>hM i o t h0 ht;have hl':∀j,l[j]?=ops[i+1+j]?:=fun j=>by have:=hl (j+1); simpa [Nat.add_assoc,Nat.add_comm 1 j] using this
  simp only[List.length_cons,List.range'_succ,T,h0];rcases gl ag hM h with⟨hw,e',ag',hx',h⟩ | ⟨hw,e',ag',hx',h⟩
  ·rw[if_pos hw];cases hc:kf P o.op
   ·simp only[hc]at h;obtain⟨v,w',hr,hk,hall⟩:=gT ag'.1 (jc (jC hc)) h;obtain⟨hall',rfl⟩:=hall (jC hc);obtain⟨e2,ag2,hx2,hk⟩:=ag'.dput (v:=.val v) (u:=v) rfl hd hk;exact⟨v,hall',jE hM hQ l (i+1) pend pend' past e2 _ _ hl' ag2 ((hx.trans hx').trans hx2) hp hk⟩
   ·simp only[hc]at h;obtain⟨v,w',hr,⟨rfl,hk⟩,_⟩:=gT ag'.1 (fo (jD hc)) h;obtain⟨hpast,hk⟩:=gU hk;obtain⟨e2,ag2,hx2,hk⟩:=ag'.dput (v:=.val v) (u:=v) rfl hd hk;have conv:∀W,opW P e' o.type (fun v' w''=>v'=v∧w''=W) W o.op→(execOp a.eval o).run P W=.ok (.value v) W:=by
     intro W hW;obtain⟨v',w'',hr',⟨rfl,rfl⟩,_⟩:=gT ag'.1 (fo (jD hc)) hW;exact hr'
    refine⟨v,hr,fun x hx hxa=>conv _ (hpast x hx hxa),jE hM hQ l (i+1) _ _ past e2 _ _ hl' ag2 ((hx.trans hx').trans hx2) ?_ hk⟩;intro q hq;rcases List.mem_cons.1 hq with rfl | hq
    ·exact⟨_,List.mem_cons_self,conv⟩
    ·obtain⟨ob,h1,h2⟩:=hp q hq;exact⟨ob,List.mem_cons_of_mem _ h1,h2⟩
   ·simp only[hc,cond_eq_ite]at h;split at h
    ·rename_i hb;refine⟨kR hb,(oN ag'.1 h).mono fun v w' hk=>?_⟩;obtain⟨hpend,hk⟩:=gV hk;obtain⟨e2,ag2,hx2,hk⟩:=ag'.dput (v:=.val v) (u:=v) rfl hd hk;refine⟨fun q hq hqa=>?_,jE hM hQ l (i+1) pend pend' _ e2 _ _ hl' ag2 ((hx.trans hx').trans hx2) hp hk⟩;obtain⟨ob,h1,h2⟩:=hp q hq;exact h2 _ (hpend _ h1 hqa)
    ·exact h.elim
  ·rw[if_neg (by simp[hw])];obtain⟨e2,ag2,hx2,hk⟩:=ag'.dput (v:=.und) (u:=undef) rfl hd h;exact jE hM hQ l (i+1) pend pend' past e2 _ _ hl' ag2 ((hx.trans hx').trans hx2) hp hk
theorem jF (hM:∀(j:Nat) (o':Oper) (t:Nat),ops[j]?=some o'→o'.dst=some t→t∈M) {e0:dt}:∀(l:List Nat) {K:cW→dt→Prop} {D:cW→Act→Prop} {pend pend':cW} {e:dt} {a:Act},
  (∀pend pend' e a,cZ n e a→iD M e0 e→lH pend pend'→K pend e→D pend' a)→cZ n e a→iD M e0 e→lH pend pend'→runQ P n ops ms past w l K pend e→Tq P ops (fun i k=>Nat.testBit (ms.getD i 0) k) past w l D pend' a
 | [],K,D,pend,pend',e,a,hK,ag,hx,hp,h=>hK _ _ _ _ ag hx hp h
 | i::l,K,D,pend,pend',e,a,hK,ag,hx,hp,h=>by
  simp only[runQ]at h;simp only[Tq,quietStep];cases ho:ops[i]? with
  | none=>simp[ho]at h
  | some o =>
   simp only[ho]at h ⊢;have hd:∀t,o.dst=some t→t∈M:=fun t ht=>hM i o t ho ht;rcases gl ag hM h with⟨hw,e',ag',hx',h⟩ | ⟨hw,e',ag',hx',h⟩
   ·rw[if_pos hw];cases hc:kf P o.op
    ·simp only[hc]at h ⊢;obtain⟨v,w',hr,hk,hall⟩:=gT ag'.1 (jc (jC hc)) h;obtain⟨hall',rfl⟩:=hall (jC hc);obtain⟨e2,ag2,hx2,hk⟩:=ag'.dput (v:=.val v) (u:=v) rfl hd hk;exact⟨v,hall',jF hM l hK ag2 ((hx.trans hx').trans hx2) hp hk⟩
    ·simp only[hc]at h ⊢;obtain⟨v,w',hr,⟨rfl,hk⟩,_⟩:=gT ag'.1 (fo (jD hc)) h;obtain⟨hpast,hk⟩:=gU hk;obtain⟨e2,ag2,hx2,hk⟩:=ag'.dput (v:=.val v) (u:=v) rfl hd hk;have conv:∀W,opW P e' o.type (fun v' w''=>v'=v∧w''=W) W o.op→(execOp a.eval o).run P W=.ok (.value v) W:=by
      intro W hW;obtain⟨v',w'',hr',⟨rfl,rfl⟩,_⟩:=gT ag'.1 (fo (jD hc)) hW;exact hr'
     refine⟨v,hr,fun x hx hxa=>conv _ (hpast x hx hxa),jF hM l hK ag2 ((hx.trans hx').trans hx2) ?_ hk⟩;intro q hq;rcases List.mem_cons.1 hq with rfl | hq
     ·exact⟨_,List.mem_cons_self,conv⟩
     ·obtain⟨ob,h1,h2⟩:=hp q hq;exact⟨ob,List.mem_cons_of_mem _ h1,h2⟩
    ·simp only[hc]at h
   ·rw[if_neg (by simp[hw])];obtain⟨e2,ag2,hx2,hk⟩:=ag'.dput (v:=.und) (u:=undef) rfl hd h;exact jF hM l hK ag2 ((hx.trans hx').trans hx2) hp hk
theorem vb (hM:∀(j:Nat) (o':Oper) (t:Nat),ops[j]?=some o'→o'.dst=some t→t∈M) {e0:dt} {i:Nat} {K:cW→dH→dt→World→Prop} {D:cW→dH→Act→World→Prop} {pend pend':cW} {past:dH} {e:dt} {a:Act} {w:World}
  (hK:∀past e a w,cZ n e a→iD M e0 e→K pend past e w→D pend' past a w) (ag:cZ n e a) (hx:iD M e0 e) (hp:lH pend pend') (h:xl P n ops ms i K pend past e w):dq P ops (fun i k=>Nat.testBit (ms.getD i 0) k) i D pend' past a w:=by
 unfold xl at h;unfold dq;cases ho:ops[i]? with
 | none=>simp[ho]at h
 | some o =>
  simp only[ho]at h ⊢;have hd:∀t,o.dst=some t→t∈M:=fun t ht=>hM i o t ho ht;rcases gl ag hM h with⟨hw,e',ag',hx',h⟩ | ⟨hw,e',ag',hx',h⟩
  ·rw[if_pos hw];refine(oN ag'.1 h).mono fun v w' hk=>?_;obtain⟨hpend,hk⟩:=gV hk;obtain⟨e2,ag2,hx2,hk⟩:=ag'.dput (v:=.val v) (u:=v) rfl hd hk;refine⟨fun q hq hqa=>?_,hK _ _ _ _ ag2 ((hx.trans hx').trans hx2) hk⟩;obtain⟨ob,h1,h2⟩:=hp q hq;exact h2 _ (hpend _ h1 hqa)
  ·rw[if_neg (by simp[hw])];obtain⟨e2,ag2,hx2,hk⟩:=ag'.dput (v:=.und) (u:=undef) rfl hd h;exact hK _ _ _ _ ag2 ((hx.trans hx').trans hx2) hk
theorem nN:∀{l:List Nat} {F:Nat→Prop},Iw l F→∀i∈l,F i
 | [],_,_,_,hi=>by cases hi
 | [j],F,h,i,hi=>by simp at hi; subst hi; exact h
 | j::k::l,F,h,i,hi=>by
  rcases List.mem_cons.1 hi with rfl | hi
  ·exact h.1
  ·exact nN h.2 i hi
theorem xq {K:dt→World→Prop} {Q:Act→World→Prop} (hM:∀(j:Nat) (o':Oper) (t:Nat),ops[j]?=some o'→o'.dst=some t→t∈M) {e0:dt}
  (hQ:∀e a w,cZ n e a→iD M e0 e→K e w→Q a w):∀(f:Nat) (l:List Nat) (pend pend':cW) (past:dH) (e:dt) (a:Act) (w:World),cZ n e a→iD M e0 e→lH pend pend' →
  CR P n ops ms K f l pend past e w→W P ops (fun i k=>Nat.testBit (ms.getD i 0) k) Q f l pend' past a w
 | 0,_,_,_,_,_,_,_,_,_,_,h=>h
 | f+1,l,pend,pend',past,e,a,w,ag,hx,hp,h=>by
  rw[CR,cond_eq_ite]at h;rw[W];split
  ·rename_i hc;rw[if_pos hc]at h;exact jF hM l (fun _ _ e a ag hx _ hk=>hQ e a w ag hx hk) ag hx hp h
  ·rename_i hc;rw[if_neg hc]at h;intro i hi hei hen;have hie:i∈qb P ops ms l:=by
    refine List.mem_filter.2 ⟨hi,?_⟩;rw[hei,Bool.true_and,List.all_eq_true];intro k hk;cases hb:Nat.testBit (ms.getD i 0) k with
    | false=>rfl
    | true=>rw[hen k hk hb]; rfl
   refine jF hM _ (fun p p' e a ag hx hp hk=>?_) ag hx hp (nN h i hie);exact vb hM (fun past e a w ag hx hk=>xq hM hQ f _ _ _ _ e a w ag hx hp hk) ag hx hp hk
end
end
section
def gW (o:Oper) (acc:List Nat):Nat:=o.after.toList.foldl (fun s e=>bif Region.binds .any e then s |||2^e.on |||acc.getD e.on 0 else s) 0
theorem iE:∀(l:List Oper) (acc:List Nat),acc <+:ir.go l acc
 | [],_=>List.prefix_refl _
 | _::l,_=>(List.prefix_append _ _).trans (iE l _)
theorem lJ:∀(l:List Oper) (acc:List Nat) (i:Nat) (o:Oper),l[i]?=some o→∃acc',acc'.length=acc.length+i∧acc' <+:ir.go l acc∧(ir.go l acc)[acc.length+i]?=some (gW o acc')
 | [],_,_,_,h=>by simp at h
 | o'::l,acc,0,o,h=>by
  simp at h; subst h;refine⟨acc,rfl,iE _ _,?_⟩;have hp:=iE l (acc++[gW o' acc]);obtain⟨r,hr⟩:=hp;show(ir.go l (acc++[gW o' acc]))[acc.length+0]?=_;rw[←hr]; simp
 | o'::l,acc,i+1,o,h=>by
  obtain⟨acc',h1,h2,h3⟩:=lJ l (acc++[gW o' acc]) i o (by simpa using h);refine⟨acc',by simp at h1; omega,h2,?_⟩;have:acc.length+(i+1)=(acc++[gW o' acc]).length+i:=by simp; omega
  rw[this]; exact h3
theorem nO (acc:List Nat) (k:Nat):∀(es:List Edge) (s:Nat),Nat.testBit (es.foldl (fun s e=>bif Region.binds .any e then s |||2^e.on |||acc.getD e.on 0 else s) s) k=true →
  Nat.testBit s k=true∨∃e∈es,Region.binds .any e=true∧(e.on=k∨Nat.testBit (acc.getD e.on 0) k=true)
 | [],s,h=>.inl h
 | e::es,s,h=>by
  simp only[List.foldl_cons]at h;rcases nO acc k es _ h with h | ⟨e',h1,h2,h3⟩
  ·cases hb:Region.binds .any e
   ·simp only[hb,cond_false]at h; exact .inl h
   ·simp only[hb,cond_true,Nat.testBit_or,Bool.or_eq_true]at h;rcases h with(h | h) | h
    ·exact .inl h
    ·refine .inr ⟨e,List.mem_cons_self,hb,.inl ?_⟩;rw[Nat.testBit_two_pow]at h;simpa using h
    ·exact .inr ⟨e,List.mem_cons_self,hb,.inr h⟩
  ·exact .inr ⟨e',List.mem_cons_of_mem _ h1,h2,h3⟩
theorem gX:∀{l:List Oper} {i:Nat},backB l i=true→∀j o,l[j]?=some o→∀e∈o.after,Region.binds .any e=true→e.on<i+j
 | [],_,_,j,o,h,_,_,_=>by simp at h
 | o'::l,i,hb,0,o,h,e,he,hbd=>by
  simp at h; subst h;simp only[backB,Bool.and_eq_true,List.all_eq_true]at hb;have:=hb.1 e (by simpa using he);simp[hbd]at this;omega
 | o'::l,i,hb,j+1,o,h,e,he,hbd=>by
  simp only[backB,Bool.and_eq_true]at hb;have:=gX hb.2 j o (by simpa using h) e he hbd;omega
theorem lK (acc:List Nat) (k:Nat):∀(es:List Edge) (s:Nat),Nat.testBit s k=true→Nat.testBit (es.foldl (fun s e=>bif Region.binds .any e then s |||2^e.on |||acc.getD e.on 0 else s) s) k=true
 | [],s,h=>h
 | e::es,s,h=>by
  simp only[List.foldl_cons];refine lK acc k es _ ?_;cases Region.binds .any e
  ·exact h
  ·simp[h]
theorem lL (acc:List Nat) (k:Nat):∀(es:List Edge) (s:Nat) (e:Edge),e∈es→Region.binds .any e=true→(e.on=k∨Nat.testBit (acc.getD e.on 0) k=true) →
  Nat.testBit (es.foldl (fun s e=>bif Region.binds .any e then s |||2^e.on |||acc.getD e.on 0 else s) s) k=true
 | [],_,_,h,_,_=>by cases h
 | e'::es,s,e,h,hb,hk=>by
  simp only[List.foldl_cons];rcases List.mem_cons.1 h with rfl | h
  ·refine lK acc k es _ ?_;simp only[hb,cond_true,Nat.testBit_or,Bool.or_eq_true];rcases hk with rfl | hk
   ·exact .inl (.inr (by rw[Nat.testBit_two_pow]; simp))
   ·exact .inr hk
  ·exact lL acc k es _ e h hb hk
theorem jG (h:edgesB ops=true):Edges ops (fun i k=>Nat.testBit ((ir ops.toList).getD i 0) k):=by
 simp only[edgesB,Bool.and_eq_true]at h;obtain⟨⟨h1,h2⟩,h3⟩:=h;refine⟨fun j o cs b ho=>Region.noSelect_spec h1 j o cs b ho,fun i o ho e he hb=>?_,fun i o ho k hk=>?_,fun i oi k ok hi hk hlt ha=>?_⟩
 ·have:=gX h2 i o (by simpa using ho) e he hb;omega
 ·obtain⟨acc',e1,e2,e3⟩:=lJ ops.toList [] i o (by simpa using ho);simp only[List.length_nil,Nat.zero_add]at e1 e3;have e3':(ir ops.toList).getD i 0=gW o acc':=by
   have:(ir ops.toList)[i]?=some (gW o acc'):=e3;simp[List.getD,this]
  simp only[e3']at hk;rcases nO acc' k _ _ hk with hk | ⟨e,he,hb,hk⟩
  ·simp at hk
  ·refine⟨e,by simpa using he,hb,?_⟩;rcases hk with hk | hk
   ·exact .inl hk
   ·have hb':=gX h2 i o (by simpa using ho) e (by simpa using he) hb;obtain⟨r,hr⟩:=e2;have:(ir ops.toList).getD e.on 0=acc'.getD e.on 0:=by
     have hlt:e.on<acc'.length:=by omega
     show(ir.go ops.toList []).getD e.on 0=_;rw[←hr];simp[List.getD,List.getElem?_append_left hlt]
    exact .inr (by simpa only[this] using hk)
 ·simp only[apartB,List.all_eq_true,List.mem_range]at h3;have:=h3 i (Array.getElem?_eq_some_iff.1 hi).1 k hlt;simp only[hi,hk,ha,Bool.false_or]at this;exact this
theorem qc (h:edgesB ops=true):ki ops (fun i k=>Nat.testBit ((ir ops.toList).getD i 0) k):=by
 refine⟨jG h,fun i o ho e he hb=>?_⟩;simp only[edgesB,Bool.and_eq_true]at h;obtain⟨⟨h1,h2⟩,h3⟩:=h;obtain⟨acc',e1,e2,e3⟩:=lJ ops.toList [] i o (by simpa using ho);simp only[List.length_nil,Nat.zero_add]at e1 e3;have e3':(ir ops.toList).getD i 0=gW o acc':=by
  have:(ir ops.toList)[i]?=some (gW o acc'):=e3;simp[List.getD,this]
 have hb':=gX h2 i o (by simpa using ho) e (by simpa using he) hb;obtain⟨r,hr⟩:=e2;have hge:(ir ops.toList).getD e.on 0=acc'.getD e.on 0:=by
  have hlt:e.on<acc'.length:=by omega
  show(ir.go ops.toList []).getD e.on 0=_;rw[←hr];simp[List.getD,List.getElem?_append_left hlt]
 refine⟨?_,fun k hk=>?_⟩
 ·simp only[e3'];exact lL acc' e.on _ _ e (by simpa using he) hb (.inl rfl)
 ·simp only[hge]at hk;simp only[e3'];exact lL acc' k _ _ e (by simpa using he) hb (.inr hk)
section
variable {P:Program} {n:Nat} {hs:List (Nat×List Nat)}
theorem egets_sound (ag:eK e a):∀{st:List Nat} {vs:List Value},egets e st=some vs→st.map (fun t=>a.tmps.getD t undef)=vs
 | [],vs,h=>by simp[egets]at h; simp[h]
 | t::st,vs,h=>by
  simp only[egets]at h;split at h
  ·cases h
  ·rename_i v hv;split at h
   ·cases h
   ·rename_i us hu;cases h;have hg:eget e t=.val v:=by cases hg:eget e t<;>rw[hg]at hv<;>simp[AV.opt]at hv; rw[hv]
    simp only[List.map_cons,ag.val hg,egets_sound ag hu]
theorem forget_get (ms:List Nat) (e:dt) (t:Nat):eget (headE.forget ms e) t=if t∈ms then .unk else eget e t:=by
 induction ms with
 | nil=>simp[headE.forget]
 | cons m ms ih =>
  simp only[headE.forget,eget_cons,ih];by_cases h:m=t
  ·subst h; simp
  ·simp[h,show ¬t=m from fun e=>h e.symm]
theorem kj:∀{st:List Nat} {vs:List Value} (t:Nat),eget (headE st vs ms e) t=.unk∨(∃v,eget (headE st vs ms e) t=.val v∧(t,v)∈st.zip vs)∨(eget (headE st vs ms e) t=eget e t∧t∉ms)
 | [],vs,t=>by
  simp only[headE,forget_get];by_cases h:t∈ms
  ·simp[h]
  ·simp[h]
 | s::st,[],t=>by
  simp only[headE,forget_get];by_cases h:t∈ms
  ·simp[h]
  ·simp[h]
 | s::st,v::vs,t=>by
  simp only[headE,eget_cons];by_cases h:s=t
  ·subst h; simp
  ·simp only[h,if_false];rcases kj (st:=st) (vs:=vs) (ms:=ms) (e:=e) t with h1 | ⟨u,h1,h2⟩ | h1
   ·exact .inl h1
   ·exact .inr (.inl ⟨u,h1,by simp[h2]⟩)
   ·exact .inr (.inr h1)
theorem tH {α β:Type} (f:α→β):∀{st:List α} {x:α} {v:β},(x,v)∈st.zip (st.map f)→v=f x
 | [],_,_,h=>by simp at h
 | s::st,x,v,h=>by
  simp only[List.map_cons,List.zip_cons_cons,List.mem_cons,Prod.mk.injEq]at h;rcases h with⟨rfl,rfl⟩ | h
  ·rfl
  ·exact tH f h
theorem nP:∀{l:List Nat},memB l t=true→t∈l
 | [],h=>by cases h
 | t'::l,h=>by
  simp only[memB,Bool.or_eq_true]at h;rcases h with h | h
  ·exact List.mem_cons.2 (.inl (by simpa using (Nat.eq_of_beq_eq_true h).symm))
  ·exact List.mem_cons_of_mem _ (nP h)
theorem nQ:∀{l:List Nat},subB l ms=true→∀t∈l,t∈ms
 | [],_,_,h=>by cases h
 | t'::l,h,t,ht=>by
  simp only[subB,Bool.and_eq_true]at h;rcases List.mem_cons.1 ht with rfl | ht
  ·exact nP h.1
  ·exact nQ h.2 t ht
theorem nR (vs:List Value) (e:dt) (h:∀t∈st,t∈ms):iD ms e (headE st vs ms e):=by
 intro t ht;rcases kj (st:=st) (vs:=vs) (ms:=ms) (e:=e) t with h1 | ⟨u,h1,h2⟩ | ⟨h1,_⟩
 ·
  have:∀{st:List Nat} {vs:List Value},(∀t∈st,t∈ms)→eget (headE st vs ms e) t=eget e t:=by
   intro st;induction st with
   | nil=>intro vs _; simp[headE,forget_get,ht]
   | cons s st ih =>
    intro vs hs;cases vs with
    | nil=>simp[headE,forget_get,ht]
    | cons v vs =>
     simp only[headE,eget_cons];rw[if_neg (fun e:s=t=>ht (e▸hs s List.mem_cons_self))];exact ih (fun t h=>hs t (List.mem_cons_of_mem _ h))
  exact this h
 ·exact absurd (h t (List.of_mem_zip h2).1) ht
 ·exact h1
theorem rV (ag:eK e' a) (hx:iD ms e e') (h:∀t∈st,t∈ms):eK (headE st (st.map fun t=>a.tmps.getD t undef) ms e) a:=by
 intro t;by_cases ht:t∈ms
 ·rcases kj (st:=st) (vs:=st.map fun t=>a.tmps.getD t undef) (ms:=ms) (e:=e) t with h1 | ⟨u,h1,h2⟩ | ⟨_,h2⟩
  ·rw[h1]; trivial
  ·rw[h1];exact(tH (fun t=>a.tmps.getD t undef) h2).symm
  ·exact absurd ht h2
 ·rw[nR _ e h t ht,←hx t ht];exact ag t
theorem nS:∀{k:Nat} {F:List Value→Prop},Iz k F→∀vs:List Value,vs.length=k→F vs
 | 0,F,h,vs,hl=>by
  have:vs=[]:=List.eq_nil_of_length_eq_zero hl;subst this; exact h
 | k+1,F,h,[],hl=>by simp at hl
 | k+1,F,h,v::vs,hl=>nS (h v) vs (by simpa using hl)
def KK.holds (k:KK) (n:Nat) (M:List Nat) (e0:dt):Exit→Act→World→Prop
 | .normal,a,w=>∃e,cZ n e a∧iD M e0 e∧k.nx e w
 | .ret,a,w=>∃e,cZ n e a∧k.ret e w
 | .exit i,a,w=>∃e,cZ n e a∧iD M e0 e∧k.ex i e w
 | _,_,_=>False
theorem xr:∀(c:Code) (k:KK) (e:dt) (a:Act) (w:World),cZ n e a→vc P n hs c k e w→c.wp P (k.holds n (gd c) e) a w:=by
 intro c
 induction c with
 | skip=>exact fun k e a w ag h=>wp_skip ⟨e,ag,.refl _ _,h⟩
 | label l=>exact fun k e a w ag h=>wp_label ⟨e,ag,.refl _ _,h⟩
 | ret=>exact fun k e a w ag h=>wp_ret ⟨e,ag,h⟩
 | exit i=>exact fun k e a w ag h=>wp_exit ⟨e,ag,.refl _ _,h⟩
 | region id ops d =>
  intro k e a w ag h
  have hM:∀(j:Nat) (o':Oper) (t:Nat),ops[j]?=some o'→o'.dst=some t→t∈gd (.region id ops d):=fun j o' t hj ht=>lG (by simpa using Array.mem_of_getElem? hj) ht
  cases d with
  | false =>
   simp only[vc,cond_false]at h
   refine wp_region_list ?_
   exact jo (M:=gd (.region id ops false)) hM (e0:=e) (fun e' a' w' ag' hx hk=>⟨e',ag',hx,hk⟩) ops.toList e a w (fun o ho t ht=>lG ho ht) ag (.refl _ _) h
  | true =>
   simp only[vc,cond_true]at h
   rw[cond_eq_ite]at h
   split at h
   ·rename_i hb
    simp only[Bool.and_eq_true]at hb
    rw[cond_eq_ite]at h
    split at h
    ·refine p9 (Q:=fun a w=>∃e',cZ n e' a∧iD (gd (.region id ops true)) e e'∧k.nx e' w) hb.1 (jG hb.2) (fun a w h=>h) ?_
     have:=jE (M:=gd (.region id ops true)) hM (e0:=e) (Q:=fun a w=>∃e',cZ n e' a∧iD (gd (.region id ops true)) e e'∧k.nx e' w) (fun e' a' w' ag' hx hk=>⟨e',ag',hx,hk⟩) ops.toList 0 [] [] [] e a w.drew (by simp) ag (.refl _ _) (fun q hq=>by cases hq) h
     rw[List.range_eq_range']
     simpa using this
    ·refine qa (f:=ops.size+1) (Q:=fun a w=>∃e',cZ n e' a∧iD (gd (.region id ops true)) e e'∧k.nx e' w) hb.1 (qc hb.2) (fun a w h=>h) ?_
     exact xq (M:=gd (.region id ops true)) hM (e0:=e) (Q:=fun a w=>∃e',cZ n e' a∧iD (gd (.region id ops true)) e e'∧k.nx e' w) (fun e' a' w' ag' hx hk=>⟨e',ag',hx,hk⟩) (ops.size+1) (List.range ops.size) [] [] [] e a w.drew ag (.refl _ _) (fun q hq=>by cases hq) h
   ·exact h.elim
 | seq x y ihx ihy =>
  intro k e a w ag h
  refine wp_seq ?_
  refine Code.wp_mono ?_ (ihx _ e a w ag h)
  intro ex a' w' hk
  cases ex with
  | normal =>
   obtain⟨e',ag',hx,hk⟩:=hk
   refine Code.wp_mono ?_ (ihy k e' a' w' ag' hk)
   intro ex a'' w'' hk
   have hxm:iD (gd (.seq x y)) e e':=hx.mono fun t ht=>List.mem_append.2 (.inl ht)
   cases ex with
   | normal=>obtain⟨e2,ag2,hx2,hk⟩:=hk; exact⟨e2,ag2,hxm.trans (hx2.mono fun t ht=>List.mem_append.2 (.inr ht)),hk⟩
   | ret=>exact hk
   | exit i=>obtain⟨e2,ag2,hx2,hk⟩:=hk; exact⟨e2,ag2,hxm.trans (hx2.mono fun t ht=>List.mem_append.2 (.inr ht)),hk⟩
   | _=>exact hk.elim
  | ret=>exact hk
  | exit i=>obtain⟨e',ag',hx,hk⟩:=hk; exact⟨e',ag',hx.mono fun t ht=>List.mem_append.2 (.inl ht),hk⟩
  | _=>exact hk.elim
 | cond c x y ihx ihy =>
  intro k e a w ag h
  simp only[vc]at h
  replace h:=aO h; obtain⟨v,hc,h⟩:=h
  replace h:=d4 h; obtain⟨b,rfl,h⟩:=h
  refine wp_cond (oev_sound ag.1 hc) ?_
  cases b with
  | true =>
   refine Code.wp_mono ?_ (ihx k e a w ag h)
   intro ex a' w' hk
   cases ex with
   | normal=>obtain⟨e2,ag2,hx2,hk⟩:=hk; exact⟨e2,ag2,hx2.mono fun t ht=>List.mem_append.2 (.inl ht),hk⟩
   | ret=>exact hk
   | exit i=>obtain⟨e2,ag2,hx2,hk⟩:=hk; exact⟨e2,ag2,hx2.mono fun t ht=>List.mem_append.2 (.inl ht),hk⟩
   | _=>exact hk.elim
  | false =>
   refine Code.wp_mono ?_ (ihy k e a w ag h)
   intro ex a' w' hk
   cases ex with
   | normal=>obtain⟨e2,ag2,hx2,hk⟩:=hk; exact⟨e2,ag2,hx2.mono fun t ht=>List.mem_append.2 (.inr ht),hk⟩
   | ret=>exact hk
   | exit i=>obtain⟨e2,ag2,hx2,hk⟩:=hk; exact⟨e2,ag2,hx2.mono fun t ht=>List.mem_append.2 (.inr ht),hk⟩
   | _=>exact hk.elim
 | block id c ih =>
  intro k e a w ag h
  refine wp_block ?_
  refine Code.wp_mono ?_ (ih _ e a w ag h)
  intro ex a' w' hk
  cases ex with
  | normal=>exact hk
  | ret=>exact hk
  | exit i =>
   obtain⟨e2,ag2,hx2,hk⟩:=hk
   simp only[cond_eq_ite]at hk
   simp only[Exit.inBlock]
   split
   ·rename_i hi
    rw[if_pos (by simp[hi])]at hk
    exact⟨e2,ag2,hx2,hk⟩
   ·rename_i hi
    rw[if_neg (by simp[hi])]at hk
    exact⟨e2,ag2,hx2,hk⟩
  | _=>exact hk.elim
 | loop body ih =>
  intro k e a w ag h
  simp only[vc,cond_eq_ite]at h
  split at h
  ·rename_i hsub
   replace h:=aO h; obtain⟨vs0,hv0,I,μ,h0,hall⟩:=h
   generalize hst:oO hs (cU body)=st at *
   have hsub:=nQ hsub
   refine wp_loop (fun a w=>∃e',cZ n e' a∧iD (gd body) e e'∧xp _ I (st.map fun t=>a.tmps.getD t undef) w) (fun a w=>CS _ μ (st.map fun t=>a.tmps.getD t undef) w) ⟨e,ag,.refl _ _,by rw[egets_sound ag.1 hv0]; exact h0⟩ ?_
   rintro a w ⟨e',ag',hx',hI⟩
   have hbody:=nS hall (st.map fun t=>a.tmps.getD t undef) (by simp) w hI
   have hag:cZ n (headE st (st.map fun t=>a.tmps.getD t undef) (gd body) e) a:=⟨rV ag'.1 hx' hsub,ag'.2⟩
   have hhx:iD (gd body) e (headE st (st.map fun t=>a.tmps.getD t undef) (gd body) e):=nR _ e hsub
   refine Code.wp_mono ?_ (ih _ _ a w hag hbody)
   intro ex a' w' hk
   cases ex with
   | normal =>
    obtain⟨e2,ag2,hx2,hk⟩:=hk
    obtain⟨vs',hv',hI',hμ⟩:=aO hk
    have hvs:=egets_sound ag2.1 hv'
    exact⟨⟨e2,ag2,hhx.trans hx2,by rw[hvs]; exact hI'⟩,by rw[hvs]; exact hμ⟩
   | ret=>exact hk
   | exit i =>
    obtain⟨e2,ag2,hx2,hk⟩:=hk
    exact⟨e2,ag2,hhx.trans hx2,hk⟩
   | _=>exact hk.elim
  ·exact h.elim
 | _=>exact fun k e a w ag h=>h.elim
theorem gY {w:World} {Q:List Value→Prop}:∀{l:List ResultVar} {e:dt} {a:Act},eK e a→oP P l e w Q →
  ∃vs,(l.mapM fun | .tmp t=>pure (a.tmps.getD t undef) | .cell c t=>do loadVar t (←asAddr (a.tmps.getD c undef)):Sem (List Value)).run P w=.ok vs w∧Q vs
 | [],e,a,ag,h=>⟨[],by simp,h⟩
 | .tmp t::l,e,a,ag,h=>by
  obtain⟨v,hv,h⟩:=aO h;have hg:eget e t=.val v:=by cases hg:eget e t<;>rw[hg]at hv<;>simp[AV.opt]at hv; rw[hv]
  obtain⟨vs,hr,hq⟩:=gY ag h;refine⟨v::vs,?_,hq⟩;simp only[List.mapM_cons,Sem.run_bind,ag.val hg,Sem.run_pure,Result.andThen_ok,hr]
 | .cell t ty::l,e,a,ag,h=>by
  replace h:=aO h; obtain⟨p,hp,h⟩:=h;replace h:=aO h; obtain⟨s,hs,h⟩:=h;replace h:=fO h; obtain⟨ad,rfl,h⟩:=h;have hg:eget e t=.val (.pointer (some ad)):=by cases hg:eget e t<;>rw[hg]at hp<;>simp[AV.opt]at hp; rw[hp]
  have fin:∀{v:Value},(Instr.loadAt ty (.pointer (some ad))).run P w=.ok v w→(loadVar ty ad).run P w=.ok v w:=by
   intro v hv; simpa [Instr.loadAt,Instr.sureAddr] using hv
  have hA:(asAddr (.pointer (some ad))).run P w=.ok ad w:=rfl;cases s with
  | none =>
   obtain⟨v,hv,h⟩:=aO h;obtain⟨vs,hr,hq⟩:=gY ag h;refine⟨v::vs,?_,hq⟩;simp only[List.mapM_cons,Sem.run_bind,ag.val hg,hA,Sem.run_pure,Result.andThen_ok,fin (run_loadAt1 hs hv),hr]
  | some m =>
   obtain⟨cs,hc,h⟩:=aO h;obtain⟨vs,hr,hq⟩:=gY ag h;refine⟨.agg cs.toArray::vs,?_,hq⟩;simp only[List.mapM_cons,Sem.run_bind,ag.val hg,hA,Sem.run_pure,Result.andThen_ok,fin (run_loadAtN hs hc),hr]
theorem jd {fn:Func} {Q:Value→Prop} (ag:eK e a) (h:oP P fn.results.toList e w fun vs=>Q (retV vs)):∃v,(results fn a.tmps).run P w=.ok v w∧Q v:=by
 obtain⟨vs,hr,hq⟩:=gY ag h;refine⟨_,?_,hq⟩;unfold results;rw[Array.mapM_eq_mapM_toList];simp only[Sem.run_bind,Sem.run_map,Sem.run_pure];refine(congrArg (fun r=>((r.andThen fun(a:List Value) w'=>Result.ok a.toArray w').andThen fun a w'=>Result.ok (if h:a.size=1 then a[0] else Value.tuple a) w')) hr).trans ?_;match vs with
 | []=>rfl
 | [v]=>rfl
 | v::u::vs=>simp[retV]
theorem env0_get:∀(vs:List Value) (i t:Nat),eget (env0 vs i) t=if i≤t then(match vs[t-i]? with | some v=>.val v | none=>.unk) else .unk
 | [],i,t=>by simp[env0,eget]
 | v::vs,i,t=>by
  simp only[env0,eget_cons,env0_get vs (i+1) t];by_cases h:i=t
  ·subst h; simp
  ·simp only[h,if_false];by_cases h2:i+1≤t
   ·rw[if_pos h2,if_pos (by omega)];have:t-i=(t-(i+1))+1:=by omega
    rw[this]; simp
   ·rw[if_neg h2];split
    ·omega
    ·rfl
theorem Fw (hs:List (Nat×List Nat)) (hf:P.funcs[f]?=some fn) (hb:fn.body=some c) (hc:gC P f=true) {args:List Value} (hn:Nat.ble args.length fn.ntmps=true) {w:World} {Q:Value→World→Prop}
  (h:Mz P fn hs c args w Q):af P f args.toArray w Q:=by
 refine⟨hc,calls_of_wp hf hb ?_⟩;have hn:=Nat.le_of_ble_eq_true hn;have ag:cZ fn.ntmps (env0 args 0) { tmps:=args.toArray++Array.replicate (fn.ntmps-args.toArray.size) undef,defers:=[] }:=by
  refine⟨fun t=>?_,by simp; omega,rfl⟩;rw[env0_get];simp only[Nat.zero_le,if_true,Nat.sub_zero];cases ht:args[t]? with
  | none=>trivial
  | some v =>
   have hlt:t<args.length:=(List.getElem?_eq_some_iff.1 ht).1;have hv:args[t]=v:=by simpa [hlt] using ht
   simp[Array.getElem?_append,hlt,hv]
 refine Code.wp_mono ?_ (xr c _ _ _ w ag h);intro ex a' w' hk;cases ex with
 | normal =>
  obtain⟨e,ag,_,hk⟩:=hk;obtain⟨v,hr,hq⟩:=jd (fn:=fn) (Q:=fun v=>Q v w') ag.1 hk;exact⟨ag.2.2,v,hr,v,rfl,hq⟩
 | ret =>
  obtain⟨e,ag,hk⟩:=hk;obtain⟨v,hr,hq⟩:=jd (fn:=fn) (Q:=fun v=>Q v w') ag.1 hk;exact⟨ag.2.2,v,hr,v,rfl,hq⟩
 | exit i=>obtain⟨_,_,_,hk⟩:=hk; exact hk.elim
 | _=>exact hk.elim
theorem ax (hs:List (Nat×List Nat)) (hf:P.funcs[f]?=some fn) (hb:fn.body=some c) (hc:gC P f=true) {args:List Value} (hn:Nat.ble args.length fn.ntmps=true) {w:World} {Q:Value→World→Prop} {X:Prop}
  (e:X=Mz P fn hs c args w Q) (h:X):af P f args.toArray w Q:=Fw hs hf hb hc hn (Eq.mp e h)
end
abbrev PQ:Type:=Value→World→Prop
end
section
universe u
class gQ {α:Sort u} (R:α→Type) where
 h:(fun _=>Prop)=R
instance {α:Sort u}:gQ (fun _:α=>Prop):=⟨rfl⟩
class MA (R:Prop→Prop→Type) where
 h:(fun _ _=>Prop)=R
instance:MA (fun _ _=>Prop):=⟨rfl⟩
def gR {α:Sort u} {K:α} {R:α→Type} (h:(fun _=>Prop)=R) (p:Prop):R K:=@Eq.rec (α→Type) (fun _=>Prop) (fun R _=>R K) p R h
def MB {X Y:Prop} {R:Prop→Prop→Type} (h:(fun _ _=>Prop)=R) (p:Prop):R X Y:=@Eq.rec (Prop→Prop→Type) (fun _ _=>Prop) (fun R _=>R X Y) p R h
@[simp] theorem asP_rfl {α:Sort u} {K:α} {h:(fun _:α=>Prop)=fun _=>Prop} {p:Prop}:gR (K:=K) h p=p:=rfl
@[simp] theorem MC {X Y:Prop} {h:(fun _ _:Prop=>Prop)=fun _ _=>Prop} {p:Prop}:MB (X:=X) (Y:=Y) h p=p:=rfl
def kO {α:Type} (o:Option α) (K:α→Prop) (R:(α→Prop)→Type:=fun _=>Prop) [_i:gQ R]:R K:=gR _i.h (mO o K)
def kB (x:Value) (K:Bool→Prop) (R:(Bool→Prop)→Type:=fun _=>Prop) [_i:gQ R]:R K:=gR _i.h (mBool x K)
def bG (x:Value) (K:ByteArray→Prop) (R:(ByteArray→Prop)→Type:=fun _=>Prop) [_i:gQ R]:R K:=gR _i.h (mStr x K)
def bH (x:Value) (K:Int→Prop) (R:(Int→Prop)→Type:=fun _=>Prop) [_i:gQ R]:R K:=gR _i.h (mInt x K)
def kN (x:Value) (K:Prop) (R:(Prop)→Type:=fun _=>Prop) [_i:gQ R]:R K:=gR _i.h (CM x K)
def kG (p K:Prop) (R:(Prop)→Type:=fun _=>Prop) [_i:gQ R]:R K:=gR _i.h (mG p K)
def aA (b:Bool) (X Y:Prop) (R:Prop→Prop→Type:=fun _ _=>Prop) [_i:MA R]:R X Y:=MB _i.h (tF b X Y)
def ai (off:Nat) (x:Value) (K:Value→Prop) (R:(Value→Prop)→Type:=fun _=>Prop) [_i:gQ R]:R K:=gR _i.h (mPtr x fun a=>K (.pointer (some (a.add off))))
def aw (x:Value) (w:World) (K:Value→Prop) (R:(Value→Prop)→Type:=fun _=>Prop) [_i:gQ R]:R K:=gR _i.h (mPtr x fun a=>mO (w.cell? a) K)
def aB (n:Nat) (x:Value) (w:World) (K:Value→Prop) (R:(Value→Prop)→Type:=fun _=>Prop) [_i:gQ R]:R K:=gR _i.h (mPtr x fun a=>mO (cellsAt w a 0 n) fun cs=>K (.agg cs.toArray))
def bj (n:Nat) (x v:Value) (w:World) (K:World→Prop) (R:(World→Prop)→Type:=fun _=>Prop) [_i:gQ R]:R K:=gR _i.h (mPtr x fun a=>mG (v.cells.size=n) (mO (stores a v.cells.toList 0 w) K))
def knew (cs:Array Value) (t:TypeId) (w:World) (K:Value→World→Prop) (R:(Value→World→Prop)→Type:=fun _=>Prop) [_i:gQ R]:R K:=gR _i.h (K (.pointer (some ⟨w.heap.size,0,none⟩)) (w.alloc (.cells cs t)))
def bB (w:World) (K:Value→World→Prop) (R:(Value→World→Prop)→Type:=fun _=>Prop) [_i:gQ R]:R K:=gR _i.h (K (.map (some w.heap.size)) (w.alloc (.map #[] 0)))
def aP (z:List Value) (qs:List (Nat×Nat×Value)) (K:Value→Prop) (R:(Value→Prop)→Type:=fun _=>Prop) [_i:gQ R]:R K:=gR _i.h (mO (fillL z qs) fun cs=>K (.agg cs.toArray))
def ay (z:List Value) (len:Nat) (qs:List (Nat×Nat×Value)) (t:TypeId) (w:World) (K:Value→World→Prop) (R:(Value→World→Prop)→Type:=fun _=>Prop) [_i:gQ R]:R K:=gR _i.h <|
 mO (fillL (zrow z len) qs) fun cs=>K (.slice (some ⟨w.heap.size,0,none⟩) len len) (w.alloc (.cells cs.toArray t))
def aE (x:Value) (i:Nat) (K:Value→Prop) (R:(Value→Prop)→Type:=fun _=>Prop) [_i:gQ R]:R K:=gR _i.h (CL x fun vs=>mO vs[i]? K)
def bk (k:IntKind) (x:Value) (K:Value→Prop) (R:(Value→Prop)→Type:=fun _=>Prop) [_i:gQ R]:R K:=gR _i.h (mInt x fun n=>K (.int k (k.wrap n)))
def aD (x:Value) (K:Value→Prop) (R:(Value→Prop)→Type:=fun _=>Prop) [_i:gQ R]:R K:=gR _i.h (mStr x fun s=>K (.int .i64 s.size))
def aU (x:Value) (K:Value→Prop) (R:(Value→Prop)→Type:=fun _=>Prop) [_i:gQ R]:R K:=gR _i.h (mSlice x fun _ n _=>K (.int .i64 n))
def bC (x:Value) (K:Value→Prop) (R:(Value→Prop)→Type:=fun _=>Prop) [_i:gQ R]:R K:=gR _i.h (mSlice x fun _ _ c=>K (.int .i64 c))
def bD (x:Value) (off:Nat) (K:Value→Prop) (R:(Value→Prop)→Type:=fun _=>Prop) [_i:gQ R]:R K:=gR _i.h (uX x fun cs=>mO cs[off]? K)
def a8 (x:Value) (off n:Nat) (K:Value→Prop) (R:(Value→Prop)→Type:=fun _=>Prop) [_i:gQ R]:R K:=gR _i.h (uX x fun cs=>K (.agg (cs.extract off (off+n))))
def kbool (op:BinOp) (a b:Value) (K:Value→Prop) (R:(Value→Prop)→Type:=fun _=>Prop) [_i:gQ R]:R K:=gR _i.h (mBool a fun x=>mBool b fun y=>mO (boolBin x y op) K)
def kint (k:IntKind) (op:BinOp) (a b:Value) (K:Value→Prop) (R:(Value→Prop)→Type:=fun _=>Prop) [_i:gQ R]:R K:=gR _i.h (intW k op a b K)
def kstr (op:BinOp) (a b:Value) (K:Value→Prop) (R:(Value→Prop)→Type:=fun _=>Prop) [_i:gQ R]:R K:=gR _i.h (strW op a b K)
def keq (P:Program) (op:BinOp) (t:TypeId) (cx cy:Bool) (a b:Value) (w:World) (K:Value→World→Prop) (R:(Value→World→Prop)→Type:=fun _=>Prop) [_i:gQ R]:R K:=gR _i.h (eqW P op t cx cy a b K w)
def kun (op:UnOp) (d:Option TypeDesc) (a:Value) (K:Value→Prop) (R:(Value→Prop)→Type:=fun _=>Prop) [_i:gQ R]:R K:=gR _i.h (unW op d a K)
def ksl (d:Option TypeDesc) (es:Option Nat) (x:Value) (lo hi:Option Value) (K:Value→Prop) (R:(Value→Prop)→Type:=fun _=>Prop) [_i:gQ R]:R K:=gR _i.h (sliceW d es x lo hi K)
def bz (d:Option TypeDesc) (es:Option Nat) (x i:Value) (K:Value→Prop) (R:(Value→Prop)→Type:=fun _=>Prop) [_i:gQ R]:R K:=gR _i.h (gS d es x i K)
def cQ (P:Program) (d:Option TypeDesc) (x i:Value) (K:Value→Prop) (R:(Value→Prop)→Type:=fun _=>Prop) [_i:gQ R]:R K:=gR _i.h (oI P d x i K)
def kta (t:TypeId) (z:Value) (ok:Bool) (x:Value) (K:Value→Prop) (R:(Value→Prop)→Type:=fun _=>Prop) [_i:gQ R]:R K:=gR _i.h (taW t z ok x K)
def kmk (z:Value) (bytes:Nat) (t:TypeId) (l c:Value) (w:World) (K:Value→World→Prop) (R:(Value→World→Prop)→Type:=fun _=>Prop) [_i:gQ R]:R K:=gR _i.h (makeSliceW z bytes t l c K w)
def kmm (k:IntKind) (isMax:Bool) (a b:Value) (K:Value→Prop) (R:(Value→Prop)→Type:=fun _=>Prop) [_i:gQ R]:R K:=gR _i.h (minmaxW k isMax a b K)
def ksem (P:Program) (s:Sem Value) (w:World) (K:Value→World→Prop) (R:(Value→World→Prop)→Type:=fun _=>Prop) [_i:gQ R]:R K:=gR _i.h (semV P s K w)
def ksemU (P:Program) (s:Sem Unit) (w:World) (K:Value→World→Prop) (R:(Value→World→Prop)→Type:=fun _=>Prop) [_i:gQ R]:R K:=gR _i.h (semU P s K w)
def bd (P:Program) (f:FuncId) (args:List Value) (w:World) (K:Value→World→Prop) (R:(Value→World→Prop)→Type:=fun _=>Prop) [_i:gQ R]:R K:=gR _i.h (xf P f args K w)
def aI (P:Program) (f:Value) (args:List Value) (w:World) (K:Value→World→Prop) (R:(Value→World→Prop)→Type:=fun _=>Prop) [_i:gQ R]:R K:=gR _i.h (xe P f args K w)
def aL (P:Program) (r:Value) (name:String) (args:List Value) (w:World) (K:Value→World→Prop) (R:(Value→World→Prop)→Type:=fun _=>Prop) [_i:gQ R]:R K:=gR _i.h (xh P r name args K w)
def ae (P:Program) (f:FuncId) (args:Array Value) (w:World) (K:Value→World→Prop) (R:(Value→World→Prop)→Type:=fun _=>Prop) [_i:gQ R]:R K:=gR _i.h (af P f args w K)
def kL {α β:Type} (F:α→β→Prop) (R:(α→β→Prop)→Type:=fun _=>Prop) [_i:gQ R]:R F:=gR _i.h (∃I μ,F I μ)
end
end Go.Ev
namespace Go.Ev
open Go Go.RowKit
section
section
variable {α:Type} {P:Program} {w:World}
@[simp] theorem CT {a:α} {K:α→Prop}:kO (some a) K=K a:=rfl
@[simp] theorem fq {b:Bool} {K:Bool→Prop}:kB (.bool b) K=K b:=rfl
@[simp] theorem Fx {s:ByteArray} {K:ByteArray→Prop}:bG (.string s) K=K s:=rfl
@[simp] theorem MD {k:IntKind} {n:Int} {K:Int→Prop}:bH (.int k n) K=K n:=rfl
@[simp] theorem Ql {a:Addr} {K:Prop}:kN (.pointer (some a)) K=K:=rfl
@[simp] theorem Qa {f:FuncId} {x y:Array Value} {K:Prop}:kN (.func (.func f) x y) K=K:=rfl
@[simp] theorem ME {f:TypeId} {x:Value} {K:Prop}:kN (.iface f x) K=K:=rfl
@[simp] theorem Qb {K:Prop}:kG True K=K:=by simp[kG,mG]
theorem ah (h:p) (k:K):kG p K:=⟨h,k⟩
@[simp] theorem MF {X Y:Prop}:aA true X Y=X:=rfl
@[simp] theorem vd {X Y:Prop}:aA false X Y=Y:=rfl
theorem dh (h1:b=true→X) (h2:b=false→Y):aA b X Y:=by cases b; exact h2 rfl; exact h1 rfl
theorem am [Decidable p] {X Y:Prop} (h1:p→X) (h2:¬p→Y):aA (decide p) X Y:=dh (fun h=>h1 (of_decide_eq_true h)) (fun h=>h2 (of_decide_eq_false h))
@[simp] theorem xw {o:Nat} {a:Addr} {K:Value→Prop}:ai o (.pointer (some a)) K=K (.pointer (some (a.add o))):=rfl
@[simp] theorem CU {a:Addr} {K:Value→Prop}:aw (.pointer (some a)) w K=kO (w.cell? a) K:=rfl
@[simp] theorem xx {n:Nat} {a:Addr} {K:Value→Prop}:aB n (.pointer (some a)) w K=kO (cellsAt w a 0 n) fun cs=>K (.agg cs.toArray):=rfl
@[simp] theorem CV {n:Nat} {a:Addr} {v:Value} {K:World→Prop}:bj n (.pointer (some a)) v w K=kG (v.cells.size=n) (kO (stores a v.cells.toList 0 w) K):=rfl
@[simp] theorem tI {cs:Array Value} {ty:TypeId} {K:Value→World→Prop}:knew cs ty w K=K (.pointer (some ⟨w.heap.size,0,none⟩)) (w.alloc (.cells cs ty)):=rfl
@[simp] theorem Qc {K:Value→World→Prop}:bB w K=K (.map (some w.heap.size)) (w.alloc (.map #[] 0)):=rfl
@[simp] theorem CW {z:List Value} {qs:List (Nat×Nat×Value)} {K:Value→Prop}:aP z qs K=kO (fillL z qs) fun cs=>K (.agg cs.toArray):=rfl
@[simp] theorem xy {z:List Value} {n:Nat} {qs:List (Nat×Nat×Value)} {ty:TypeId} {K:Value→World→Prop}:ay z n qs ty w K=kO (fillL (zrow z n) qs) fun cs=>K (.slice (some ⟨w.heap.size,0,none⟩) n n) (w.alloc (.cells cs.toArray ty)):=rfl
@[simp] theorem rW {vs:Array Value} {i:Nat} {K:Value→Prop}:aE (.tuple vs) i K=kO vs[i]? K:=rfl
@[simp] theorem cD {k k':IntKind} {n:Int} {K:Value→Prop}:bk k (.int k' n) K=K (.int k (k.wrap n)):=rfl
@[simp] theorem xz {s:ByteArray} {K:Value→Prop}:aD (.string s) K=K (.int .i64 s.size):=rfl
@[simp] theorem IA {a:Option Addr} {n c:Nat} {K:Value→Prop}:aU (.slice a n c) K=K (.int .i64 n):=rfl
@[simp] theorem IB {a:Option Addr} {n c:Nat} {K:Value→Prop}:bC (.slice a n c) K=K (.int .i64 c):=rfl
@[simp] theorem xA {cs:Array Value} {o:Nat} {K:Value→Prop}:bD (.agg cs) o K=kO cs[o]? K:=rfl
@[simp] theorem ve {cs:Array Value} {o n:Nat} {K:Value→Prop}:a8 (.agg cs) o n K=K (.agg (cs.extract o (o+n))):=rfl
def iand (k:IntKind) (a b:Int):Int:=k.wrap (BitVec.ofInt k.bits a&&&BitVec.ofInt k.bits b).toNat
def ior (k:IntKind) (a b:Int):Int:=k.wrap (BitVec.ofInt k.bits a |||BitVec.ofInt k.bits b).toNat
def ixor (k:IntKind) (a b:Int):Int:=k.wrap (BitVec.ofInt k.bits a ^^^BitVec.ofInt k.bits b).toNat
def iandn (k:IntKind) (a b:Int):Int:=k.wrap (BitVec.ofInt k.bits a&&&~~~(BitVec.ofInt k.bits b)).toNat
def ishl (k:IntKind) (a b:Int):Int:=k.wrap (a*2^(min b.toNat k.bits))
def ishr (k:IntKind) (a b:Int):Int:=a.fdiv (2^(min b.toNat k.bits))
def inot (k:IntKind) (a:Int):Int:=k.wrap (BitVec.ofInt k.bits (if k.signed then -1 else k.max) ^^^BitVec.ofInt k.bits a).toNat
section ints
variable {k:IntKind} {a b:Int} {K:Value→Prop}
@[simp] theorem eS:kint k .add (.int k a) (.int k b) K=K (.int k (k.wrap (a+b))):=by simp[kint,intW,mIntK,intBin,mO]
@[simp] theorem lN:kint k .sub (.int k a) (.int k b) K=K (.int k (k.wrap (a-b))):=by simp[kint,intW,mIntK,intBin,mO]
@[simp] theorem dL:kint k .mul (.int k a) (.int k b) K=K (.int k (k.wrap (a*b))):=by simp[kint,intW,mIntK,intBin,mO]
@[simp] theorem jH:kint k .and (.int k a) (.int k b) K=K (.int k (iand k a b)):=by simp[kint,intW,mIntK,intBin,mO,iand]
@[simp] theorem tJ:kint k .or (.int k a) (.int k b) K=K (.int k (ior k a b)):=by simp[kint,intW,mIntK,intBin,mO,ior]
@[simp] theorem fA:kint k .xor (.int k a) (.int k b) K=K (.int k (ixor k a b)):=by simp[kint,intW,mIntK,intBin,mO,ixor]
@[simp] theorem qd:kint k .andNot (.int k a) (.int k b) K=K (.int k (iandn k a b)):=by simp[kint,intW,mIntK,intBin,mO,iandn]
@[simp] theorem gD:kint k .eql (.int k a) (.int k b) K=K (.bool (decide (a=b))):=by
 have:(a ==b)=decide (a=b):=rfl;simp[kint,intW,mIntK,intBin,mO,this]
@[simp] theorem lO:kint k .neq (.int k a) (.int k b) K=K (.bool (decide (a≠b))):=by
 have:(a !=b)=decide (a≠b):=by rw[bne,show(a ==b)=decide (a=b)from rfl]; simp
 simp[kint,intW,mIntK,intBin,mO,this]
@[simp] theorem gE:kint k .lss (.int k a) (.int k b) K=K (.bool (decide (a<b))):=by simp[kint,intW,mIntK,intBin,mO]
@[simp] theorem qe:kint k .leq (.int k a) (.int k b) K=K (.bool (decide (a≤b))):=by simp[kint,intW,mIntK,intBin,mO]
@[simp] theorem xB:kint k .gtr (.int k a) (.int k b) K=K (.bool (decide (b<a))):=by simp[kint,intW,mIntK,intBin,mO]
@[simp] theorem qf:kint k .geq (.int k a) (.int k b) K=K (.bool (decide (b≤a))):=by simp[kint,intW,mIntK,intBin,mO]
@[simp] theorem qg:kint k .quo (.int k a) (.int k b) K=kG (b≠0) (K (.int k (k.wrap (a.tdiv b)))):=by simp[kint,intW,mIntK,kG]
@[simp] theorem fB:kint k .rem (.int k a) (.int k b) K=kG (b≠0) (K (.int k (a.tmod b))):=by simp[kint,intW,mIntK,kG]
@[simp] theorem qh {k':IntKind}:kint k .shl (.int k a) (.int k' b) K=kG (0≤b) (K (.int k (ishl k a b))):=by simp[kint,intW,mIntK,mInt,kG,ishl]
@[simp] theorem dz {k':IntKind}:kint k .shr (.int k a) (.int k' b) K=kG (0≤b) (K (.int k (ishr k a b))):=by simp[kint,intW,mIntK,mInt,kG,ishr]
@[simp] theorem lr:kmm k false (.int k a) (.int k b) K=K (.int k (min a b)):=by
 have:(if b<a then b else a)=min a b:=by rw[Int.min_def]; split<;>split<;>omega
 simp[kmm,minmaxW,mIntK,this]
@[simp] theorem jI:kmm k true (.int k a) (.int k b) K=K (.int k (max a b)):=by
 have:(if b>a then b else a)=max a b:=by rw[Int.max_def]; split<;>split<;>omega
 simp only[kmm,minmaxW,mIntK,cond_true,this,true_and,asP_rfl]
@[simp] theorem jJ:kun .neg (some (.int k)) (.int k a) K=K (.int k (k.wrap (0-a))):=by simp[kun,unW,mIntK]
@[simp] theorem Qd:kun .xor (some (.int k)) (.int k a) K=K (.int k (inot k a)):=by simp[kun,unW,mIntK,inot]
@[simp] theorem CX {d:Option TypeDesc} {b:Bool}:kun .not d (.bool b) K=K (.bool (!b)):=by simp[kun,unW,mBool]
@[simp] theorem Mr {x y:Bool}:kbool .eql (.bool x) (.bool y) K=K (.bool (x ==y)):=by simp[kbool,mBool,boolBin,mO]
@[simp] theorem Ms {x y:Bool}:kbool .neq (.bool x) (.bool y) K=K (.bool (!(x ==y))):=by simp[kbool,mBool,boolBin,mO]
end ints
section strs
variable {x y:ByteArray} {K:Value→Prop}
theorem kS (x:ByteArray):x.toList=x.data.toList:=ByteArray.toList_eq x
theorem bytes_beq (x y:ByteArray):(x.toList ==y.toList)=decide (x=y):=by
 rw[kS,kS,Bool.eq_iff_iff];simp only[beq_iff_eq,decide_eq_true_eq];exact⟨fun h=>ByteArray.ext (Array.ext' h),fun h=>by rw[h]⟩
@[simp] theorem lP:kstr .eql (.string x) (.string y) K=K (.bool (decide (x=y))):=by simp[kstr,strW,mStr,strBin,mO,←bytes_beq]
@[simp] theorem MG:kstr .neq (.string x) (.string y) K=K (.bool (!decide (x=y))):=by simp[kstr,strW,mStr,strBin,mO,←bytes_beq]
@[simp] theorem jK:kstr .add (.string x) (.string y) K=kG (x.size+y.size≤9223372036854775807) (K (.string (x++y))):=by simp[kstr,strW,mStr,kG]
end strs
section slices
variable {K:Value→Prop} {e:TypeId} {n:Nat}
@[simp] theorem ce {a:Addr} {l c:Nat} {k:IntKind} {i:Int}:bz (some (.slice e)) (some n) (.slice (some a) l c) (.int k i) K=kG (0≤i∧i<l) (K (.pointer (some (a.add (i.toNat*n))))):=rfl
@[simp] theorem dy {m:Nat} {a:Addr} {k:IntKind} {i:Int}:bz (some (.array m e)) (some n) (.pointer (some a)) (.int k i) K=kG (0≤i∧i<m) (K (.pointer (some (a.add (i.toNat*n))))):=rfl
@[simp] theorem jp {s:ByteArray} {k:IntKind} {i:Int}:cQ P (some .string) (.string s) (.int k i) K=kG (0≤i) (kO s[i.toNat]? fun b=>K (.int .u8 b.toNat)):=rfl
def gZ:Option Value→Int
 | some (.int _ n)=>n
 | _=>0
def nr:Option Value→Bool
 | none=>true
 | some (.int _ _)=>true
 | _=>false
def rN (m:Nat):Option Value→Int
 | some (.int _ n)=>n
 | _=>m
@[simp] theorem loV_none:gZ none=0:=rfl
@[simp] theorem loV_int {k:IntKind} {i:Int}:gZ (some (.int k i))=i:=rfl
@[simp] theorem hiV_none {m:Nat}:rN m none=m:=rfl
@[simp] theorem hiV_int {m:Nat} {k:IntKind} {i:Int}:rN m (some (.int k i))=i:=rfl
@[simp] theorem MH:nr none=true:=rfl
@[simp] theorem Qe {k:IntKind} {i:Int}:nr (some (.int k i))=true:=rfl
theorem loW_eq {K:Int→Prop} (h:nr lo=true):Mp lo K=K (gZ lo):=by
 unfold Mp gZ nr at *; split at h<;>simp_all [mInt]
theorem hiW_eq {K:Int→Prop} (h:nr lo=true):Mq lo m K=K (rN m lo):=by
 unfold Mq rN nr at *; split at h<;>simp_all [mInt]
@[simp] theorem g9 {s:ByteArray} {es:Option Nat} {lo hi:Option Value} (h1:nr lo=true) (h2:nr hi=true):ksl (some .string) es (.string s) lo hi K =
  kG (0≤gZ lo∧gZ lo≤rN s.size hi∧rN s.size hi≤s.size) (K (.string (s.extract (gZ lo).toNat (rN s.size hi).toNat))):=by
 simp only[ksl,sliceW,mStr,loW_eq h1,hiW_eq h2,kG,asP_rfl]
@[simp] theorem ff {a:Option Addr} {l c:Nat} {lo hi:Option Value} (h1:nr lo=true) (h2:nr hi=true):ksl (some (.slice e)) (some n) (.slice a l c) lo hi K =
  kG (0≤gZ lo∧gZ lo≤rN l hi∧rN l hi≤c) (K (.slice (if c=(gZ lo).toNat then a else a.map (·.add ((gZ lo).toNat*n))) ((rN l hi).toNat-(gZ lo).toNat) (c-(gZ lo).toNat))):=by
 simp only[ksl,sliceW,mO,mSlice,loW_eq h1,hiW_eq h2,kG,asP_rfl]
@[simp] theorem kk {a:Addr} {l:Nat} {lo hi:Option Value} (h1:nr lo=true) (h2:nr hi=true):ksl (some (.array l e)) (some n) (.pointer (some a)) lo hi K =
  kG (0≤gZ lo∧gZ lo≤rN l hi∧rN l hi≤l) (K (.slice (some (if l=(gZ lo).toNat then a else a.add ((gZ lo).toNat*n))) ((rN l hi).toNat-(gZ lo).toNat) (l-(gZ lo).toNat))):=by
 simp only[ksl,sliceW,mO,mPtr,loW_eq h1,hiW_eq h2,kG,asP_rfl]
@[simp] theorem Qf {ty:TypeId} {z:Value}:kta ty z true .nilIface K=K (.tuple #[z,.bool false]):=rfl
@[simp] theorem MJ {ty:TypeId} {z v:Value}:kta ty z true (.iface ty v) K=K (.tuple #[v,.bool true]):=by simp[kta,taW]
@[simp] theorem Mt {ty:TypeId} {z v:Value}:kta ty z false (.iface ty v) K=K v:=by simp[kta,taW]
theorem nT {ty ty':TypeId} (h:ty'≠ty):kta ty z true (.iface ty' v) K=K (.tuple #[z,.bool false]):=by simp[kta,taW,h]
end slices
@[simp] theorem IC {z:Value} {n:Nat} {ty:TypeId} {l c:Int} {K:Value→World→Prop}:kmk z n ty (.int .i64 l) (.int .i64 c) w K =
  kG (0≤l∧l≤c∧c≤9223372036854775807∧n*c≤281474976710656) (K (.slice (some ⟨w.heap.size,0,none⟩) l.toNat c.toNat) (w.alloc (.cells (zrow z.cells.toList c.toNat).toArray ty))):=by
 simp[kmk,makeSliceW,mIntK,kG]
theorem dA {s:Sem Value} {K:Value→World→Prop} (h:s.run P w=.ok v w'):ksem P s w K=K v w':=by simp[ksem,semV,h]
theorem lQ {s:Sem Unit} {K:Value→World→Prop} (h:s.run P w=.ok () w'):ksemU P s w K=K undef w':=by simp[ksemU,semU,h]
theorem ab {K Q:Value→World→Prop} (h:af P f args w Q) (hk:∀v w',Q v w'→K v w'):ae P f args w K:=h.mono hk
theorem tK {α β:Type} {F:α→β→Prop} (I:α) (μ:β) (h:F I μ):kL F:=⟨I,μ,h⟩
def dM (P:Program) (t:TypeId):Bool:=match P.underlying t with
 | some (.pointer _)=>true
 | _=>false
def eT (P:Program) (t:TypeId):Bool:=match P.underlying t with
 | some (.interface _)=>true
 | _=>false
def je (P:Program) (t:TypeId):Bool:=match P.underlying t with
 | some (.slice _)=>true
 | _=>false
section
variable {K:Value→World→Prop} {t:TypeId} {cx cy:Bool}
theorem equal_ptr_nil (h:dM P t=true) (a:Option Addr):(Op.equal t (.pointer a) (.pointer none)).run P w=.ok a.isNone w:=by
 unfold dM at h; split at h
 ·rename_i e hu;unfold Op.equal Op.maxDepth; rw[Op.equalIn];cases a<;>simp[run_underlying hu]
 ·cases h
theorem equal_if_nil (h:eT P t=true) (ty:TypeId) (v:Value):(Op.equal t (.iface ty v) .nilIface).run P w=.ok false w:=by
 unfold eT at h; split at h
 ·rename_i e hu;unfold Op.equal Op.maxDepth; rw[Op.equalIn];simp[run_underlying hu]
 ·cases h
theorem equal_nil_if (h:eT P t=true) (ty:TypeId) (v:Value):(Op.equal t .nilIface (.iface ty v)).run P w=.ok false w:=by
 unfold eT at h; split at h
 ·rename_i e hu;unfold Op.equal Op.maxDepth; rw[Op.equalIn];simp[run_underlying hu]
 ·cases h
theorem equal_nil_nil (h:eT P t=true):(Op.equal t .nilIface .nilIface).run P w=.ok true w:=by
 unfold eT at h; split at h
 ·rename_i e hu;unfold Op.equal Op.maxDepth; rw[Op.equalIn];simp[run_underlying hu]
 ·cases h
theorem equal_sl_nil (h:je P t=true) (a:Option Addr) (n c:Nat):(Op.equal t (.slice a n c) (.slice none 0 0)).run P w=.ok a.isNone w:=by
 unfold je at h; split at h
 ·rename_i e hu;unfold Op.equal Op.maxDepth; rw[Op.equalIn];cases a<;>simp[run_underlying hu]
 ·cases h
@[simp] theorem aJ (h:dM P t=true) (a:Option Addr):keq P .eql t cx cy (.pointer a) (.pointer none) w K=K (.bool a.isNone) w:=by
 simp[keq,eqW,semV,eqGuard,binOp,equal_ptr_nil h]
@[simp] theorem eU (h:dM P t=true) (a:Option Addr):keq P .neq t cx cy (.pointer a) (.pointer none) w K=K (.bool (!a.isNone)) w:=by
 simp[keq,eqW,semV,eqGuard,binOp,equal_ptr_nil h]
@[simp] theorem dT (h:eT P t=true) (ty:TypeId) (v:Value):keq P .eql t cx cy (.iface ty v) .nilIface w K=K (.bool false) w:=by
 simp[keq,eqW,semV,eqGuard,binOp,equal_if_nil h]
@[simp] theorem dB (h:eT P t=true) (ty:TypeId) (v:Value):keq P .neq t cx cy (.iface ty v) .nilIface w K=K (.bool true) w:=by
 simp[keq,eqW,semV,eqGuard,binOp,equal_if_nil h]
@[simp] theorem ID (h:eT P t=true) (ty:TypeId) (v:Value):keq P .eql t cx cy .nilIface (.iface ty v) w K=K (.bool false) w:=by
 simp[keq,eqW,semV,eqGuard,binOp,equal_nil_if h]
@[simp] theorem Fy (h:eT P t=true) (ty:TypeId) (v:Value):keq P .neq t cx cy .nilIface (.iface ty v) w K=K (.bool true) w:=by
 simp[keq,eqW,semV,eqGuard,binOp,equal_nil_if h]
@[simp] theorem gp (h:eT P t=true):keq P .eql t cx true .nilIface .nilIface w K=K (.bool true) w:=by
 simp[keq,eqW,semV,eqGuard,binOp,equal_nil_nil h,flagOp]
@[simp] theorem aV (h:eT P t=true):keq P .neq t cx true .nilIface .nilIface w K=K (.bool false) w:=by
 simp[keq,eqW,semV,eqGuard,binOp,equal_nil_nil h,flagOp]
@[simp] theorem fg (h:je P t=true) (a:Option Addr) (n c:Nat):keq P .eql t cx cy (.slice a n c) (.slice none 0 0) w K=K (.bool a.isNone) w:=by
 simp[keq,eqW,semV,eqGuard,binOp,equal_sl_nil h]
@[simp] theorem Fz (h:je P t=true) (a:Option Addr) (n c:Nat):keq P .neq t cx cy (.slice a n c) (.slice none 0 0) w K=K (.bool (!a.isNone)) w:=by
 simp[keq,eqW,semV,eqGuard,binOp,equal_sl_nil h]
end
theorem dV (h1: -9223372036854775808≤n) (h2:n≤9223372036854775807):IntKind.i64.wrap n=n:=by
 unfold IntKind.wrap; simp[IntKind.signed,IntKind.bits]; omega
theorem jL (h1:0≤n) (h2:n<4294967296):IntKind.u32.wrap n=n:=by
 unfold IntKind.wrap; simp[IntKind.signed,IntKind.bits]; omega
theorem xC (h1:0≤n) (h2:n<18446744073709551616):IntKind.u64.wrap n=n:=by
 unfold IntKind.wrap; simp[IntKind.signed,IntKind.bits]; omega
@[simp] theorem add_mk (b o n:Nat):Addr.add ⟨b,o,none⟩ n=⟨b,o+n,none⟩:=by
 unfold Addr.add; split<;>simp_all
end
end
section
def aX (w:World) (b:Nat):Option Obj:=w.heap[b]?
def cellO:Option Obj→Nat→Option Value
 | some (.cells c _ _),i=>c[i]?
 | _,_=>none
@[simp] theorem cell_mk (w:World) (b i:Nat):w.cell? ⟨b,i,none⟩=cellO (aX w b) i:=by
 unfold World.cell? cellO aX;split<;>simp_all
@[simp] theorem dU {c:Array Value} {t:TypeId} {f:Nat×Nat} {i:Nat}:cellO (some (.cells c t f)) i=c[i]?:=rfl
def cellsO (o:Option Obj) (i n:Nat):Option (List Value):=match o with
 | some (.cells c _ _)=>if i+n≤c.size then some ((c.toList.drop i).take n) else none
 | _=>none
theorem rX (w:World) (b o:Nat):∀(n i:Nat),(n=0→∃c t f,aX w b=some (.cells c t f)∧o+i≤c.size)→cellsAt w ⟨b,o,none⟩ i n=cellsO (aX w b) (o+i) n:=by
 intro n;induction n with
 | zero =>
  intro i h;obtain⟨c,t,f,hb,hle⟩:=h rfl;simp[cellsAt,cellsO,hb,hle]
 | succ n ih =>
  intro i _;simp only[cellsAt,add_mk,cell_mk];cases hb:aX w b with
  | none=>simp[cellO,cellsO]
  | some ob =>
   cases ob<;>simp only[cellO,cellsO];rename_i c t f;by_cases hlt:o+i<c.size
   ·have e1:c[o+i]?=some c[o+i]:=by simp[hlt]
    rw[e1];simp only[];rw[ih (i+1) (fun _=>⟨c,t,f,hb,by omega⟩),hb];simp only[cellsO];by_cases h2:o+(i+1)+n≤c.size
    ·rw[if_pos h2,if_pos (show o+i+(n+1)≤c.size by omega)];simp only[Option.some.injEq];have hd:c.toList.drop (o+i)=c[o+i]::c.toList.drop (o+(i+1)):=by
      rw[List.drop_eq_getElem_cons (by simpa using hlt)]; rfl
     rw[hd]; simp
    ·rw[if_neg h2,if_neg (show ¬o+i+(n+1)≤c.size by omega)]
   ·have e1:c[o+i]?=none:=by simp; omega
    rw[e1,if_neg (by omega)]
@[simp] theorem qi (w:World) (b o n:Nat) (h:0<n):cellsAt w ⟨b,o,none⟩ 0 n=cellsO (aX w b) o n:=rX w b o n 0 (by omega)
@[simp] theorem qj {c:Array Value} {t:TypeId} {f:Nat×Nat} {i n:Nat} (h:i+n≤c.size):cellsO (some (.cells c t f)) i n=some ((c.toList.drop i).take n):=by
 simp[cellsO,h]
def World.setBlk (w:World) (b:Nat) (o:Obj):World:={ w with heap:=w.heap.setIfInBounds b o }
def oneCells:List Value→Bool
 | []=>true
 | v::vs=>v.oneCell'&&oneCells vs
def setAll:List Value→Array Value→Nat→Array Value
 | [],c,_=>c
 | v::vs,c,i=>setAll vs (c.setIfInBounds i v) (i+1)
theorem setAll_size:∀(vs:List Value) (c:Array Value) (i:Nat),(setAll vs c i).size=c.size
 | [],_,_=>rfl
 | v::vs,c,i=>by simp[setAll,setAll_size vs]
theorem kT {t:TypeId} (h:aX w b=some (.cells c t f)) (v:Value):w.setCell ⟨b,o,none⟩ v=World.setBlk w b (.cells (c.setIfInBounds o v) t f):=by
 obtain⟨hlt,hb⟩:=Array.getElem?_eq_some_iff.1 (show w.heap[b]?=_ from h);unfold World.setCell World.setBlk;congr 1;apply Array.ext_getElem?;intro i;rw[Array.getElem?_modify];by_cases hi:b=i
 ·subst hi;simp[hlt,hb]
 ·simp[hi,Array.getElem?_setIfInBounds_ne hi]
theorem cN (w:World) (b:Nat) (o:Obj) (i:Nat):aX (World.setBlk w b o) i=if b=i then(aX w i).map (fun _=>o) else aX w i:=by
 unfold World.setBlk aX;by_cases h:b=i
 ·subst h;by_cases hlt:b<w.heap.size
  ·simp[hlt]
  ·simp[hlt]
 ·simp[h,Array.getElem?_setIfInBounds_ne h]
theorem jf (w:World) (b:Nat) (o o':Obj):World.setBlk (World.setBlk w b o) b o'=World.setBlk w b o':=by simp[World.setBlk]
theorem jq {t:TypeId}:∀(vs:List Value) (i:Nat) (w:World) (c:Array Value),aX w b=some (.cells c t (0,0))→oneCells vs=true→o+i+vs.length≤c.size→vs≠[] →
  stores ⟨b,o,none⟩ vs i w=some (World.setBlk w b (.cells (setAll vs c (o+i)) t (0,0)))
 | [],_,_,_,_,_,_,h=>absurd rfl h
 | v::vs,i,w,c,hb,h1,h2,_=>by
  simp only[oneCells,Bool.and_eq_true]at h1;simp only[List.length_cons]at h2;have hfr:w.frozen? ⟨b,o+i,none⟩=false:=by unfold World.frozen?; rw[show w.heap[b]?=_ from hb]; simp
  have hcl:(w.cell? ⟨b,o+i,none⟩).isSome=true:=by rw[cell_mk,hb]; simp; omega
  have hs:w.setCell ⟨b,o+i,none⟩ v=World.setBlk w b (.cells (c.setIfInBounds (o+i) v) t (0,0)):=kT hb v;simp only[stores,add_mk,h1.1,hfr,hcl,hs,Bool.and_true,Bool.not_false,cond_true];have hb':aX (World.setBlk w b (.cells (c.setIfInBounds (o+i) v) t (0,0))) b=some (.cells (c.setIfInBounds (o+i) v) t (0,0)):=by rw[cN,hb]; simp
  cases vs with
  | nil=>simp[stores,setAll]
  | cons u us =>
   rw[jq (u::us) (i+1) _ _ hb' h1.2 (by simp at h2 ⊢; omega) (by simp),jf];simp[setAll,Nat.add_assoc]
theorem lR (w:World) (o:Obj) (i:Nat):aX (w.alloc o) i=if i=w.heap.size then some o else aX w i:=by
 show(w.heap.push o)[i]?=if i=w.heap.size then some o else w.heap[i]?
 rw[Array.getElem?_push]
@[simp] theorem cq (w:World) (o:Obj):aX (w.alloc o) w.heap.size=some o:=by rw[lR,if_pos rfl]
theorem iG {w:World} (h:i<w.heap.size):aX (w.alloc o) i=aX w i:=by rw[lR,if_neg (by omega)]
@[simp] theorem Mu (w:World):w.drew.heap=w.heap:=rfl
@[simp] theorem xD (w:World) (b:Nat):aX w.drew b=aX w b:=rfl
theorem dC (w:World) (b:Nat) (o:Obj):(World.setBlk w b o).heap.size=w.heap.size:=by simp[World.setBlk]
theorem aC (h:aX w b=some o):b<w.heap.size:=(Array.getElem?_eq_some_iff.1 (show w.heap[b]?=_ from h)).1
theorem rY {w:World} {c:Array Value} {t:TypeId} (h1:oneCells vs=true) (h2:o+vs.length≤c.size) (h3:vs≠[]):stores ⟨w.heap.size,o,none⟩ vs 0 (w.alloc (.cells c t))=some (w.alloc (.cells (setAll vs c o) t)):=by
 rw[jq vs 0 (w.alloc (.cells c t)) c (cq _ _) h1 (by simpa using h2) h3];simp only[Nat.add_zero,Option.some.injEq];unfold World.setBlk World.alloc;congr 1;apply Array.ext_getElem?;intro i;by_cases hi:w.heap.size=i
 ·subst hi; simp
 ·rw[Array.getElem?_setIfInBounds_ne hi,Array.getElem?_push,Array.getElem?_push,if_neg (fun e=>hi e.symm),if_neg (fun e=>hi e.symm)]
attribute [simp] rY setAll oneCells Value.oneCell' Value.cells
structure aH (fp:Nat→Prop) (w w':World):Prop where
 os:w'.os=w.os
 tape:w'.tape=w.tape
 output:w'.output=w.output
 size:w.heap.size≤w'.heap.size
 kept:∀k,k<w.heap.size→¬fp k→aX w' k=aX w k
abbrev Same (w w':World):Prop:=aH (fun _=>False) w w'
theorem aH.refl (fp:Nat→Prop) (w:World):aH fp w w:=⟨rfl,rfl,rfl,Nat.le_refl _,fun _ _ _=>rfl⟩
theorem aH.trans (h:aH fp a b) (k:aH fp b c):aH fp a c :=
 ⟨k.os.trans h.os,k.tape.trans h.tape,k.output.trans h.output,Nat.le_trans h.size k.size,fun i hi hf=>(k.kept i (Nat.lt_of_lt_of_le hi h.size) hf).trans (h.kept i hi hf)⟩
theorem aH.mono {fp fp':Nat→Prop} (h:aH fp w w') (hm:∀k,k<w.heap.size→fp k→fp' k):aH fp' w w':=⟨h.os,h.tape,h.output,h.size,fun k hk hf=>h.kept k hk fun hh=>hf (hm k hk hh)⟩
theorem aH.of_same (h:Same w w'):aH fp w w':=h.mono fun _ _ h=>h.elim
theorem aH.trans' (h:aH fp a b) (k:aH (fun i=>fp i∨a.heap.size≤i) b c):aH fp a c :=
 ⟨k.os.trans h.os,k.tape.trans h.tape,k.output.trans h.output,Nat.le_trans h.size k.size,fun i hi hf=>(k.kept i (Nat.lt_of_lt_of_le hi h.size) (by rintro(h | h); exact hf h; omega)).trans (h.kept i hi hf)⟩
theorem aH.alloc (h:aH fp a w) (o:Obj):aH fp a (w.alloc o) :=
 h.trans ⟨rfl,rfl,rfl,by simp,fun k hk _=>iG hk⟩
theorem aH.drew (h:aH fp a w):aH fp a w.drew:=⟨h.os,h.tape,h.output,h.size,h.kept⟩
theorem aH.setBlk {fp:Nat→Prop} (h:aH fp a w) {b:Nat} (o:Obj) (hb:fp b∨a.heap.size≤b):aH fp a (World.setBlk w b o) :=
 ⟨h.os,h.tape,h.output,by rw[dC]; exact h.size,fun k hk hf=>by
  rw[cN,if_neg (fun e=>by rcases hb with hb | hb; exact hf (e▸hb); omega)];exact h.kept k hk hf⟩
theorem aH.get {fp:Nat→Prop} (h:aH fp w w') {b:Nat} {o:Obj} (hb:aX w b=some o) (hf:¬fp b):aX w' b=some o:=(h.kept b (aC hb) hf).trans hb
theorem aH.below (h:Same w w'):Below w.heap.size w w':=⟨h.os,h.tape,h.output,h.size,fun k hk=>h.kept k hk (fun h=>h)⟩
end
section
def aZ (w:World) (a:Option Addr) (n sz:Nat) (vs:List Value):Prop :=
 vs.length=n*sz∧(n=0∨∃b o c t f,a=some ⟨b,o,none⟩∧aX w b=some (.cells c t f)∧(c.toList.drop o).take (n*sz)=vs)
theorem aZ.mod {fp:Nat→Prop} (h:aZ w a n sz vs) (hm:aH fp w w') (hf:∀b o,a=some ⟨b,o,none⟩→¬fp b):aZ w' a n sz vs:=by
 refine⟨h.1,h.2.imp id ?_⟩;rintro⟨b,o,c,t,f,rfl,hb,hc⟩;exact⟨b,o,c,t,f,rfl,hm.get hb (hf b o rfl),hc⟩
theorem aZ.same (h:aZ w a n sz vs) (hm:Same w w'):aZ w' a n sz vs:=h.mod hm fun _ _ _ h=>h
theorem aZ.at (h:aZ w a n sz vs) {i:Nat} (hi:i<n) (hs:0<sz):∃b o c t f,a=some ⟨b,o,none⟩∧aX w b=some (.cells c t f)∧o+i*sz+sz≤c.size∧(c.toList.drop (o+i*sz)).take sz=(vs.drop (i*sz)).take sz:=by
 rcases h.2 with h0 | ⟨b,o,c,t,f,rfl,hb,hc⟩
 ·omega
 ·refine⟨b,o,c,t,f,rfl,hb,?_,?_⟩
  ·have h1:=h.1;rw[←hc,List.length_take,List.length_drop,Array.length_toList]at h1;have h2:(i+1)*sz≤n*sz:=Nat.mul_le_mul_right _ hi;rw[Nat.add_mul]at h2;have h3:sz≤n*sz:=by omega
   omega
  ·rw[←hc,List.drop_take,List.take_take,List.drop_drop];have h2:(i+1)*sz≤n*sz:=Nat.mul_le_mul_right _ hi;rw[Nat.add_mul]at h2;rw[Nat.min_eq_left (by omega)]
theorem aZ.at1 (h:aZ w a n 1 vs) {i:Nat} (hi:i<n) (hv:i<vs.length):∃b o c t f,a=some ⟨b,o,none⟩∧aX w b=some (.cells c t f)∧c[o+i]?=some vs[i]:=by
 obtain⟨b,o,c,t,f,ha,hb,hle,hc⟩:=h.at hi (by omega);refine⟨b,o,c,t,f,ha,hb,?_⟩;simp only[Nat.mul_one]at hc hle;rw[List.drop_eq_getElem_cons (by simp; omega),List.drop_eq_getElem_cons hv]at hc;simp only[List.take_succ_cons,List.take_zero,List.cons.injEq,and_true]at hc;rw[←hc];simp[show o+i<c.size by omega]
theorem aZ.nil (w:World) (sz:Nat) (a:Option Addr):aZ w a 0 sz []:=⟨by simp,.inl rfl⟩
theorem d5 {α:Type} (f:α→List Value) (sz:Nat) (hf:∀x,(f x).length=sz):∀(l:List α) (i:Nat) (h:i<l.length),((l.flatMap f).drop (i*sz)).take sz=f l[i]
 | x::l,0,_=>by simp[List.flatMap_cons,←hf x]
 | x::l,i+1,h=>by
  have e:(i+1)*sz=(f x).length+i*sz:=by rw[hf,Nat.add_mul]; omega
  rw[List.flatMap_cons,e,List.drop_length_add_append];simpa using d5 f sz hf l i (by simpa using h)
theorem flat_len {α:Type} (f:α→List Value) (sz:Nat) (hf:∀x,(f x).length=sz):∀(l:List α),(l.flatMap f).length=l.length*sz
 | []=>by simp
 | x::l=>by rw[List.flatMap_cons,List.length_append,hf,flat_len f sz hf l,List.length_cons,Nat.add_mul]; omega
def bf (v:Value) (b:Nat):Prop:=∃o n c,v=.slice (some ⟨b,o,none⟩) n c
def bV (w:World) (v:Value) (sz:Nat) (vs:List Value):Prop :=
 ∃a n c,v=.slice a n c∧vs.length=n*sz∧n≤c∧c≤maxLen ∧
  ((a=none∧c=0)∨∃b arr t,a=some ⟨b,0,none⟩∧aX w b=some (.cells arr t (0,0))∧arr.size=c*sz∧arr.toList.take (n*sz)=vs)
theorem bV.nil (w:World) (sz:Nat):bV w (.slice none 0 0) sz []:=⟨none,0,0,rfl,by simp,by omega,by simp[maxLen],.inl ⟨rfl,rfl⟩⟩
theorem bV.mod {fp:Nat→Prop} (h:bV w v sz vs) (hm:aH fp w w') (hf:∀b,bf v b→¬fp b):bV w' v sz vs:=by
 obtain⟨a,n,c,rfl,h1,h2,h3,h4⟩:=h;refine⟨a,n,c,rfl,h1,h2,h3,h4.imp id ?_⟩;rintro⟨b,arr,t,rfl,hb,h5⟩;exact⟨b,arr,t,rfl,hm.get hb (hf b ⟨_,_,_,rfl⟩),h5⟩
theorem bV.same (h:bV w v sz vs) (hm:Same w w'):bV w' v sz vs:=h.mod hm fun _ _ h=>h
theorem bV.is (h:bV w v sz vs):∃a n c,v=.slice a n c∧aZ w a n sz vs∧(sz=1→n=vs.length):=by
 obtain⟨a,n,c,rfl,h1,h2,h3,h4⟩:=h;refine⟨a,n,c,rfl,⟨h1,?_⟩,fun e=>by subst e; omega⟩;rcases h4 with⟨rfl,h4⟩ | ⟨b,arr,t,rfl,hb,hs,h5⟩
 ·left; omega
 ·exact .inr ⟨b,0,arr,t,_,rfl,hb,by simpa using h5⟩
theorem bV.vblk_lt (h:bV w v sz vs) {b:Nat} (hb:bf v b):b<w.heap.size:=by
 obtain⟨a,n,c,rfl,h1,h2,h3,h4⟩:=h;obtain⟨o,n',c',e⟩:=hb;cases e;rcases h4 with⟨h4,_⟩ | ⟨b',arr,t,e,hb,_⟩
 ·cases h4
 ·cases e; exact aC hb
theorem Src.ofSlIs {P:Program} (hk:P.underlying tx=some (.slice e')) {a:Option Addr} {n:Nat} (c:Nat) {vs:List Value} (h:aZ w a n sz vs) (h1:oneCells vs=true):Src P sz tx (.slice a n c) n vs w:=by
 have h1':∀u∈vs,u.oneCell'=true:=by
  clear h;induction vs with
  | nil=>intro u hu; cases hu
  | cons v vs ih =>
   simp only[oneCells,Bool.and_eq_true]at h1;intro u hu;rcases List.mem_cons.1 hu with rfl | hu
   ·exact h1.1
   ·exact ih h1.2 u hu
 rcases h.2 with rfl | ⟨b,o,cs,t,f,rfl,hb,hc⟩
 ·have e:vs=[]:=by have:=h.1; simpa using this
  subst e;cases a with
  | none=>exact Src.ofNil w hk c
  | some a=>exact Src.ofSlice w hk a 0 c [] (by simp) (by simp) (by simp)
 ·refine Src.ofSlice w hk _ n c vs h.1 ?_ h1';intro j u hu;have:(Addr.add ⟨b,o,none⟩ j)=⟨b,o+j,none⟩:=add_mk ..;rw[this,cell_mk,hb,dU];rw[←hc]at hu;have hj:j<n*sz:=by
   have:=(List.getElem?_eq_some_iff.1 hu).1;simp only[List.length_take]at this;omega
  rw[List.getElem?_take_of_lt hj,List.getElem?_drop]at hu;simpa using hu
theorem eW {t:TypeId}:∀(vs:List Value) (o:Nat) (w:World) (c:Array Value),aX w b=some (.cells c t f)→w.setCells b o vs=World.setBlk w b (.cells (setAll vs c o) t f)
 | [],o,w,c,h=>by
  simp only[World.setCells,setAll];unfold World.setBlk;have e:w.heap.setIfInBounds b (.cells c t f)=w.heap:=by
   apply Array.ext_getElem?;intro i;rw[Array.getElem?_setIfInBounds];split
   ·rename_i e;subst e;have h':w.heap[b]?=some (.cells c t f):=h;rw[h'];split
    ·rfl
    ·rename_i hh; exact absurd (aC h) hh
   ·rfl
  rw[e]
 | v::vs,o,w,c,h=>by
  simp only[World.setCells,setAll];rw[kT h];rw[eW vs (o+1) _ (c.setIfInBounds o v) (by rw[cN,if_pos rfl,h]; rfl),jf]
theorem dS:∀(vs:List Value) (c:Array Value) (i:Nat),i+vs.length≤c.size→(setAll vs c i).toList=c.toList.take i++vs++c.toList.drop (i+vs.length)
 | [],c,i,h=>by simp[setAll]
 | v::vs,c,i,h=>by
  simp only[List.length_cons]at h;rw[setAll,dS vs _ (i+1) (by simp; omega)];simp only[Array.toList_setIfInBounds,List.length_cons];have hi:i<c.toList.length:=by simp; omega
  rw[List.drop_set,if_pos (by omega),List.take_set,List.take_succ_eq_append_getElem hi,List.set_append_right _ _ (by simp; omega)];simp[Nat.min_eq_left (show i≤c.size by omega)];rw[show i+1+vs.length=i+(vs.length+1) by omega]
def appT (P:Program) (t sz bytes:Nat):Bool:=match P.underlying t with
 | some (.slice e)=>match P.info? e with
  | some i=>i.size ==sz&&i.bytes ==bytes&&(match i.zero with | some z=>z.cells.size ==sz | none=>false)
  | none=>false
 | _=>false
def Qm (P:Program) (t:Nat):Bool:=match P.underlying t with
 | some (.slice _)=>true
 | _=>false
theorem dI (h:Qm P t=true):∃e,P.underlying t=some (.slice e):=by
 unfold Qm at h; split at h
 ·rename_i e he; exact⟨e,he⟩
 ·cases h
theorem rZ {P:Program} {w:World} {t tx ty sz bytes:Nat} (ht:appT P t sz bytes=true) (hsz:0<sz) {v x:Value} {vs news:List Value} {n:Nat}
  (hv:bV w v sz vs) (hs:Src P sz tx x n news w) (hn:vs.length+news.length≤9223372036854775807) (hb:(vs.length+news.length)*bytes≤140737488355328) :
  ∃v' w',(Builtin.append_ #[t,tx] ty #[v,x]).run P w=.ok v' w'∧bV w' v' sz (vs++news)∧aH (bf v) w w'∧(∀b,bf v' b→bf v b∨w.heap.size≤b):=by
 obtain⟨e,he⟩:=dI (P:=P) (t:=t) (by unfold appT at ht; unfold Qm; split at ht<;>simp_all);simp only[appT,he]at ht;split at ht<;>try cases ht
 rename_i i hi;simp only[Bool.and_eq_true,beq_iff_eq]at ht;obtain⟨⟨hsize,hby⟩,hz⟩:=ht;split at hz<;>try cases hz
 rename_i z hz0;have hzs:z.cells.size=sz:=by simpa using hz
 subst hsize hby
 obtain⟨a,k,c,rfl,h1,h2,h3,h4⟩:=hv;have hle:∀m:Nat,m≤m*i.size:=fun m=>Nat.le_mul_of_pos_right m hsz;have hnl:=hs.newsLen;have hk1:=hle k;have hn1:=hle n;by_cases hroom:k+n≤c
 ·rcases h4 with⟨rfl,hc0⟩ | ⟨b,arr,t',rfl,hb',hsz',h5⟩
  ·have hk0:k=0:=by omega
   have hn0:n=0:=by omega
   subst hk0 hn0 hc0;have e1:news=[]:=by simpa using hnl
   have e2:vs=[]:=by simpa using h1
   subst e1 e2;have hc':=hs.cells;have hl':=hs.len w;refine⟨.slice none 0 0,w,?_,bV.nil _ _,aH.refl _ _,fun b hb=>by obtain⟨_,_,_,h⟩:=hb; cases h⟩;rcases hs.kind with⟨e',hk⟩ | hk<;>simp[Builtin.append_,run_underlying he,run_underlying hk,sizeOf,typeInfo,hi,hl',hc']
  ·have hkn:(k+n)*i.size≤c*i.size:=Nat.mul_le_mul_right _ hroom;rw[Nat.add_mul]at hkn;have hr:=run_append_room_src (P:=P) w t tx ty e i he hi b 0 k c x n news hs hroom
    (fun j hj=>by rw[cell_mk,hb',dU]; simp; omega) (fun j hj=>by simp[World.frozen?,show w.heap[b]?=_ from hb'])
   refine⟨_,_,hr,?_,?_,?_⟩
   ·rw[eW news _ w arr hb'];refine⟨_,_,_,rfl,by rw[List.length_append,h1,hnl,Nat.add_mul],hroom,h3,.inr ⟨b,_,_,rfl,by rw[cN,if_pos rfl,hb']; rfl,by rw[setAll_size]; exact hsz',?_⟩⟩;have hlen:(vs++news).length=(k+n)*i.size:=by rw[List.length_append,h1,hnl,Nat.add_mul]
    rw[dS _ _ _ (by omega)];simp only[Nat.zero_add,h5];rw[←hlen,List.take_left]
   ·rw[eW news _ w arr hb'];exact(aH.refl _ _).setBlk _ (.inl ⟨0,k,c,rfl⟩)
   ·rintro b' ⟨o,n',c',e⟩;cases e;exact .inl ⟨_,_,_,rfl⟩
 ·have hold:(Builtin.firstCells i.size k (.slice a k c)).run P w.drew=.ok vs.toArray w.drew:=by
   rcases h4 with⟨rfl,hc0⟩ | ⟨b,arr,t',rfl,hb',hsz',h5⟩
   ·have hk0:k=0:=by omega
    subst hk0;have e2:vs=[]:=by simpa using h1
    subst e2;exact run_firstCells_none (P:=P) w.drew i.size 0 0 c
   ·refine run_firstCells_some (P:=P) w.drew i.size k _ k c vs h1 ?_;intro j u hu;rw[show(Addr.add ⟨b,0,none⟩ j)=⟨b,0+j,none⟩from add_mk ..,cell_mk,xD,hb',dU];rw[←h5]at hu;have hj:j<k*i.size:=by
     have:=(List.getElem?_eq_some_iff.1 hu).1;simp only[List.length_take]at this;omega
    rw[List.getElem?_take_of_lt hj]at hu;simpa using hu
  have hnb:(k+n)*i.bytes≤140737488355328:=Nat.le_trans (Nat.mul_le_mul_right _ (by omega)) hb;have hmax:k+n≤maxLen:=by simp only[maxLen]; omega
  have hr:=run_append_grow_src (P:=P) w t tx ty e i z he hi hz0 a k c vs hold x n news hs (by omega) (by omega) (growslice_fits (by omega) hnb);have hge:=grownCap_ge w (k+n) c e;have hcm:=grownCap_le_maxLen w (k+n) c e hmax;have hlen:(vs++news).length=(k+n)*i.size:=by rw[List.length_append,h1,hnl,Nat.add_mul]
  refine⟨_,_,hr,⟨_,_,_,rfl,hlen,hge,hcm,.inr ⟨w.heap.size,_,_,rfl,cq w.drew _,?_,?_⟩⟩,((aH.refl _ _).drew).alloc _,?_⟩
  ·rw[Array.size_append,size_zeroCells,List.size_toArray,hlen,hzs,←Nat.add_mul];congr 1; omega
  ·simp only[Array.toList_append];rw[←hlen];exact List.take_left
  ·rintro b' ⟨o,n',c',e⟩;cases e;exact .inr (Nat.le_refl _)
theorem be {P:Program} {w:World} {t tx ty sz bytes:Nat} {K:Value→World→Prop} (ht:appT P t sz bytes=true) (hsz:0<sz) {v x:Value} {vs news:List Value} {n:Nat}
  (hv:bV w v sz vs) (hs:Src P sz tx x n news w) (hn:vs.length+news.length≤9223372036854775807) (hb:(vs.length+news.length)*bytes≤140737488355328)
  (h:∀v' w',bV w' v' sz (vs++news)→aH (bf v) w w'→(∀b,bf v' b→bf v b∨w.heap.size≤b)→K v' w'):ksem P (Builtin.append_ #[t,tx] ty #[v,x]) w K:=by
 obtain⟨v',w',hr,h1,h2,h3⟩:=rZ (ty:=ty) ht hsz hv hs hn hb;rw[dA hr];exact h v' w' h1 h2 h3
theorem bV.new {w:World} {t:TypeId} {arr:Array Value} (h:arr.size=n*sz) (hn:n≤maxLen):bV (w.alloc (.cells arr t)) (.slice (some ⟨w.heap.size,0,none⟩) n n) sz arr.toList :=
 ⟨_,n,n,rfl,by simpa using h,Nat.le_refl _,hn,.inr ⟨_,arr,t,rfl,cq _ _,h,by rw[←h,←Array.length_toList,List.take_length]⟩⟩
end
section
def r5 (want:Array (String×TypeId)) (got:Array Method):Bool:=want.toList.all fun p=>got.any fun m=>m.name ==p.1&&m.sig ==p.2
def CY (P:Program) (t asserted:TypeId):Option Bool:=match P.underlying asserted,P.info? t with
 | some (.interface want),some i=>some (r5 want i.methods)
 | _,_=>none
theorem r6:∀(l:List String),Instr.least l=none↔l=[]
 | []=>by simp[Instr.least]
 | s::r=>by simp[Instr.least]
theorem least_orElse:(Instr.least a <|>Instr.least b)=none↔a=[]∧b=[]:=by
 cases a with
 | nil=>simpa [Instr.least] using r6 b
 | cons x y=>simp[Instr.least]
theorem oQ {f:String→Bool} (h1:∀a∈l,¬(not∘f) a=true) (h2:∀a∈l,¬f a=true):l=[]:=by
 cases l with
 | nil=>rfl
 | cons x y =>
  have a:=h1 x (by simp);have b:=h2 x (by simp);simp only[Function.comp]at a;cases h:f x<;>simp[h]at a b
theorem jM (want:Array (String×TypeId)) (got:Array Method):Instr.missingMethod want got=none↔r5 want got=true:=by
 unfold Instr.missingMethod r5;simp only[least_orElse,List.map_eq_nil_iff,List.partition_eq_filter_filter];rw[List.all_eq_true];generalize hm:List.filter (fun x=>match x with | (name,sig)=>!got.any fun m=>m.name ==name&&m.sig ==sig) want.toList=l;have key:l=[]↔∀p∈want.toList,(got.any fun m=>m.name ==p.1&&m.sig ==p.2)=true:=by
  rw[←hm,List.filter_eq_nil_iff];constructor
  ·intro h p hp;have:=h p hp;simpa using this
  ·intro h p hp;have:=h p hp;simp only[this,Bool.not_true,Bool.false_eq_true,not_false_eq_true]
 rw[←key];constructor
 ·rintro⟨h1,h2⟩;rw[List.filter_eq_nil_iff]at h1 h2;simpa using oQ h1 h2
 ·rintro rfl;simp
section
variable {P:Program} {w:World} {K:Value→World→Prop}
theorem qk {t a s:TypeId} (h:CY P t a=some true):ksem P (Instr.typeAssert (.iface t v) s a true) w K=K (.tuple #[.iface t v,.bool true]) w:=by
 unfold CY at h; split at h<;>try cases h
 rename_i want i hu hi;have hm:=(jM want i.methods).2 (by simpa using h);exact dA (by simp[Instr.typeAssert,run_underlying hu,typeInfo,hi,hm])
theorem ia {t a s:TypeId} (h:CY P t a=some false) (hz:(P.info? a).map (·.zero)=some (some .nilIface)):ksem P (Instr.typeAssert (.iface t v) s a true) w K=K (.tuple #[.nilIface,.bool false]) w:=by
 unfold CY at h; split at h<;>try cases h
 rename_i want i hu hi;have hm:∃m,Instr.missingMethod want i.methods=some m:=by
  cases hh:Instr.missingMethod want i.methods with
  | none=>have:=(jM want i.methods).1 hh; simp[this]at h
  | some m=>exact⟨m,rfl⟩
 obtain⟨m,hm⟩:=hm;simp only[Option.map_eq_some_iff]at hz;obtain⟨j,hj,hj2⟩:=hz;exact dA (by simp[Instr.typeAssert,run_underlying hu,typeInfo,hi,hm,zeroValue,hj,hj2])
def xE (P:Program) (t:TypeId):Bool:=match P.underlying t with
 | some (.pointer e)=>(match P.info? t with | some i=>i.comparable | none=>false)&&(match P.info? e with | some j=>j.size !=0 | none=>false)
 | _=>false
theorem ql {t tp:TypeId} (ht:eT P t=true) (hp:xE P tp=true) :
  keq P .eql t cx cy (.iface tp (.pointer (some a))) (.iface tp (.pointer (some a))) w K=K (.bool true) w:=by
 unfold eT at ht; split at ht<;>try cases ht
 rename_i ms hu;unfold xE at hp; split at hp<;>try cases hp
 rename_i e he;simp only[Bool.and_eq_true]at hp;obtain⟨h1,h2⟩:=hp;split at h1<;>try cases h1
 rename_i i hi;split at h2<;>try cases h2
 rename_i j hj;simp[keq,eqW,semV,eqGuard,run_eql_iface_ptr_same w a hu he hi h1 hj]
theorem oS {t tp:TypeId} {ta tb:TypeId} (ht:eT P t=true) (hp:xE P tp=true) (hne:a≠b)
  (ha:aX w a.block=some (.cells ca ta (0,0))) (hb:aX w b.block=some (.cells cb tb (0,0))) :
  keq P .eql t cx cy (.iface tp (.pointer (some a))) (.iface tp (.pointer (some b))) w K=K (.bool false) w:=by
 unfold eT at ht; split at ht<;>try cases ht
 rename_i ms hu;unfold xE at hp; split at hp<;>try cases hp
 rename_i e he;simp only[Bool.and_eq_true]at hp;obtain⟨h1,h2⟩:=hp;split at h1<;>try cases h1
 rename_i i hi;split at h2<;>try cases h2
 rename_i j hj;simp[keq,eqW,semV,eqGuard,run_eql_iface_ptr_other w hu he hi h1 hj (by simpa using h2) hne ha hb]
theorem qm {t tp tq:TypeId} (ht:eT P t=true) (hne:tp≠tq) :
  keq P .eql t cx cy (.iface tp a) (.iface tq b) w K=K (.bool false) w:=by
 unfold eT at ht; split at ht<;>try cases ht
 rename_i ms hu;have:(Op.equal t (.iface tp a) (.iface tq b)).run P w=.ok false w:=by
  unfold Op.equal Op.maxDepth; rw[Op.equalIn];simp[run_underlying hu,hne]
 simp[keq,eqW,semV,eqGuard,binOp,this]
end
end
end Go.Ev
