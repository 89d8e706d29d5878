import Derived.Test.YtcabkicjboedaaaDoorEvK
import Derived.Below
namespace Go.Ev
open Go Go.RowKit
/-! ### How printed conditions are walked: one rewriting rule a word. 'simp -dsimp' with the facts at hand walks up to the next call, test or loop. -/
section
variable {α : Type} {P : Program} {w : World}
@[simp] theorem kO_some {a : α} {K : α → Prop} : kO (some a) K = K a := rfl
@[simp] theorem kB_bool {b : Bool} {K : Bool → Prop} : kB (.bool b) K = K b := rfl
@[simp] theorem kStr_string {s : ByteArray} {K : ByteArray → Prop} : kStr (.string s) K = K s := rfl
@[simp] theorem kInt_int {k : IntKind} {n : Int} {K : Int → Prop} : kInt (.int k n) K = K n := rfl
@[simp] theorem kN_ptr {a : Addr} {K : Prop} : kN (.pointer (some a)) K = K := rfl
@[simp] theorem kN_func {f : FuncId} {x y : Array Value} {K : Prop} : kN (.func (.func f) x y) K = K := rfl
@[simp] theorem kN_iface {f : TypeId} {x : Value} {K : Prop} : kN (.iface f x) K = K := rfl
@[simp] theorem kG_true {K : Prop} : kG True K = K := by simp [kG, mG]
theorem kG_of {p K : Prop} (h : p) (k : K) : kG p K := ⟨h, k⟩
@[simp] theorem kIf_true {X Y : Prop} : kIf true X Y = X := rfl
@[simp] theorem kIf_false {X Y : Prop} : kIf false X Y = Y := rfl
theorem kIf_of {b : Bool} {X Y : Prop} (h1 : b = true → X) (h2 : b = false → Y) : kIf b X Y := by cases b; exact h2 rfl; exact h1 rfl
theorem kIf_dec {p : Prop} [Decidable p] {X Y : Prop} (h1 : p → X) (h2 : ¬ p → Y) : kIf (decide p) X Y := kIf_of (fun h => h1 (of_decide_eq_true h)) (fun h => h2 (of_decide_eq_false h))
@[simp] theorem kfld_ptr {o : Nat} {a : Addr} {K : Value → Prop} : kfld o (.pointer (some a)) K = K (.pointer (some (a.add o))) := rfl
@[simp] theorem kld_ptr {a : Addr} {K : Value → Prop} : kld (.pointer (some a)) w K = kO (w.cell? a) K := rfl
@[simp] theorem kldN_ptr {n : Nat} {a : Addr} {K : Value → Prop} : kldN n (.pointer (some a)) w K = kO (cellsAt w a 0 n) fun cs => K (.agg cs.toArray) := rfl
@[simp] theorem kst_ptr {n : Nat} {a : Addr} {v : Value} {K : World → Prop} : kst n (.pointer (some a)) v w K = kG (v.cells.size = n) (kO (stores a v.cells.toList 0 w) K) := rfl
@[simp] theorem knew_eq {cs : Array Value} {ty : TypeId} {K : Value → World → Prop} : knew cs ty w K = K (.pointer (some ⟨w.heap.size, 0, none⟩)) (w.alloc (.cells cs ty)) := rfl
@[simp] theorem kmap_eq {K : Value → World → Prop} : kmap w K = K (.map (some w.heap.size)) (w.alloc (.map #[] 0)) := rfl
@[simp] theorem kbld_eq {z : List Value} {qs : List (Nat × Nat × Value)} {K : Value → Prop} : kbld z qs K = kO (fillL z qs) fun cs => K (.agg cs.toArray) := rfl
@[simp] theorem kbldS_eq {z : List Value} {n : Nat} {qs : List (Nat × Nat × Value)} {ty : TypeId} {K : Value → World → Prop} : kbldS z n qs ty w K = kO (fillL (zrow z n) qs) fun cs => K (.slice (some ⟨w.heap.size, 0, none⟩) n n) (w.alloc (.cells cs.toArray ty)) := rfl
@[simp] theorem kext_tuple {vs : Array Value} {i : Nat} {K : Value → Prop} : kext (.tuple vs) i K = kO vs[i]? K := rfl
@[simp] theorem kcnv_int {k k' : IntKind} {n : Int} {K : Value → Prop} : kcnv k (.int k' n) K = K (.int k (k.wrap n)) := rfl
@[simp] theorem klenStr_string {s : ByteArray} {K : Value → Prop} : klenStr (.string s) K = K (.int .i64 s.size) := rfl
@[simp] theorem klen_slice {a : Option Addr} {n c : Nat} {K : Value → Prop} : klen (.slice a n c) K = K (.int .i64 n) := rfl
@[simp] theorem kcap_slice {a : Option Addr} {n c : Nat} {K : Value → Prop} : kcap (.slice a n c) K = K (.int .i64 c) := rfl
@[simp] theorem kprt_agg {cs : Array Value} {o : Nat} {K : Value → Prop} : kprt (.agg cs) o K = kO cs[o]? K := rfl
@[simp] theorem kprtN_agg {cs : Array Value} {o n : Nat} {K : Value → Prop} : kprtN (.agg cs) o n K = K (.agg (cs.extract o (o + n))) := rfl
def iand (k : IntKind) (a b : Int) : Int := k.wrap (BitVec.ofInt k.bits a &&& BitVec.ofInt k.bits b).toNat
def ior (k : IntKind) (a b : Int) : Int := k.wrap (BitVec.ofInt k.bits a ||| BitVec.ofInt k.bits b).toNat
def ixor (k : IntKind) (a b : Int) : Int := k.wrap (BitVec.ofInt k.bits a ^^^ BitVec.ofInt k.bits b).toNat
def iandn (k : IntKind) (a b : Int) : Int := k.wrap (BitVec.ofInt k.bits a &&& ~~~(BitVec.ofInt k.bits b)).toNat
def ishl (k : IntKind) (a b : Int) : Int := k.wrap (a * 2 ^ (min b.toNat k.bits))
def ishr (k : IntKind) (a b : Int) : Int := a.fdiv (2 ^ (min b.toNat k.bits))
def inot (k : IntKind) (a : Int) : Int := k.wrap (BitVec.ofInt k.bits (if k.signed then -1 else k.max) ^^^ BitVec.ofInt k.bits a).toNat
section ints
variable {k : IntKind} {a b : Int} {K : Value → Prop}
@[simp] theorem kint_add : kint k .add (.int k a) (.int k b) K = K (.int k (k.wrap (a + b))) := by simp [kint, intW, mIntK, intBin, mO]
@[simp] theorem kint_sub : kint k .sub (.int k a) (.int k b) K = K (.int k (k.wrap (a - b))) := by simp [kint, intW, mIntK, intBin, mO]
@[simp] theorem kint_mul : kint k .mul (.int k a) (.int k b) K = K (.int k (k.wrap (a * b))) := by simp [kint, intW, mIntK, intBin, mO]
@[simp] theorem kint_and : kint k .and (.int k a) (.int k b) K = K (.int k (iand k a b)) := by simp [kint, intW, mIntK, intBin, mO, iand]
@[simp] theorem kint_or : kint k .or (.int k a) (.int k b) K = K (.int k (ior k a b)) := by simp [kint, intW, mIntK, intBin, mO, ior]
@[simp] theorem kint_xor : kint k .xor (.int k a) (.int k b) K = K (.int k (ixor k a b)) := by simp [kint, intW, mIntK, intBin, mO, ixor]
@[simp] theorem kint_andNot : kint k .andNot (.int k a) (.int k b) K = K (.int k (iandn k a b)) := by simp [kint, intW, mIntK, intBin, mO, iandn]
@[simp] theorem kint_eql : kint k .eql (.int k a) (.int k b) K = K (.bool (decide (a = b))) := by
  have : (a == b) = decide (a = b) := rfl
  simp [kint, intW, mIntK, intBin, mO, this]
@[simp] theorem kint_neq : kint k .neq (.int k a) (.int k b) K = K (.bool (decide (a ≠ b))) := by
  have : (a != b) = decide (a ≠ b) := by rw [bne, show (a == b) = decide (a = b) from rfl]; simp
  simp [kint, intW, mIntK, intBin, mO, this]
@[simp] theorem kint_lss : kint k .lss (.int k a) (.int k b) K = K (.bool (decide (a < b))) := by simp [kint, intW, mIntK, intBin, mO]
@[simp] theorem kint_leq : kint k .leq (.int k a) (.int k b) K = K (.bool (decide (a ≤ b))) := by simp [kint, intW, mIntK, intBin, mO]
@[simp] theorem kint_gtr : kint k .gtr (.int k a) (.int k b) K = K (.bool (decide (b < a))) := by simp [kint, intW, mIntK, intBin, mO]
@[simp] theorem kint_geq : kint k .geq (.int k a) (.int k b) K = K (.bool (decide (b ≤ a))) := by simp [kint, intW, mIntK, intBin, mO]
@[simp] theorem kint_quo : kint k .quo (.int k a) (.int k b) K = kG (b ≠ 0) (K (.int k (k.wrap (a.tdiv b)))) := by simp [kint, intW, mIntK, kG]
@[simp] theorem kint_rem : kint k .rem (.int k a) (.int k b) K = kG (b ≠ 0) (K (.int k (a.tmod b))) := by simp [kint, intW, mIntK, kG]
@[simp] theorem kint_shl {k' : IntKind} : kint k .shl (.int k a) (.int k' b) K = kG (0 ≤ b) (K (.int k (ishl k a b))) := by simp [kint, intW, mIntK, mInt, kG, ishl]
@[simp] theorem kint_shr {k' : IntKind} : kint k .shr (.int k a) (.int k' b) K = kG (0 ≤ b) (K (.int k (ishr k a b))) := by simp [kint, intW, mIntK, mInt, kG, ishr]
@[simp] theorem kmm_min : kmm k false (.int k a) (.int k b) K = K (.int k (min a b)) := by
  have : (if b < a then b else a) = min a b := by rw [Int.min_def]; split <;> split <;> omega
  simp [kmm, minmaxW, mIntK, this]
@[simp] theorem kmm_max : kmm k true (.int k a) (.int k b) K = K (.int k (max a b)) := by
  have : (if b > a then b else a) = max a b := by rw [Int.max_def]; split <;> split <;> omega
  simp only [kmm, minmaxW, mIntK, cond_true, this, true_and, asP_rfl]
@[simp] theorem kun_neg : kun .neg (some (.int k)) (.int k a) K = K (.int k (k.wrap (0 - a))) := by simp [kun, unW, mIntK]
@[simp] theorem kun_xor : kun .xor (some (.int k)) (.int k a) K = K (.int k (inot k a)) := by simp [kun, unW, mIntK, inot]
@[simp] theorem kun_not {d : Option TypeDesc} {b : Bool} : kun .not d (.bool b) K = K (.bool (!b)) := by simp [kun, unW, mBool]
@[simp] theorem kbool_eql {x y : Bool} : kbool .eql (.bool x) (.bool y) K = K (.bool (x == y)) := by simp [kbool, mBool, boolBin, mO]
@[simp] theorem kbool_neq {x y : Bool} : kbool .neq (.bool x) (.bool y) K = K (.bool (!(x == y))) := by simp [kbool, mBool, boolBin, mO]
end ints
section strs
variable {x y : ByteArray} {K : Value → Prop}
theorem toList_data (x : ByteArray) : x.toList = x.data.toList := ByteArray.toList_eq x
theorem bytes_beq (x y : ByteArray) : (x.toList == y.toList) = decide (x = y) := by
  rw [toList_data, toList_data, Bool.eq_iff_iff]
  simp only [beq_iff_eq, decide_eq_true_eq]
  exact ⟨fun h => ByteArray.ext (Array.ext' h), fun h => by rw [h]⟩
@[simp] theorem kstr_eql : kstr .eql (.string x) (.string y) K = K (.bool (decide (x = y))) := by simp [kstr, strW, mStr, strBin, mO, ← bytes_beq]
@[simp] theorem kstr_neq : kstr .neq (.string x) (.string y) K = K (.bool (!decide (x = y))) := by simp [kstr, strW, mStr, strBin, mO, ← bytes_beq]
@[simp] theorem kstr_add : kstr .add (.string x) (.string y) K = kG (x.size + y.size ≤ 9223372036854775807) (K (.string (x ++ y))) := by simp [kstr, strW, mStr, kG]
end strs
section slices
variable {K : Value → Prop} {e : TypeId} {n : Nat}
@[simp] theorem kix_slice {a : Addr} {l c : Nat} {k : IntKind} {i : Int} : kix (some (.slice e)) (some n) (.slice (some a) l c) (.int k i) K = kG (0 ≤ i ∧ i < l) (K (.pointer (some (a.add (i.toNat * n))))) := rfl
@[simp] theorem kix_array {m : Nat} {a : Addr} {k : IntKind} {i : Int} : kix (some (.array m e)) (some n) (.pointer (some a)) (.int k i) K = kG (0 ≤ i ∧ i < m) (K (.pointer (some (a.add (i.toNat * n))))) := rfl
@[simp] theorem kiv_string {s : ByteArray} {k : IntKind} {i : Int} : kiv P (some .string) (.string s) (.int k i) K = kG (0 ≤ i) (kO s[i.toNat]? fun b => K (.int .u8 b.toNat)) := rfl
def loV : Option Value → Int
  | some (.int _ n) => n
  | _ => 0
def okV : Option Value → Bool
  | none => true
  | some (.int _ _) => true
  | _ => false
def hiV (m : Nat) : Option Value → Int
  | some (.int _ n) => n
  | _ => m
@[simp] theorem loV_none : loV none = 0 := rfl
@[simp] theorem loV_int {k : IntKind} {i : Int} : loV (some (.int k i)) = i := rfl
@[simp] theorem hiV_none {m : Nat} : hiV m none = m := rfl
@[simp] theorem hiV_int {m : Nat} {k : IntKind} {i : Int} : hiV m (some (.int k i)) = i := rfl
@[simp] theorem okV_none : okV none = true := rfl
@[simp] theorem okV_int {k : IntKind} {i : Int} : okV (some (.int k i)) = true := rfl
theorem loW_eq {lo : Option Value} {K : Int → Prop} (h : okV lo = true) : loW lo K = K (loV lo) := by
  unfold loW loV okV at *; split at h <;> simp_all [mInt]
theorem hiW_eq {lo : Option Value} {m : Nat} {K : Int → Prop} (h : okV lo = true) : hiW lo m K = K (hiV m lo) := by
  unfold hiW hiV okV at *; split at h <;> simp_all [mInt]
@[simp] theorem ksl_string {s : ByteArray} {es : Option Nat} {lo hi : Option Value} (h1 : okV lo = true) (h2 : okV hi = true) : ksl (some .string) es (.string s) lo hi K =
    kG (0 ≤ loV lo ∧ loV lo ≤ hiV s.size hi ∧ hiV s.size hi ≤ s.size) (K (.string (s.extract (loV lo).toNat (hiV s.size hi).toNat))) := by
  simp only [ksl, sliceW, mStr, loW_eq h1, hiW_eq h2, kG, asP_rfl]
@[simp] theorem ksl_slice {a : Option Addr} {l c : Nat} {lo hi : Option Value} (h1 : okV lo = true) (h2 : okV hi = true) : ksl (some (.slice e)) (some n) (.slice a l c) lo hi K =
    kG (0 ≤ loV lo ∧ loV lo ≤ hiV l hi ∧ hiV l hi ≤ c) (K (.slice (if c = (loV lo).toNat then a else a.map (·.add ((loV lo).toNat * n))) ((hiV l hi).toNat - (loV lo).toNat) (c - (loV lo).toNat))) := by
  simp only [ksl, sliceW, mO, mSlice, loW_eq h1, hiW_eq h2, kG, asP_rfl]
@[simp] theorem ksl_array {a : Addr} {l : Nat} {lo hi : Option Value} (h1 : okV lo = true) (h2 : okV hi = true) : ksl (some (.array l e)) (some n) (.pointer (some a)) lo hi K =
    kG (0 ≤ loV lo ∧ loV lo ≤ hiV l hi ∧ hiV l hi ≤ l) (K (.slice (some (if l = (loV lo).toNat then a else a.add ((loV lo).toNat * n))) ((hiV l hi).toNat - (loV lo).toNat) (l - (loV lo).toNat))) := by
  simp only [ksl, sliceW, mO, mPtr, loW_eq h1, hiW_eq h2, kG, asP_rfl]
@[simp] theorem kta_nil {ty : TypeId} {z : Value} : kta ty z true .nilIface K = K (.tuple #[z, .bool false]) := rfl
@[simp] theorem kta_same {ty : TypeId} {z v : Value} : kta ty z true (.iface ty v) K = K (.tuple #[v, .bool true]) := by simp [kta, taW]
@[simp] theorem kta_same' {ty : TypeId} {z v : Value} : kta ty z false (.iface ty v) K = K v := by simp [kta, taW]
theorem kta_other {ty ty' : TypeId} {z v : Value} (h : ty' ≠ ty) : kta ty z true (.iface ty' v) K = K (.tuple #[z, .bool false]) := by simp [kta, taW, h]
end slices
@[simp] theorem kmk_eq {z : Value} {n : Nat} {ty : TypeId} {l c : Int} {K : Value → World → Prop} : kmk z n ty (.int .i64 l) (.int .i64 c) w K =
    kG (0 ≤ l ∧ l ≤ c ∧ c ≤ 9223372036854775807 ∧ n * c ≤ 281474976710656) (K (.slice (some ⟨w.heap.size, 0, none⟩) l.toNat c.toNat) (w.alloc (.cells (zrow z.cells.toList c.toNat).toArray ty))) := by
  simp [kmk, makeSliceW, mIntK, kG]
theorem ksem_ok {s : Sem Value} {v : Value} {w' : World} {K : Value → World → Prop} (h : s.run P w = .ok v w') : ksem P s w K = K v w' := by simp [ksem, semV, h]
theorem ksemU_ok {s : Sem Unit} {w' : World} {K : Value → World → Prop} (h : s.run P w = .ok () w') : ksemU P s w K = K undef w' := by simp [ksemU, semU, h]
theorem kcall_of {f : FuncId} {args : Array Value} {K Q : Value → World → Prop} (h : Meets P f args w Q) (hk : ∀ v w', Q v w' → K v w') : kcall P f args w K := h.mono hk

theorem kL_of {α β : Type} {F : α → β → Prop} (I : α) (μ : β) (h : F I μ) : kL F := ⟨I, μ, h⟩

/-! Equality of what is no number, string or bool -/
def isPtrT (P : Program) (t : TypeId) : Bool := match P.underlying t with
  | some (.pointer _) => true
  | _ => false
def isIfT (P : Program) (t : TypeId) : Bool := match P.underlying t with
  | some (.interface _) => true
  | _ => false
def isSlT (P : Program) (t : TypeId) : Bool := match P.underlying t with
  | some (.slice _) => true
  | _ => false
def isMapT (P : Program) (t : TypeId) : Bool := match P.underlying t with
  | some (.map _ _) => true
  | _ => false
section
variable {K : Value → World → Prop} {t : TypeId} {cx cy : Bool}
theorem equal_ptr_nil (h : isPtrT P t = true) (a : Option Addr) : (Op.equal t (.pointer a) (.pointer none)).run P w = .ok a.isNone w := by
  unfold isPtrT at h; split at h
  · rename_i e hu
    unfold Op.equal Op.maxDepth; rw [Op.equalIn]
    cases a <;> simp [run_underlying hu]
  · cases h
theorem equal_nil_ptr (h : isPtrT P t = true) (a : Option Addr) : (Op.equal t (.pointer none) (.pointer a)).run P w = .ok a.isNone w := by
  unfold isPtrT at h; split at h
  · rename_i e hu
    unfold Op.equal Op.maxDepth; rw [Op.equalIn]
    cases a <;> simp [run_underlying hu]
  · cases h
theorem equal_if_nil (h : isIfT P t = true) (ty : TypeId) (v : Value) : (Op.equal t (.iface ty v) .nilIface).run P w = .ok false w := by
  unfold isIfT at h; split at h
  · rename_i e hu
    unfold Op.equal Op.maxDepth; rw [Op.equalIn]
    simp [run_underlying hu]
  · cases h
theorem equal_nil_if (h : isIfT P t = true) (ty : TypeId) (v : Value) : (Op.equal t .nilIface (.iface ty v)).run P w = .ok false w := by
  unfold isIfT at h; split at h
  · rename_i e hu
    unfold Op.equal Op.maxDepth; rw [Op.equalIn]
    simp [run_underlying hu]
  · cases h
theorem equal_nil_nil (h : isIfT P t = true) : (Op.equal t .nilIface .nilIface).run P w = .ok true w := by
  unfold isIfT at h; split at h
  · rename_i e hu
    unfold Op.equal Op.maxDepth; rw [Op.equalIn]
    simp [run_underlying hu]
  · cases h
theorem equal_sl_nil (h : isSlT P t = true) (a : Option Addr) (n c : Nat) : (Op.equal t (.slice a n c) (.slice none 0 0)).run P w = .ok a.isNone w := by
  unfold isSlT at h; split at h
  · rename_i e hu
    unfold Op.equal Op.maxDepth; rw [Op.equalIn]
    cases a <;> simp [run_underlying hu]
  · cases h
@[simp] theorem keq_ptr_nil (h : isPtrT P t = true) (a : Option Addr) : keq P .eql t cx cy (.pointer a) (.pointer none) w K = K (.bool a.isNone) w := by
  simp [keq, eqW, semV, eqGuard, binOp, equal_ptr_nil h]
@[simp] theorem keq_ptr_nil' (h : isPtrT P t = true) (a : Option Addr) : keq P .neq t cx cy (.pointer a) (.pointer none) w K = K (.bool (!a.isNone)) w := by
  simp [keq, eqW, semV, eqGuard, binOp, equal_ptr_nil h]
@[simp] theorem keq_if_nil (h : isIfT P t = true) (ty : TypeId) (v : Value) : keq P .eql t cx cy (.iface ty v) .nilIface w K = K (.bool false) w := by
  simp [keq, eqW, semV, eqGuard, binOp, equal_if_nil h]
@[simp] theorem keq_if_nil' (h : isIfT P t = true) (ty : TypeId) (v : Value) : keq P .neq t cx cy (.iface ty v) .nilIface w K = K (.bool true) w := by
  simp [keq, eqW, semV, eqGuard, binOp, equal_if_nil h]
@[simp] theorem keq_nil_if (h : isIfT P t = true) (ty : TypeId) (v : Value) : keq P .eql t cx cy .nilIface (.iface ty v) w K = K (.bool false) w := by
  simp [keq, eqW, semV, eqGuard, binOp, equal_nil_if h]
@[simp] theorem keq_nil_if' (h : isIfT P t = true) (ty : TypeId) (v : Value) : keq P .neq t cx cy .nilIface (.iface ty v) w K = K (.bool true) w := by
  simp [keq, eqW, semV, eqGuard, binOp, equal_nil_if h]
@[simp] theorem keq_nil_nil (h : isIfT P t = true) : keq P .eql t cx true .nilIface .nilIface w K = K (.bool true) w := by
  simp [keq, eqW, semV, eqGuard, binOp, equal_nil_nil h, flagOp]
@[simp] theorem keq_nil_nil' (h : isIfT P t = true) : keq P .neq t cx true .nilIface .nilIface w K = K (.bool false) w := by
  simp [keq, eqW, semV, eqGuard, binOp, equal_nil_nil h, flagOp]
@[simp] theorem keq_sl_nil (h : isSlT P t = true) (a : Option Addr) (n c : Nat) : keq P .eql t cx cy (.slice a n c) (.slice none 0 0) w K = K (.bool a.isNone) w := by
  simp [keq, eqW, semV, eqGuard, binOp, equal_sl_nil h]
@[simp] theorem keq_sl_nil' (h : isSlT P t = true) (a : Option Addr) (n c : Nat) : keq P .neq t cx cy (.slice a n c) (.slice none 0 0) w K = K (.bool (!a.isNone)) w := by
  simp [keq, eqW, semV, eqGuard, binOp, equal_sl_nil h]
end

/-! ### Numbers -/
theorem wrap_i64 {n : Int} (h1 : -9223372036854775808 ≤ n) (h2 : n ≤ 9223372036854775807) : IntKind.i64.wrap n = n := by
  unfold IntKind.wrap; simp [IntKind.signed, IntKind.bits]; omega
theorem wrap_u32 {n : Int} (h1 : 0 ≤ n) (h2 : n < 4294967296) : IntKind.u32.wrap n = n := by
  unfold IntKind.wrap; simp [IntKind.signed, IntKind.bits]; omega
theorem wrap_u8 {n : Int} (h1 : 0 ≤ n) (h2 : n < 256) : IntKind.u8.wrap n = n := by
  unfold IntKind.wrap; simp [IntKind.signed, IntKind.bits]; omega
theorem wrap_u64 {n : Int} (h1 : 0 ≤ n) (h2 : n < 18446744073709551616) : IntKind.u64.wrap n = n := by
  unfold IntKind.wrap; simp [IntKind.signed, IntKind.bits]; omega
@[simp] theorem add_mk (b o n : Nat) : Addr.add ⟨b, o, none⟩ n = ⟨b, o + n, none⟩ := by
  unfold Addr.add; split <;> simp_all
end
end Go.Ev
