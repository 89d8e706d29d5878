import Derived.Test.YtcabkicjboedaaaDoorEvN
import Derived.LaidEql
namespace Go.Ev
open Go Go.RowKit

/-! ### Interface values: asked for methods, compared -/
def hasAll (want : Array (String × TypeId)) (got : Array Method) : Bool := want.toList.all fun p => got.any fun m => m.name == p.1 && m.sig == p.2
/-- Whether a type has all methods of an interface: by the kernel. -/
def taB (P : Program) (t asserted : TypeId) : Option Bool := match P.underlying asserted, P.info? t with
  | some (.interface want), some i => some (hasAll want i.methods)
  | _, _ => none
theorem least_none : ∀ (l : List String), Instr.least l = none ↔ l = []
  | [] => by simp [Instr.least]
  | s :: r => by simp [Instr.least]
theorem least_orElse {a b : List String} : (Instr.least a <|> Instr.least b) = none ↔ a = [] ∧ b = [] := by
  cases a with
  | nil => simpa [Instr.least] using least_none b
  | cons x y => simp [Instr.least]
theorem nil_of_parts {f : String → Bool} {l : List String} (h1 : ∀ a ∈ l, ¬ (not ∘ f) a = true) (h2 : ∀ a ∈ l, ¬ f a = true) : l = [] := by
  cases l with
  | nil => rfl
  | cons x y =>
    have a := h1 x (by simp)
    have b := h2 x (by simp)
    simp only [Function.comp] at a
    cases h : f x <;> simp [h] at a b
theorem missing_none (want : Array (String × TypeId)) (got : Array Method) : Instr.missingMethod want got = none ↔ hasAll want got = true := by
  unfold Instr.missingMethod hasAll
  simp only [least_orElse, List.map_eq_nil_iff, List.partition_eq_filter_filter]
  rw [List.all_eq_true]
  generalize hm : List.filter (fun x => match x with | (name, sig) => !got.any fun m => m.name == name && m.sig == sig) want.toList = l
  have key : l = [] ↔ ∀ p ∈ want.toList, (got.any fun m => m.name == p.1 && m.sig == p.2) = true := by
    rw [← hm, List.filter_eq_nil_iff]
    constructor
    · intro h p hp
      have := h p hp
      simpa using this
    · intro h p hp
      have := h p hp
      simp only [this, Bool.not_true, Bool.false_eq_true, not_false_eq_true]
  rw [← key]
  constructor
  · rintro ⟨h1, h2⟩
    rw [List.filter_eq_nil_iff] at h1 h2
    simpa using nil_of_parts h1 h2
  · rintro rfl
    simp
section
variable {P : Program} {w : World} {K : Value → World → Prop}
theorem ksem_ta_yes {t a s : TypeId} {v : Value} (h : taB P t a = some true) : ksem P (Instr.typeAssert (.iface t v) s a true) w K = K (.tuple #[.iface t v, .bool true]) w := by
  unfold taB at h; split at h <;> try cases h
  rename_i want i hu hi
  have hm := (missing_none want i.methods).2 (by simpa using h)
  exact ksem_ok (by simp [Instr.typeAssert, run_underlying hu, typeInfo, hi, hm])
theorem ksem_ta_no {t a s : TypeId} {v : Value} (h : taB P t a = some false) (hz : (P.info? a).map (·.zero) = some (some .nilIface)) : ksem P (Instr.typeAssert (.iface t v) s a true) w K = K (.tuple #[.nilIface, .bool false]) w := by
  unfold taB at h; split at h <;> try cases h
  rename_i want i hu hi
  have hm : ∃ m, Instr.missingMethod want i.methods = some m := by
    cases hh : Instr.missingMethod want i.methods with
    | none => have := (missing_none want i.methods).1 hh; simp [this] at h
    | some m => exact ⟨m, rfl⟩
  obtain ⟨m, hm⟩ := hm
  simp only [Option.map_eq_some_iff] at hz
  obtain ⟨j, hj, hj2⟩ := hz
  exact ksem_ok (by simp [Instr.typeAssert, run_underlying hu, typeInfo, hi, hm, zeroValue, hj, hj2])

/-- A pointer type behind an interface whose values can be compared. -/
def cmpT (P : Program) (t : TypeId) : Bool := match P.underlying t with
  | some (.pointer e) => (match P.info? t with | some i => i.comparable | none => false) && (match P.info? e with | some j => j.size != 0 | none => false)
  | _ => false
theorem keq_if_same {t tp : TypeId} {cx cy : Bool} {a : Addr} (ht : isIfT P t = true) (hp : cmpT P tp = true) :
    keq P .eql t cx cy (.iface tp (.pointer (some a))) (.iface tp (.pointer (some a))) w K = K (.bool true) w := by
  unfold isIfT at ht; split at ht <;> try cases ht
  rename_i ms hu
  unfold cmpT at hp; split at hp <;> try cases hp
  rename_i e he
  simp only [Bool.and_eq_true] at hp
  obtain ⟨h1, h2⟩ := hp
  split at h1 <;> try cases h1
  rename_i i hi
  split at h2 <;> try cases h2
  rename_i j hj
  simp [keq, eqW, semV, eqGuard, run_eql_iface_ptr_same w a hu he hi h1 hj]
theorem keq_if_other {t tp : TypeId} {cx cy : Bool} {a b : Addr} {ca cb : Array Value} {ta tb : TypeId} (ht : isIfT P t = true) (hp : cmpT P tp = true) (hne : a ≠ b)
    (ha : blk w a.block = some (.cells ca ta (0, 0))) (hb : blk w b.block = some (.cells cb tb (0, 0))) :
    keq P .eql t cx cy (.iface tp (.pointer (some a))) (.iface tp (.pointer (some b))) w K = K (.bool false) w := by
  unfold isIfT at ht; split at ht <;> try cases ht
  rename_i ms hu
  unfold cmpT at hp; split at hp <;> try cases hp
  rename_i e he
  simp only [Bool.and_eq_true] at hp
  obtain ⟨h1, h2⟩ := hp
  split at h1 <;> try cases h1
  rename_i i hi
  split at h2 <;> try cases h2
  rename_i j hj
  simp [keq, eqW, semV, eqGuard, run_eql_iface_ptr_other w hu he hi h1 hj (by simpa using h2) hne ha hb]
theorem keq_if_kind {t tp tq : TypeId} {cx cy : Bool} {a b : Value} (ht : isIfT P t = true) (hne : tp ≠ tq) :
    keq P .eql t cx cy (.iface tp a) (.iface tq b) w K = K (.bool false) w := by
  unfold isIfT at ht; split at ht <;> try cases ht
  rename_i ms hu
  have : (Op.equal t (.iface tp a) (.iface tq b)).run P w = .ok false w := by
    unfold Op.equal Op.maxDepth; rw [Op.equalIn]
    simp [run_underlying hu, hne]
  simp [keq, eqW, semV, eqGuard, binOp, this]
end
end Go.Ev
