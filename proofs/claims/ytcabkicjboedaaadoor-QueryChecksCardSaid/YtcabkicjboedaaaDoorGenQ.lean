import Derived.Test.YtcabkicjboedaaaDoorChecked
import Derived.Test.YtcabkicjboedaaaDoorEvK
namespace Go.Proofs.YtcabkicjboedaaaDoor
open Go Go.Ev
set_option linter.unusedVariables false
set_option maxRecDepth 100000

/-! pasodoble/schema.bit -/
def f72_1 (x0 : Value) (Q : Value → World → Prop) (w : World) : Prop :=
  kint .u32 .shl (.int .u32 1) x0 fun v4 =>
  Q v4 w

def f72_0 (x0 : Value) (x8 : Value) (Q : Value → World → Prop) (w : World) : Prop :=
  kB x8 fun b5 => kIf b5
  (Q (.int .u32 0) w)
  (f72_1 x0 Q w)

def f72 (x0 : Value) (Q : Value → World → Prop) (w : World) : Prop :=
  kint .i64 .lss x0 (.int .i64 0) fun v1 =>
  kB v1 fun b2 => kIf (!b2)
  (kint .i64 .geq x0 (.int .i64 32) fun v3 =>
  f72_0 x0 v3 Q w)
  (f72_0 x0 (.bool true) Q w)

theorem f72_eq (x0 : Value) (Q : Value → World → Prop) (w : World) : f72 x0 Q w = fnVC Tryd.prog Tryd.f72 [] (Tryd.f72.body.get rfl) [x0] w Q := by kernel_rfl
theorem f72_ok {x0 : Value} {Q : Value → World → Prop} {w : World} (h : f72 x0 Q w) : Meets Tryd.prog 72 #[x0] w Q :=
  sound (c := (Tryd.f72.body.get rfl)) [] Tryd.func72 rfl rfl (args := [x0]) rfl (Eq.mp (f72_eq x0 Q w) h)

/-! pasodoble/schema.With -/
def f32 (x0 : Value) (x1 : Value) (Q : Value → World → Prop) (w : World) : Prop :=
  kcall Tryd.prog 72 #[x1] w fun v1 w2 =>
  kint .u32 .or x0 v1 fun v3 =>
  Q v3 w2

theorem f32_eq (x0 : Value) (x1 : Value) (Q : Value → World → Prop) (w : World) : f32 x0 x1 Q w = fnVC Tryd.prog Tryd.f32 [] (Tryd.f32.body.get rfl) [x0, x1] w Q := by kernel_rfl
theorem f32_ok {x0 : Value} {x1 : Value} {Q : Value → World → Prop} {w : World} (h : f32 x0 x1 Q w) : Meets Tryd.prog 32 #[x0, x1] w Q :=
  sound (c := (Tryd.f32.body.get rfl)) [] Tryd.func32 rfl rfl (args := [x0, x1]) rfl (Eq.mp (f32_eq x0 x1 Q w) h)

/-! pasodoble/schema.Within -/
def f34 (x0 : Value) (x1 : Value) (Q : Value → World → Prop) (w : World) : Prop :=
  kint .u32 .andNot x0 x1 fun v1 =>
  kint .u32 .eql v1 (.int .u32 0) fun v2 =>
  Q v2 w

theorem f34_eq (x0 : Value) (x1 : Value) (Q : Value → World → Prop) (w : World) : f34 x0 x1 Q w = fnVC Tryd.prog Tryd.f34 [] (Tryd.f34.body.get rfl) [x0, x1] w Q := by kernel_rfl
theorem f34_ok {x0 : Value} {x1 : Value} {Q : Value → World → Prop} {w : World} (h : f34 x0 x1 Q w) : Meets Tryd.prog 34 #[x0, x1] w Q :=
  sound (c := (Tryd.f34.body.get rfl)) [] Tryd.func34 rfl rfl (args := [x0, x1]) rfl (Eq.mp (f34_eq x0 x1 Q w) h)

/-! pasodoble/schema.Rollback -/
def f29 (x0 : Value) (Q : Value → World → Prop) (w : World) : Prop :=
  knew (Value.cells x0) 25 w fun v1 w2 =>
  kldN 2 v1 w2 fun v3 =>
  kcall Tryd.prog 69 #[v3, (.bool true)] w2 fun v4 w5 =>
  Q v4 w5

theorem f29_eq (x0 : Value) (Q : Value → World → Prop) (w : World) : f29 x0 Q w = fnVC Tryd.prog Tryd.f29 [] (Tryd.f29.body.get rfl) [x0] w Q := by kernel_rfl
theorem f29_ok {x0 : Value} {Q : Value → World → Prop} {w : World} (h : f29 x0 Q w) : Meets Tryd.prog 29 #[x0] w Q :=
  sound (c := (Tryd.f29.body.get rfl)) [] Tryd.func29 rfl rfl (args := [x0]) rfl (Eq.mp (f29_eq x0 Q w) h)

/-! pasodoble/query.since -/
def f33 (x0 : Value) (Q : Value → World → Prop) (w : World) : Prop :=
  kmm .i64 true x0 (.int .i64 (-4611686018427387904)) fun v1 =>
  kint .i64 .sub v1 (.int .i64 1) fun v3 =>
  Q v3 w

theorem f33_eq (x0 : Value) (Q : Value → World → Prop) (w : World) : f33 x0 Q w = fnVC Tryd.prog Tryd.f33 [] (Tryd.f33.body.get rfl) [x0] w Q := by kernel_rfl
theorem f33_ok {x0 : Value} {Q : Value → World → Prop} {w : World} (h : f33 x0 Q w) : Meets Tryd.prog 33 #[x0] w Q :=
  sound (c := (Tryd.f33.body.get rfl)) [] Tryd.func33 rfl rfl (args := [x0]) rfl (Eq.mp (f33_eq x0 Q w) h)

/-! pasodoble/query.within -/
def f31_0 (x0 : Value) (x1 : Value) (Q : Value → World → Prop) (w : World) : Prop :=
  kcall Tryd.prog 71 #[x0, x1] w fun v3 w4 =>
  Q v3 w4

def f31 (x0 : Value) (x1 : Value) (x2 : Value) (x3 : Value) (Q : Value → World → Prop) (w : World) : Prop :=
  kcall Tryd.prog 34 #[x2, x3] w fun v1 w2 =>
  kB v1 fun b5 => kIf b5
  (Q .nilIface w2)
  (f31_0 x0 x1 Q w2)

theorem f31_eq (x0 : Value) (x1 : Value) (x2 : Value) (x3 : Value) (Q : Value → World → Prop) (w : World) : f31 x0 x1 x2 x3 Q w = fnVC Tryd.prog Tryd.f31 [] (Tryd.f31.body.get rfl) [x0, x1, x2, x3] w Q := by kernel_rfl
theorem f31_ok {x0 : Value} {x1 : Value} {x2 : Value} {x3 : Value} {Q : Value → World → Prop} {w : World} (h : f31 x0 x1 x2 x3 Q w) : Meets Tryd.prog 31 #[x0, x1, x2, x3] w Q :=
  sound (c := (Tryd.f31.body.get rfl)) [] Tryd.func31 rfl rfl (args := [x0, x1, x2, x3]) rfl (Eq.mp (f31_eq x0 x1 x2 x3 Q w) h)

/-! pasodoble/query.Check -/
def f10 (x0 : Value) (x1 : Value) (Q : Value → World → Prop) (w : World) : Prop :=
  knew (Value.cells x0) 25 w fun v1 w2 =>
  knew (Value.cells x1) 29 w2 fun v3 w4 =>
  kldN 2 v1 w4 fun v5 =>
  kcall Tryd.prog 29 #[v5] w4 fun v6 w7 =>
  kld (.pointer (some ⟨1, 0, none⟩)) w7.drew fun v8 =>
  kG (w7.drew = w7.drew) <|
  kfld 0 v3 fun v9 =>
  kld v9 w7.drew fun v10 =>
  kG (w7.drew = w7.drew) <|
  kcall Tryd.prog 31 #[(.string ⟨#[119, 105, 116, 104]⟩), v8, v10, v6] w7.drew fun v11 w12 =>
  kld (.pointer (some ⟨1, 0, none⟩)) w12 fun v13 =>
  kG (w12 = w12) <|
  kG (kld (.pointer (some ⟨1, 0, none⟩)) w7.drew fun v68 =>
  v68 = v13 ∧ w7.drew = w7.drew) <|
  kfld 1 v3 fun v14 =>
  kld v14 w12 fun v15 =>
  kG (w12 = w12) <|
  kG (kld v14 w7.drew fun v67 =>
  v67 = v15 ∧ w7.drew = w7.drew) <|
  kcall Tryd.prog 31 #[(.string ⟨#[119, 105, 116, 104, 111, 117, 116]⟩), v13, v15, v6] w12 fun v16 w17 =>
  kld (.pointer (some ⟨1, 0, none⟩)) w17 fun v18 =>
  kG (w17 = w17) <|
  kG (kld (.pointer (some ⟨1, 0, none⟩)) w12 fun v66 =>
  v66 = v18 ∧ w12 = w12) <|
  kG (kld (.pointer (some ⟨1, 0, none⟩)) w7.drew fun v65 =>
  v65 = v18 ∧ w7.drew = w7.drew) <|
  kfld 2 v3 fun v19 =>
  kld v19 w17 fun v20 =>
  kG (w17 = w17) <|
  kG (kld v19 w12 fun v64 =>
  v64 = v20 ∧ w12 = w12) <|
  kG (kld v19 w7.drew fun v63 =>
  v63 = v20 ∧ w7.drew = w7.drew) <|
  kcall Tryd.prog 31 #[(.string ⟨#[99, 104, 97, 110, 103, 101, 100]⟩), v18, v20, v6] w17 fun v21 w22 =>
  kld (.pointer (some ⟨2, 0, none⟩)) w22 fun v23 =>
  kG (w22 = w22) <|
  kG (kld (.pointer (some ⟨2, 0, none⟩)) w17 fun v62 =>
  v62 = v23 ∧ w17 = w17) <|
  kG (kld (.pointer (some ⟨2, 0, none⟩)) w12 fun v61 =>
  v61 = v23 ∧ w12 = w12) <|
  kG (kld (.pointer (some ⟨2, 0, none⟩)) w7.drew fun v60 =>
  v60 = v23 ∧ w7.drew = w7.drew) <|
  kfld 0 v3 fun v24 =>
  kld v24 w22 fun v25 =>
  kG (w22 = w22) <|
  kG (kld v24 w17 fun v59 =>
  v59 = v25 ∧ w17 = w17) <|
  kG (kld v24 w12 fun v58 =>
  v58 = v25 ∧ w12 = w12) <|
  kG (kld v24 w7.drew fun v57 =>
  v57 = v25 ∧ w7.drew = w7.drew) <|
  kfld 1 v3 fun v26 =>
  kld v26 w22 fun v27 =>
  kG (w22 = w22) <|
  kG (kld v26 w17 fun v56 =>
  v56 = v27 ∧ w17 = w17) <|
  kG (kld v26 w12 fun v55 =>
  v55 = v27 ∧ w12 = w12) <|
  kG (kld v26 w7.drew fun v54 =>
  v54 = v27 ∧ w7.drew = w7.drew) <|
  kint .u32 .and v25 v27 fun v28 =>
  kcall Tryd.prog 31 #[(.string ⟨#[119, 105, 116, 104, 111, 117, 116]⟩), v23, v28, (.int .u32 0)] w22 fun v29 w30 =>
  kld (.pointer (some ⟨3, 0, none⟩)) w30 fun v31 =>
  kG (w30 = w30) <|
  kG (kld (.pointer (some ⟨3, 0, none⟩)) w22 fun v53 =>
  v53 = v31 ∧ w22 = w22) <|
  kG (kld (.pointer (some ⟨3, 0, none⟩)) w17 fun v52 =>
  v52 = v31 ∧ w17 = w17) <|
  kG (kld (.pointer (some ⟨3, 0, none⟩)) w12 fun v51 =>
  v51 = v31 ∧ w12 = w12) <|
  kG (kld (.pointer (some ⟨3, 0, none⟩)) w7.drew fun v50 =>
  v50 = v31 ∧ w7.drew = w7.drew) <|
  kfld 2 v3 fun v32 =>
  kld v32 w30 fun v33 =>
  kG (w30 = w30) <|
  kG (kld v32 w22 fun v49 =>
  v49 = v33 ∧ w22 = w22) <|
  kG (kld v32 w17 fun v48 =>
  v48 = v33 ∧ w17 = w17) <|
  kG (kld v32 w12 fun v47 =>
  v47 = v33 ∧ w12 = w12) <|
  kG (kld v32 w7.drew fun v46 =>
  v46 = v33 ∧ w7.drew = w7.drew) <|
  kfld 0 v3 fun v34 =>
  kld v34 w30 fun v35 =>
  kG (w30 = w30) <|
  kG (kld v34 w22 fun v45 =>
  v45 = v35 ∧ w22 = w22) <|
  kG (kld v34 w17 fun v44 =>
  v44 = v35 ∧ w17 = w17) <|
  kG (kld v34 w12 fun v43 =>
  v43 = v35 ∧ w12 = w12) <|
  kG (kld v34 w7.drew fun v42 =>
  v42 = v35 ∧ w7.drew = w7.drew) <|
  kcall Tryd.prog 31 #[(.string ⟨#[99, 104, 97, 110, 103, 101, 100]⟩), v31, v33, v35] w30 fun v36 w37 =>
  kbldS [.nilIface] 5 [(0, 1, v11), (1, 1, v16), (2, 1, v21), (3, 1, v29), (4, 1, v36)] 36 w37 fun v38 w39 =>
  kcall Tryd.prog 30 #[v38] w39 fun v40 w41 =>
  Q v40 w41

theorem f10_eq (x0 : Value) (x1 : Value) (Q : Value → World → Prop) (w : World) : f10 x0 x1 Q w = fnVC Tryd.prog Tryd.f10 [] (Tryd.f10.body.get rfl) [x0, x1] w Q := by kernel_rfl
theorem f10_ok {x0 : Value} {x1 : Value} {Q : Value → World → Prop} {w : World} (h : f10 x0 x1 Q w) : Meets Tryd.prog 10 #[x0, x1] w Q :=
  sound (c := (Tryd.f10.body.get rfl)) [] Tryd.func10 rfl rfl (args := [x0, x1]) rfl (Eq.mp (f10_eq x0 x1 Q w) h)

/-! pasodoble/query.Means -/
def f12_2 (x1 : Value) (x3 : Value) (x7 : Value) (x8 : Value) (x11 : Value) (x12 : Value) (x13 : Value) (J3 : Value → Value → Value → World → Prop) (Q : Value → World → Prop) (w : World) : Prop :=
  kint .i64 .add x13 (.int .i64 1) fun v24 =>
  J3 x7 x8 v24 w

def f12_1 (x1 : Value) (x3 : Value) (x7 : Value) (x8 : Value) (x11 : Value) (x12 : Value) (x13 : Value) (J3 : Value → Value → Value → World → Prop) (Q : Value → World → Prop) (w : World) : Prop :=
  kix (some (.slice 73)) (some 6) x11 x13 fun v6 =>
  kldN 6 v6 w fun v7 =>
  knew #[(.int .i64 0), (.int .i64 0), (.int .i64 0), (.int .i64 0), (.int .i64 0), (.int .i64 0)] 73 w fun v8 w9 =>
  kst 6 v8 v7 w9 fun w10 =>
  kfld 0 v8 fun v11 =>
  kld v11 w10 fun v12 =>
  kcall Tryd.prog 32 #[x7, v12] w10 fun v13 w14 =>
  kfld 5 v8 fun v15 =>
  kld v15 w14.drew fun v16 =>
  kG (w14.drew = w14.drew) <|
  kcall Tryd.prog 33 #[x1] w14.drew fun v17 w18 =>
  kG (kld v15 w18 fun v26 =>
  v26 = v16 ∧ w18 = w18) <|
  kint .i64 .geq v16 v17 fun v19 =>
  kB v19 fun b25 => kIf b25
  (kfld 0 v8 fun v20 =>
  kld v20 w18 fun v21 =>
  kcall Tryd.prog 32 #[x8, v21] w18 fun v22 w23 =>
  f12_2 x1 x3 v13 v22 x11 x12 x13 J3 Q w23)
  (f12_2 x1 x3 v13 x8 x11 x12 x13 J3 Q w18)

def f12_3 (x3 : Value) (x7 : Value) (x8 : Value) (Q : Value → World → Prop) (w : World) : Prop :=
  kfld 0 x3 fun v27 =>
  kld v27 w fun v28 =>
  kcall Tryd.prog 34 #[v28, x7] w fun v29 w30 =>
  kB v29 fun b31 => kIf b31
  (kfld 1 x3 fun v32 =>
  kld v32 w30 fun v33 =>
  kint .u32 .and x7 v33 fun v34 =>
  kint .u32 .eql v34 (.int .u32 0) fun v35 =>
  kB v35 fun b36 => kIf b36
  (kfld 2 x3 fun v37 =>
  kld v37 w30 fun v38 =>
  kcall Tryd.prog 34 #[v38, x8] w30 fun v39 w40 =>
  Q v39 w40)
  (Q (.bool false) w30))
  (Q (.bool false) w30)

def f12_0 (x7 : Value) (x8 : Value) (x13 : Value) (x1 : Value) (x3 : Value) (x11 : Value) (x12 : Value) (J3 : Value → Value → Value → World → Prop) (Q : Value → World → Prop) (w : World) : Prop :=
  kint .i64 .lss x13 x12 fun v5 =>
  kB v5 fun b41 => kIf b41
  (f12_1 x1 x3 x7 x8 x11 x12 x13 J3 Q w)
  (f12_3 x3 x7 x8 Q w)

def f12 (x0 : Value) (x1 : Value) (x2 : Value) (Q : Value → World → Prop) (w : World) : Prop :=
  knew (Value.cells x0) 29 w fun v1 w2 =>
  klen x2 fun v3 =>
  kL fun (I : Value → Value → Value → World → Prop) (μ : Value → Value → Value → World → Nat) => I (.int .u32 0) (.int .u32 0) (.int .i64 0) w2 ∧ ∀ (x7 x8 x13 : Value) (w1 : World), I x7 x8 x13 w1 →
  f12_0 x7 x8 x13 x1 v1 x2 v3 (fun y7 y8 y13 w2 => I y7 y8 y13 w2 ∧ μ y7 y8 y13 w2 < μ x7 x8 x13 w1) Q w1

theorem f12_eq (x0 : Value) (x1 : Value) (x2 : Value) (Q : Value → World → Prop) (w : World) : f12 x0 x1 x2 Q w = fnVC Tryd.prog Tryd.f12 [(3, [7, 8, 13])] (Tryd.f12.body.get rfl) [x0, x1, x2] w Q := by kernel_rfl
theorem f12_ok {x0 : Value} {x1 : Value} {x2 : Value} {Q : Value → World → Prop} {w : World} (h : f12 x0 x1 x2 Q w) : Meets Tryd.prog 12 #[x0, x1, x2] w Q :=
  sound (c := (Tryd.f12.body.get rfl)) [(3, [7, 8, 13])] Tryd.func12 rfl rfl (args := [x0, x1, x2]) rfl (Eq.mp (f12_eq x0 x1 x2 Q w) h)

/-! pasodoble/schema.kinds -/
def f69_2 (x1 : Value) (x4 : Value) (x8 : Value) (x9 : Value) (x10 : Value) (J2 : Value → Value → World → Prop) (Q : Value → World → Prop) (w : World) : Prop :=
  kint .i64 .add x10 (.int .i64 1) fun v18 =>
  J2 x4 v18 w

def f69_1 (x1 : Value) (x4 : Value) (x8 : Value) (x9 : Value) (x10 : Value) (J2 : Value → Value → World → Prop) (Q : Value → World → Prop) (w : World) : Prop :=
  kix (some (.slice 79)) (some 7) x8 x10 fun v8 =>
  kldN 7 v8 w fun v9 =>
  knew #[(.string ⟨#[]⟩), (.int .i64 0), (.bool false), (.int .i64 0), (.int .i64 0), (.int .i64 0), (.int .i64 0)] 79 w fun v10 w11 =>
  kst 7 v10 v9 w11 fun w12 =>
  kfld 2 v10 fun v13 =>
  kld v13 w12 fun v14 =>
  kbool .eql v14 x1 fun v15 =>
  kB v15 fun b19 => kIf b19
  (kcall Tryd.prog 32 #[x4, x10] w12 fun v16 w17 =>
  f69_2 x1 v16 x8 x9 x10 J2 Q w17)
  (f69_2 x1 x4 x8 x9 x10 J2 Q w12)

def f69_3 (x4 : Value) (Q : Value → World → Prop) (w : World) : Prop :=
  Q x4 w

def f69_0 (x4 : Value) (x10 : Value) (x1 : Value) (x8 : Value) (x9 : Value) (J2 : Value → Value → World → Prop) (Q : Value → World → Prop) (w : World) : Prop :=
  kint .i64 .lss x10 x9 fun v7 =>
  kB v7 fun b20 => kIf b20
  (f69_1 x1 x4 x8 x9 x10 J2 Q w)
  (f69_3 x4 Q w)

def f69 (x0 : Value) (x1 : Value) (Q : Value → World → Prop) (w : World) : Prop :=
  knew (Value.cells x0) 25 w fun v1 w2 =>
  kfld 0 v1 fun v3 =>
  kld v3 w2 fun v4 =>
  klen v4 fun v5 =>
  kL fun (I : Value → Value → World → Prop) (μ : Value → Value → World → Nat) => I (.int .u32 0) (.int .i64 0) w2 ∧ ∀ (x4 x10 : Value) (w1 : World), I x4 x10 w1 →
  f69_0 x4 x10 x1 v4 v5 (fun y4 y10 w2 => I y4 y10 w2 ∧ μ y4 y10 w2 < μ x4 x10 w1) Q w1

theorem f69_eq (x0 : Value) (x1 : Value) (Q : Value → World → Prop) (w : World) : f69 x0 x1 Q w = fnVC Tryd.prog Tryd.f69 [(2, [4, 10])] (Tryd.f69.body.get rfl) [x0, x1] w Q := by kernel_rfl
theorem f69_ok {x0 : Value} {x1 : Value} {Q : Value → World → Prop} {w : World} (h : f69 x0 x1 Q w) : Meets Tryd.prog 69 #[x0, x1] w Q :=
  sound (c := (Tryd.f69.body.get rfl)) [(2, [4, 10])] Tryd.func69 rfl rfl (args := [x0, x1]) rfl (Eq.mp (f69_eq x0 x1 Q w) h)

/-! pasodoble/pasodoblelaw11.eight -/
def f27_2 (x0 : Value) (x1 : Value) (x2 : Value) (J3 : Value → World → Prop) (Q : Value → World → Prop) (w : World) : Prop :=
  kint .i64 .add x2 (.int .i64 1) fun v20 =>
  J3 v20 w

def f27_1 (x0 : Value) (x1 : Value) (x2 : Value) (J3 : Value → World → Prop) (Q : Value → World → Prop) (w : World) : Prop :=
  kfld 0 x1 fun v8 =>
  kld v8 w.drew fun v9 =>
  kG (w.drew = w.drew) <|
  kint .i64 .add x2 (.int .i64 1) fun v10 =>
  ksl (some .string) none (.string ⟨#[97, 98, 99, 100, 101, 102, 103, 104]⟩) (some x2) (some v10) fun v11 =>
  kint .i64 .lss x2 (.int .i64 7) fun v12 =>
  kbld [(.string ⟨#[]⟩), (.int .i64 0), (.bool false), (.int .i64 0), (.int .i64 0), (.int .i64 0), (.int .i64 0)] [(0, 1, v11), (1, 1, (.int .i64 1)), (2, 1, v12)] fun v13 =>
  kbldS [(.string ⟨#[]⟩), (.int .i64 0), (.bool false), (.int .i64 0), (.int .i64 0), (.int .i64 0), (.int .i64 0)] 1 [(0, 7, v13)] 79 w.drew fun v14 w15 =>
  kG (kld v8 w15 fun v21 =>
  v21 = v9 ∧ w15 = w15) <|
  ksem Tryd.prog (Builtin.append_ #[22, 22] 0 #[v9, v14]) w15 fun v16 w17 =>
  kfld 0 x1 fun v18 =>
  kst 1 v18 v16 w17 fun w19 =>
  f27_2 x0 x1 x2 J3 Q w19

def f27_3 (x0 : Value) (x1 : Value) (Q : Value → World → Prop) (w : World) : Prop :=
  kldN 2 x1 w fun v22 =>
  kst 2 x0 v22 w fun w23 =>
  kldN 2 x0 w23 fun v24 =>
  Q v24 w23

def f27_0 (x2 : Value) (x0 : Value) (x1 : Value) (J3 : Value → World → Prop) (Q : Value → World → Prop) (w : World) : Prop :=
  kint .i64 .lss x2 (.int .i64 8) fun v7 =>
  kB v7 fun b25 => kIf b25
  (f27_1 x0 x1 x2 J3 Q w)
  (f27_3 x0 x1 Q w)

def f27 (Q : Value → World → Prop) (w : World) : Prop :=
  knew #[(.slice none 0 0), (.slice none 0 0)] 25 w fun v1 w2 =>
  kbld [(.slice none 0 0), (.slice none 0 0)] [] fun v3 =>
  knew #[(.slice none 0 0), (.slice none 0 0)] 25 w2 fun v4 w5 =>
  kst 2 v4 v3 w5 fun w6 =>
  kL fun (I : Value → World → Prop) (μ : Value → World → Nat) => I (.int .i64 0) w6 ∧ ∀ (x2 : Value) (w1 : World), I x2 w1 →
  f27_0 x2 v1 v4 (fun y2 w2 => I y2 w2 ∧ μ y2 w2 < μ x2 w1) Q w1

theorem f27_eq (Q : Value → World → Prop) (w : World) : f27 Q w = fnVC Tryd.prog Tryd.f27 [(3, [2])] (Tryd.f27.body.get rfl) [] w Q := by kernel_rfl
theorem f27_ok {Q : Value → World → Prop} {w : World} (h : f27 Q w) : Meets Tryd.prog 27 #[] w Q :=
  sound (c := (Tryd.f27.body.get rfl)) [(3, [2])] Tryd.func27 rfl rfl (args := []) rfl (Eq.mp (f27_eq Q w) h)

/-! pasodoble/pasodoblelaw11.awake -/
def f8 (Q : Value → World → Prop) (w : World) : Prop :=
  kbld [(.int .u32 0), (.int .u32 0), (.int .u32 0)] [(0, 1, (.int .u32 1)), (2, 1, (.int .u32 1))] fun v1 =>
  knew #[(.int .u32 0), (.int .u32 0), (.int .u32 0)] 29 w fun v2 w3 =>
  kst 3 v2 v1 w3 fun w4 =>
  kcall Tryd.prog 27 #[] w4 fun v5 w6 =>
  kbld [(.int .u32 0), (.int .u32 0), (.int .u32 0)] [(0, 1, (.int .u32 128)), (1, 1, (.int .u32 128)), (2, 1, (.int .u32 2))] fun v7 =>
  kcall Tryd.prog 10 #[v5, v7] w6 fun v8 w9 =>
  kcall Tryd.prog 9 #[v8] w9 fun v10 w11 =>
  kldN 3 v2 w11.drew fun v12 =>
  kG (w11.drew = w11.drew) <|
  kbld [(.int .i64 0), (.int .i64 0), (.int .i64 0), (.int .i64 0), (.int .i64 0), (.int .i64 0)] [(5, 1, (.int .i64 8))] fun v13 =>
  kbldS [(.int .i64 0), (.int .i64 0), (.int .i64 0), (.int .i64 0), (.int .i64 0), (.int .i64 0)] 1 [(0, 6, v13)] 73 w11.drew fun v14 w15 =>
  kG (kldN 3 v2 w15 fun v52 =>
  v52 = v12 ∧ w15 = w15) <|
  kcall Tryd.prog 12 #[v12, (.int .i64 9), v14] w15 fun v16 w17 =>
  kB v16 fun b18 => kIf b18
  (kldN 3 v2 w17 fun v19 =>
  kG (w17 = w17) <|
  kbld [(.int .i64 0), (.int .i64 0), (.int .i64 0), (.int .i64 0), (.int .i64 0), (.int .i64 0)] [(5, 1, (.int .i64 7))] fun v20 =>
  kbldS [(.int .i64 0), (.int .i64 0), (.int .i64 0), (.int .i64 0), (.int .i64 0), (.int .i64 0)] 1 [(0, 6, v20)] 73 w17 fun v21 w22 =>
  kG (kldN 3 v2 w22 fun v51 =>
  v51 = v19 ∧ w22 = w22) <|
  kcall Tryd.prog 12 #[v19, (.int .i64 9), v21] w22 fun v23 w24 =>
  kun .not (some .bool) v23 fun v25 =>
  kB v25 fun b26 => kIf b26
  (kcall Tryd.prog 27 #[] w24 fun v27 w28 =>
  kldN 3 v2 w28 fun v29 =>
  kG (w28 = w28) <|
  kG (kldN 3 v2 w24 fun v50 =>
  v50 = v29 ∧ w24 = w24) <|
  kcall Tryd.prog 10 #[v27, v29] w28 fun v30 w31 =>
  keq Tryd.prog .eql 36 false true v30 .nilIface w31 fun v32 w33 =>
  kG (w33 = w31) <|
  kB v32 fun b34 => kIf b34
  (klen v10 fun v35 =>
  kint .i64 .eql v35 (.int .i64 4) fun v37 =>
  kB v37 fun b38 => kIf b38
  (kix (some (.slice 41)) (some 2) v10 (.int .i64 0) fun v39 =>
  kldN 2 v39 w33 fun v40 =>
  kG (w33 = w33) <|
  kbld [(.string ⟨#[]⟩), (.int .i64 0)] [(0, 1, (.string ⟨#[119, 105, 116, 104]⟩)), (1, 1, (.int .i64 1))] fun v41 =>
  keq Tryd.prog .eql 41 false false v40 v41 w33 fun v42 w43 =>
  kG (w43 = w33) <|
  kB v42 fun b44 => kIf b44
  (kix (some (.slice 41)) (some 2) v10 (.int .i64 3) fun v45 =>
  kldN 2 v45 w43 fun v46 =>
  kG (w43 = w43) <|
  kbld [(.string ⟨#[]⟩), (.int .i64 0)] [(0, 1, (.string ⟨#[99, 104, 97, 110, 103, 101, 100]⟩)), (1, 1, (.int .i64 7))] fun v47 =>
  keq Tryd.prog .eql 41 false false v46 v47 w43 fun v48 w49 =>
  kG (w49 = w43) <|
  Q v48 w49)
  (Q (.bool false) w43))
  (Q (.bool false) w33))
  (Q (.bool false) w33))
  (Q (.bool false) w24))
  (Q (.bool false) w17)

theorem f8_eq (Q : Value → World → Prop) (w : World) : f8 Q w = fnVC Tryd.prog Tryd.f8 [] (Tryd.f8.body.get rfl) [] w Q := by kernel_rfl
theorem f8_ok {Q : Value → World → Prop} {w : World} (h : f8 Q w) : Meets Tryd.prog 8 #[] w Q :=
  sound (c := (Tryd.f8.body.get rfl)) [] Tryd.func8 rfl rfl (args := []) rfl (Eq.mp (f8_eq Q w) h)

/-! (pasodoble/pasodoblelaw11.Being).parts -/
def f14_2 (x1 : Value) (x3 : Value) (x4 : Value) (J3 : Value → Value → World → Prop) (Q : Value → World → Prop) (w : World) : Prop :=
  kint .i64 .add x4 (.int .i64 1) fun v19 =>
  J3 x3 v19 w

def f14_1 (x1 : Value) (x3 : Value) (x4 : Value) (J3 : Value → Value → World → Prop) (Q : Value → World → Prop) (w : World) : Prop :=
  kfld 0 x1 fun v6 =>
  kld v6 w fun v7 =>
  kint .u32 .shr v7 x4 fun v8 =>
  kint .u32 .rem v8 (.int .u32 2) fun v9 =>
  kint .u32 .eql v9 (.int .u32 1) fun v10 =>
  kB v10 fun b20 => kIf b20
  (kfld 1 x1 fun v11 =>
  kix (some (.array 8 3)) (some 1) v11 x4 fun v12 =>
  kld v12 w fun v13 =>
  kbld [(.int .i64 0), (.int .i64 0), (.int .i64 0), (.int .i64 0), (.int .i64 0), (.int .i64 0)] [(0, 1, x4), (5, 1, v13)] fun v14 =>
  kbldS [(.int .i64 0), (.int .i64 0), (.int .i64 0), (.int .i64 0), (.int .i64 0), (.int .i64 0)] 1 [(0, 6, v14)] 73 w fun v15 w16 =>
  ksem Tryd.prog (Builtin.append_ #[31, 31] 0 #[x3, v15]) w16 fun v17 w18 =>
  f14_2 x1 v17 x4 J3 Q w18)
  (f14_2 x1 x3 x4 J3 Q w)

def f14_3 (x3 : Value) (Q : Value → World → Prop) (w : World) : Prop :=
  Q x3 w

def f14_0 (x3 : Value) (x4 : Value) (x1 : Value) (J3 : Value → Value → World → Prop) (Q : Value → World → Prop) (w : World) : Prop :=
  kint .i64 .lss x4 (.int .i64 8) fun v5 =>
  kB v5 fun b21 => kIf b21
  (f14_1 x1 x3 x4 J3 Q w)
  (f14_3 x3 Q w)

def f14 (x0 : Value) (Q : Value → World → Prop) (w : World) : Prop :=
  knew (Value.cells x0) 48 w fun v1 w2 =>
  kbldS [(.int .i64 0), (.int .i64 0), (.int .i64 0), (.int .i64 0), (.int .i64 0), (.int .i64 0)] 0 [] 73 w2 fun v3 w4 =>
  kL fun (I : Value → Value → World → Prop) (μ : Value → Value → World → Nat) => I v3 (.int .i64 0) w4 ∧ ∀ (x3 x4 : Value) (w1 : World), I x3 x4 w1 →
  f14_0 x3 x4 v1 (fun y3 y4 w2 => I y3 y4 w2 ∧ μ y3 y4 w2 < μ x3 x4 w1) Q w1

theorem f14_eq (x0 : Value) (Q : Value → World → Prop) (w : World) : f14 x0 Q w = fnVC Tryd.prog Tryd.f14 [(3, [3, 4])] (Tryd.f14.body.get rfl) [x0] w Q := by kernel_rfl
theorem f14_ok {x0 : Value} {Q : Value → World → Prop} {w : World} (h : f14 x0 Q w) : Meets Tryd.prog 14 #[x0] w Q :=
  sound (c := (Tryd.f14.body.get rfl)) [(3, [3, 4])] Tryd.func14 rfl rfl (args := [x0]) rfl (Eq.mp (f14_eq x0 Q w) h)

/-! pasodoble/pasodoblelaw11.QueryParts -/
def f4_2 (x3 : Value) (x10 : Value) (x11 : Value) (x12 : Value) (Q : Value → World → Prop) (w : World) : Prop :=
  kldN 3 x10 w fun v58 =>
  kcall Tryd.prog 12 #[v58, x3, x12] w fun v59 w60 =>
  kB v59 fun b61 => kIf b61
  (kldN 3 x11 w60 fun v62 =>
  kcall Tryd.prog 12 #[v62, x3, x12] w60 fun v63 w64 =>
  kun .not (some .bool) v63 fun v65 =>
  Q v65 w64)
  (kun .not (some .bool) (.bool false) fun v66 =>
  Q v66 w60)

def f4_1 (x3 : Value) (x10 : Value) (x11 : Value) (x12 : Value) (x62 : Value) (Q : Value → World → Prop) (w : World) : Prop :=
  kB x62 fun b67 => kIf b67
  (Q (.bool false) w)
  (f4_2 x3 x10 x11 x12 Q w)

def f4_0 (x2 : Value) (x3 : Value) (x4 : Value) (x5 : Value) (Q : Value → World → Prop) (w : World) : Prop :=
  kcnv .u64 x2 fun v8 =>
  kint .u64 .rem v8 (.int .u64 8) fun v9 =>
  kint .u32 .shl (.int .u32 1) v9 fun v10 =>
  kfld 0 x5 fun v11 =>
  kld v11 w fun v12 =>
  kint .u32 .andNot v12 v10 fun v13 =>
  kfld 0 x5 fun v14 =>
  kst 1 v14 v13 w fun w15 =>
  kfld 1 x5 fun v16 =>
  kld v16 w15 fun v17 =>
  kint .u32 .andNot v17 v10 fun v18 =>
  kfld 1 x5 fun v19 =>
  kst 1 v19 v18 w15 fun w20 =>
  kfld 2 x5 fun v21 =>
  kld v21 w20 fun v22 =>
  kint .u32 .andNot v22 v10 fun v23 =>
  kfld 2 x5 fun v24 =>
  kst 1 v24 v23 w20 fun w25 =>
  kldN 3 x5 w25 fun v26 =>
  knew #[(.int .u32 0), (.int .u32 0), (.int .u32 0)] 29 w25 fun v27 w28 =>
  kst 3 v27 v26 w28 fun w29 =>
  kfld 0 v27 fun v30 =>
  kld v30 w29 fun v31 =>
  kint .u32 .or v31 v10 fun v32 =>
  kfld 0 v27 fun v33 =>
  kst 1 v33 v32 w29 fun w34 =>
  kldN 3 x5 w34 fun v35 =>
  knew #[(.int .u32 0), (.int .u32 0), (.int .u32 0)] 29 w34 fun v36 w37 =>
  kst 3 v36 v35 w37 fun w38 =>
  kfld 1 v36 fun v39 =>
  kld v39 w38 fun v40 =>
  kint .u32 .or v40 v10 fun v41 =>
  kfld 1 v36 fun v42 =>
  kst 1 v42 v41 w38 fun w43 =>
  kldN 10 x4 w43 fun v44 =>
  kcall Tryd.prog 14 #[v44] w43 fun v45 w46 =>
  kldN 3 x5 w46.drew fun v47 =>
  kG (w46.drew = w46.drew) <|
  kcall Tryd.prog 12 #[v47, x3, v45] w46.drew fun v48 w49 =>
  kldN 3 v27 w49 fun v50 =>
  kG (w49 = w49) <|
  kG (kldN 3 v27 w46.drew fun v69 =>
  v69 = v50 ∧ w46.drew = w46.drew) <|
  kcall Tryd.prog 12 #[v50, x3, v45] w49 fun v51 w52 =>
  kB v51 fun b53 => kIf (!b53)
  (kldN 3 v36 w52 fun v54 =>
  kG (w52 = w52) <|
  kcall Tryd.prog 12 #[v54, x3, v45] w52 fun v55 w56 =>
  kbool .neq v48 v55 fun v57 =>
  f4_1 x3 v27 v36 v45 v57 Q w56)
  (kbool .neq v48 (.bool true) fun v68 =>
  f4_1 x3 v27 v36 v45 v68 Q w52)

def f4 (x0 : Value) (x1 : Value) (x2 : Value) (x3 : Value) (Q : Value → World → Prop) (w : World) : Prop :=
  knew (Value.cells x0) 48 w fun v1 w2 =>
  knew (Value.cells x1) 29 w2 fun v3 w4 =>
  kcall Tryd.prog 8 #[] w4 fun v5 w6 =>
  kun .not (some .bool) v5 fun v7 =>
  kB v7 fun b70 => kIf b70
  (Q (.bool false) w6)
  (f4_0 x2 x3 v1 v3 Q w6)

theorem f4_eq (x0 : Value) (x1 : Value) (x2 : Value) (x3 : Value) (Q : Value → World → Prop) (w : World) : f4 x0 x1 x2 x3 Q w = fnVC Tryd.prog Tryd.f4 [] (Tryd.f4.body.get rfl) [x0, x1, x2, x3] w Q := by kernel_rfl
theorem f4_ok {x0 : Value} {x1 : Value} {x2 : Value} {x3 : Value} {Q : Value → World → Prop} {w : World} (h : f4 x0 x1 x2 x3 Q w) : Meets Tryd.prog 4 #[x0, x1, x2, x3] w Q :=
  sound (c := (Tryd.f4.body.get rfl)) [] Tryd.func4 rfl rfl (args := [x0, x1, x2, x3]) rfl (Eq.mp (f4_eq x0 x1 x2 x3 Q w) h)

end Go.Proofs.YtcabkicjboedaaaDoor
