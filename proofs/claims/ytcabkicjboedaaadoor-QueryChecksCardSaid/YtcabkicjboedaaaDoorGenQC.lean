import Derived.Test.YtcabkicjboedaaaDoorChecked
import Derived.Test.YtcabkicjboedaaaDoorEvK
namespace Go.Proofs.YtcabkicjboedaaaDoor
open Go Go.Ev
set_option linter.unusedVariables false
set_option maxRecDepth 100000

/-! pasodoble/pasodoblelaw11.QueryChecks -/
def f3_7 (x3 : Value) (x5 : Value) (x6 : Value) (x9 : Value) (x10 : Value) (x11 : Value) (J10 : Value → World → Prop) (Q : Value → World → Prop) (w : World) : Prop :=
  kint .i64 .add x11 (.int .i64 1) fun v52 =>
  J10 v52 w

def f3_6 (x3 : Value) (x5 : Value) (x6 : Value) (x9 : Value) (x10 : Value) (x11 : Value) (x64 : Value) (J10 : Value → World → Prop) (Q : Value → World → Prop) (w : World) : Prop :=
  kB x64 fun b53 => kIf b53
  (Q (.bool false) w)
  (f3_7 x3 x5 x6 x9 x10 x11 J10 Q w)

def f3_5 (x3 : Value) (x5 : Value) (x6 : Value) (x9 : Value) (x10 : Value) (x11 : Value) (J10 : Value → World → Prop) (Q : Value → World → Prop) (w : World) : Prop :=
  kix (some (.slice 41)) (some 2) x9 x11 fun v37 =>
  kfld 0 v37 fun v38 =>
  kld v38 w.drew fun v39 =>
  kG (w.drew = w.drew) <|
  kix (some (.slice 42)) (some 2) x10 x11 fun v40 =>
  kfld 0 v40 fun v41 =>
  kld v41 w.drew fun v42 =>
  kG (w.drew = w.drew) <|
  kstr .neq v39 v42 fun v43 =>
  kB v43 fun b44 => kIf (!b44)
  (kix (some (.slice 41)) (some 2) x9 x11 fun v45 =>
  kfld 1 v45 fun v46 =>
  kld v46 w.drew fun v47 =>
  kG (w.drew = w.drew) <|
  kix (some (.slice 42)) (some 2) x10 x11 fun v48 =>
  kfld 1 v48 fun v49 =>
  kld v49 w.drew fun v50 =>
  kG (w.drew = w.drew) <|
  kint .i64 .neq v47 v50 fun v51 =>
  f3_6 x3 x5 x6 x9 x10 x11 v51 J10 Q w.drew)
  (f3_6 x3 x5 x6 x9 x10 x11 (.bool true) J10 Q w.drew)

def f3_8 (x3 : Value) (x5 : Value) (x6 : Value) (Q : Value → World → Prop) (w : World) : Prop :=
  kldN 3 x5 w.drew fun v54 =>
  kG (w.drew = w.drew) <|
  kix (some (.array 1 3)) (some 1) x6 (.int .i64 0) fun v55 =>
  kld v55 w.drew fun v56 =>
  kG (w.drew = w.drew) <|
  kcall Tryd.prog 12 #[v54, v56, x3] w.drew fun v57 w58 =>
  kldN 3 x5 w58 fun v59 =>
  kG (w58 = w58) <|
  kG (kldN 3 x5 w.drew fun v66 =>
  v66 = v59 ∧ w.drew = w.drew) <|
  kix (some (.array 1 3)) (some 1) x6 (.int .i64 0) fun v60 =>
  kld v60 w58 fun v61 =>
  kG (w58 = w58) <|
  kG (kld v60 w.drew fun v65 =>
  v65 = v61 ∧ w.drew = w.drew) <|
  kcall Tryd.prog 13 #[v59, v61, x3] w58 fun v62 w63 =>
  kbool .eql v57 v62 fun v64 =>
  Q v64 w63

def f3_4 (x11 : Value) (x3 : Value) (x5 : Value) (x6 : Value) (x9 : Value) (x10 : Value) (J10 : Value → World → Prop) (Q : Value → World → Prop) (w : World) : Prop :=
  klen x9 fun v34 =>
  kint .i64 .lss x11 v34 fun v36 =>
  kB v36 fun b67 => kIf b67
  (f3_5 x3 x5 x6 x9 x10 x11 J10 Q w)
  (f3_8 x3 x5 x6 Q w)

def f3_3 (x3 : Value) (x5 : Value) (x6 : Value) (x9 : Value) (x10 : Value) (Q : Value → World → Prop) (w : World) : Prop :=
  kL fun (I : Value → World → Prop) (μ : Value → World → Nat) => I (.int .i64 0) w ∧ ∀ (x11 : Value) (w1 : World), I x11 w1 →
  f3_4 x11 x3 x5 x6 x9 x10 (fun y11 w2 => I y11 w2 ∧ μ y11 w2 < μ x11 w1) Q w1

def f3_2 (x3 : Value) (x4 : Value) (x5 : Value) (x6 : Value) (Q : Value → World → Prop) (w : World) : Prop :=
  kldN 2 x4 w fun v19 =>
  kldN 3 x5 w fun v20 =>
  kcall Tryd.prog 10 #[v19, v20] w fun v21 w22 =>
  kcall Tryd.prog 9 #[v21] w22 fun v23 w24 =>
  kldN 2 x4 w24 fun v25 =>
  kldN 3 x5 w24 fun v26 =>
  kcall Tryd.prog 11 #[v25, v26] w24 fun v27 w28 =>
  klen v23 fun v29 =>
  klen v27 fun v31 =>
  kint .i64 .neq v29 v31 fun v33 =>
  kB v33 fun b68 => kIf b68
  (Q (.bool false) w28)
  (f3_3 x3 x5 x6 v23 v27 Q w28)

def f3_1 (x3 : Value) (x4 : Value) (x5 : Value) (x6 : Value) (x22 : Value) (Q : Value → World → Prop) (w : World) : Prop :=
  kB x22 fun b69 => kIf b69
  (Q (.bool true) w)
  (f3_2 x3 x4 x5 x6 Q w)

def f3_0 (x3 : Value) (x4 : Value) (x5 : Value) (x6 : Value) (Q : Value → World → Prop) (w : World) : Prop :=
  kfld 0 x4 fun v10 =>
  kld v10 w fun v11 =>
  klen v11 fun v12 =>
  kint .i64 .gtr v12 (.int .i64 60) fun v14 =>
  kB v14 fun b15 => kIf (!b15)
  (klen x3 fun v16 =>
  kint .i64 .gtr v16 (.int .i64 60) fun v18 =>
  f3_1 x3 x4 x5 x6 v18 Q w)
  (f3_1 x3 x4 x5 x6 (.bool true) Q w)

def f3 (x0 : Value) (x1 : Value) (x2 : Value) (x3 : Value) (Q : Value → World → Prop) (w : World) : Prop :=
  knew (Value.cells x0) 25 w fun v1 w2 =>
  knew (Value.cells x1) 29 w2 fun v3 w4 =>
  knew (Value.cells x2) 30 w4 fun v5 w6 =>
  kcall Tryd.prog 8 #[] w6 fun v7 w8 =>
  kun .not (some .bool) v7 fun v9 =>
  kB v9 fun b70 => kIf b70
  (Q (.bool false) w8)
  (f3_0 x3 v1 v3 v5 Q w8)

theorem f3_eq (x0 : Value) (x1 : Value) (x2 : Value) (x3 : Value) (Q : Value → World → Prop) (w : World) : f3 x0 x1 x2 x3 Q w = fnVC Tryd.prog Tryd.f3 [(10, [11])] (Tryd.f3.body.get rfl) [x0, x1, x2, x3] w Q := by kernel_rfl
theorem f3_ok {x0 : Value} {x1 : Value} {x2 : Value} {x3 : Value} {Q : Value → World → Prop} {w : World} (h : f3 x0 x1 x2 x3 Q w) : Meets Tryd.prog 3 #[x0, x1, x2, x3] w Q :=
  sound (c := (Tryd.f3.body.get rfl)) [(10, [11])] Tryd.func3 rfl rfl (args := [x0, x1, x2, x3]) rfl (Eq.mp (f3_eq x0 x1 x2 x3 Q w) h)

/-! pasodoble/pasodobleref11.Check -/
def f11_3 (x2 : Value) (x3 : Value) (x5 : Value) (x6 : Value) (J3 : Value → Value → World → Prop) (Q : Value → World → Prop) (w : World) : Prop :=
  kint .i64 .add x6 (.int .i64 1) fun v19 =>
  J3 x5 v19 w

def f11_2 (x2 : Value) (x3 : Value) (x5 : Value) (x6 : Value) (J3 : Value → Value → World → Prop) (Q : Value → World → Prop) (w : World) : Prop :=
  kfld 0 x2 fun v12 =>
  kld v12 w fun v13 =>
  kix (some (.slice 79)) (some 7) v13 x6 fun v14 =>
  kfld 2 v14 fun v15 =>
  kld v15 w fun v16 =>
  kB v16 fun b20 => kIf b20
  (kint .u32 .shl (.int .u32 1) x6 fun v17 =>
  kint .u32 .or x5 v17 fun v18 =>
  f11_3 x2 x3 v18 x6 J3 Q w)
  (f11_3 x2 x3 x5 x6 J3 Q w)

def f11_9 (x7 : Value) (Q : Value → World → Prop) (w : World) : Prop :=
  Q x7 w

def f11_8 (x3 : Value) (x7 : Value) (Q : Value → World → Prop) (w : World) : Prop :=
  kfld 2 x3 fun v61 =>
  kld v61 w fun v62 =>
  kfld 0 x3 fun v63 =>
  kld v63 w fun v64 =>
  kint .u32 .andNot v62 v64 fun v65 =>
  kint .u32 .neq v65 (.int .u32 0) fun v66 =>
  kB v66 fun b72 => kIf b72
  (kbld [(.string ⟨#[]⟩), (.int .i64 0)] [(0, 1, (.string ⟨#[99, 104, 97, 110, 103, 101, 100]⟩)), (1, 1, (.int .i64 7))] fun v67 =>
  kbldS [(.string ⟨#[]⟩), (.int .i64 0)] 1 [(0, 2, v67)] 42 w fun v68 w69 =>
  ksem Tryd.prog (Builtin.append_ #[38, 38] 0 #[x7, v68]) w69 fun v70 w71 =>
  f11_9 v70 Q w71)
  (f11_9 x7 Q w)

def f11_7 (x3 : Value) (x7 : Value) (Q : Value → World → Prop) (w : World) : Prop :=
  kfld 0 x3 fun v50 =>
  kld v50 w fun v51 =>
  kfld 1 x3 fun v52 =>
  kld v52 w fun v53 =>
  kint .u32 .and v51 v53 fun v54 =>
  kint .u32 .neq v54 (.int .u32 0) fun v55 =>
  kB v55 fun b73 => kIf b73
  (kbld [(.string ⟨#[]⟩), (.int .i64 0)] [(0, 1, (.string ⟨#[119, 105, 116, 104, 111, 117, 116]⟩)), (1, 1, (.int .i64 9))] fun v56 =>
  kbldS [(.string ⟨#[]⟩), (.int .i64 0)] 1 [(0, 2, v56)] 42 w fun v57 w58 =>
  ksem Tryd.prog (Builtin.append_ #[38, 38] 0 #[x7, v57]) w58 fun v59 w60 =>
  f11_8 x3 v59 Q w60)
  (f11_8 x3 x7 Q w)

def f11_6 (x3 : Value) (x5 : Value) (x7 : Value) (Q : Value → World → Prop) (w : World) : Prop :=
  kfld 2 x3 fun v41 =>
  kld v41 w fun v42 =>
  kint .u32 .andNot v42 x5 fun v43 =>
  kint .u32 .neq v43 (.int .u32 0) fun v44 =>
  kB v44 fun b74 => kIf b74
  (kbld [(.string ⟨#[]⟩), (.int .i64 0)] [(0, 1, (.string ⟨#[99, 104, 97, 110, 103, 101, 100]⟩)), (1, 1, (.int .i64 1))] fun v45 =>
  kbldS [(.string ⟨#[]⟩), (.int .i64 0)] 1 [(0, 2, v45)] 42 w fun v46 w47 =>
  ksem Tryd.prog (Builtin.append_ #[38, 38] 0 #[x7, v46]) w47 fun v48 w49 =>
  f11_7 x3 v48 Q w49)
  (f11_7 x3 x7 Q w)

def f11_5 (x3 : Value) (x5 : Value) (x7 : Value) (Q : Value → World → Prop) (w : World) : Prop :=
  kfld 1 x3 fun v32 =>
  kld v32 w fun v33 =>
  kint .u32 .andNot v33 x5 fun v34 =>
  kint .u32 .neq v34 (.int .u32 0) fun v35 =>
  kB v35 fun b75 => kIf b75
  (kbld [(.string ⟨#[]⟩), (.int .i64 0)] [(0, 1, (.string ⟨#[119, 105, 116, 104, 111, 117, 116]⟩)), (1, 1, (.int .i64 1))] fun v36 =>
  kbldS [(.string ⟨#[]⟩), (.int .i64 0)] 1 [(0, 2, v36)] 42 w fun v37 w38 =>
  ksem Tryd.prog (Builtin.append_ #[38, 38] 0 #[x7, v37]) w38 fun v39 w40 =>
  f11_6 x3 x5 v39 Q w40)
  (f11_6 x3 x5 x7 Q w)

def f11_4 (x3 : Value) (x5 : Value) (Q : Value → World → Prop) (w : World) : Prop :=
  kbldS [(.string ⟨#[]⟩), (.int .i64 0)] 0 [] 42 w fun v21 w22 =>
  kfld 0 x3 fun v23 =>
  kld v23 w22 fun v24 =>
  kint .u32 .andNot v24 x5 fun v25 =>
  kint .u32 .neq v25 (.int .u32 0) fun v26 =>
  kB v26 fun b76 => kIf b76
  (kbld [(.string ⟨#[]⟩), (.int .i64 0)] [(0, 1, (.string ⟨#[119, 105, 116, 104]⟩)), (1, 1, (.int .i64 1))] fun v27 =>
  kbldS [(.string ⟨#[]⟩), (.int .i64 0)] 1 [(0, 2, v27)] 42 w22 fun v28 w29 =>
  ksem Tryd.prog (Builtin.append_ #[38, 38] 0 #[v21, v28]) w29 fun v30 w31 =>
  f11_5 x3 x5 v30 Q w31)
  (f11_5 x3 x5 v21 Q w22)

def f11_1 (x2 : Value) (x3 : Value) (x5 : Value) (x6 : Value) (x16 : Value) (J3 : Value → Value → World → Prop) (Q : Value → World → Prop) (w : World) : Prop :=
  kB x16 fun b77 => kIf b77
  (f11_2 x2 x3 x5 x6 J3 Q w)
  (f11_4 x3 x5 Q w)

def f11_0 (x5 : Value) (x6 : Value) (x2 : Value) (x3 : Value) (J3 : Value → Value → World → Prop) (Q : Value → World → Prop) (w : World) : Prop :=
  kfld 0 x2 fun v5 =>
  kld v5 w fun v6 =>
  klen v6 fun v7 =>
  kint .i64 .lss x6 v7 fun v9 =>
  kB v9 fun b10 => kIf b10
  (kint .i64 .lss x6 (.int .i64 32) fun v11 =>
  f11_1 x2 x3 x5 x6 v11 J3 Q w)
  (f11_1 x2 x3 x5 x6 (.bool false) J3 Q w)

def f11 (x0 : Value) (x1 : Value) (Q : Value → World → Prop) (w : World) : Prop :=
  knew (Value.cells x0) 25 w fun v1 w2 =>
  knew (Value.cells x1) 29 w2 fun v3 w4 =>
  kL fun (I : Value → Value → World → Prop) (μ : Value → Value → World → Nat) => I (.int .u32 0) (.int .i64 0) w4 ∧ ∀ (x5 x6 : Value) (w1 : World), I x5 x6 w1 →
  f11_0 x5 x6 v1 v3 (fun y5 y6 w2 => I y5 y6 w2 ∧ μ y5 y6 w2 < μ x5 x6 w1) Q w1

theorem f11_eq (x0 : Value) (x1 : Value) (Q : Value → World → Prop) (w : World) : f11 x0 x1 Q w = fnVC Tryd.prog Tryd.f11 [(3, [5, 6])] (Tryd.f11.body.get rfl) [x0, x1] w Q := by kernel_rfl
theorem f11_ok {x0 : Value} {x1 : Value} {Q : Value → World → Prop} {w : World} (h : f11 x0 x1 Q w) : Meets Tryd.prog 11 #[x0, x1] w Q :=
  sound (c := (Tryd.f11.body.get rfl)) [(3, [5, 6])] Tryd.func11 rfl rfl (args := [x0, x1]) rfl (Eq.mp (f11_eq x0 x1 Q w) h)

/-! pasodoble/pasodobleref11.Means -/
def f13_3 (x1 : Value) (x2 : Value) (x3 : Value) (x7 : Value) (x8 : Value) (x9 : Value) (J5 : Value → Value → Value → World → Prop) (Q : Value → World → Prop) (w : World) : Prop :=
  kint .i64 .add x9 (.int .i64 1) fun v14 =>
  J5 x7 x8 v14 w

def f13_4 (x1 : Value) (x2 : Value) (x3 : Value) (x7 : Value) (x8 : Value) (x9 : Value) (x10 : Value) (J5 : Value → Value → Value → World → Prop) (Q : Value → World → Prop) (w : World) : Prop :=
  kint .u32 .shl (.int .u32 1) x10 fun v15 =>
  kint .u32 .or x7 v15 fun v16 =>
  kix (some (.slice 73)) (some 6) x2 x9 fun v17 =>
  kfld 5 v17 fun v18 =>
  kld v18 w fun v19 =>
  kint .i64 .sub x1 (.int .i64 1) fun v20 =>
  kint .i64 .geq v19 v20 fun v21 =>
  kB v21 fun b24 => kIf b24
  (kint .u32 .shl (.int .u32 1) x10 fun v22 =>
  kint .u32 .or x8 v22 fun v23 =>
  f13_3 x1 x2 x3 v16 v23 x9 J5 Q w)
  (f13_3 x1 x2 x3 v16 x8 x9 J5 Q w)

def f13_2 (x1 : Value) (x2 : Value) (x3 : Value) (x7 : Value) (x8 : Value) (x9 : Value) (x10 : Value) (x30 : Value) (J5 : Value → Value → Value → World → Prop) (Q : Value → World → Prop) (w : World) : Prop :=
  kB x30 fun b25 => kIf b25
  (f13_3 x1 x2 x3 x7 x8 x9 J5 Q w)
  (f13_4 x1 x2 x3 x7 x8 x9 x10 J5 Q w)

def f13_1 (x1 : Value) (x2 : Value) (x3 : Value) (x7 : Value) (x8 : Value) (x9 : Value) (J5 : Value → Value → Value → World → Prop) (Q : Value → World → Prop) (w : World) : Prop :=
  kix (some (.slice 73)) (some 6) x2 x9 fun v8 =>
  kfld 0 v8 fun v9 =>
  kld v9 w fun v10 =>
  kint .i64 .lss v10 (.int .i64 0) fun v11 =>
  kB v11 fun b12 => kIf (!b12)
  (kint .i64 .gtr v10 (.int .i64 31) fun v13 =>
  f13_2 x1 x2 x3 x7 x8 x9 v10 v13 J5 Q w)
  (f13_2 x1 x2 x3 x7 x8 x9 v10 (.bool true) J5 Q w)

def f13_9 (x3 : Value) (x7 : Value) (x8 : Value) (x11 : Value) (J13 : Value → World → Prop) (Q : Value → World → Prop) (w : World) : Prop :=
  kint .i64 .add x11 (.int .i64 1) fun v52 =>
  J13 v52 w

def f13_8 (x3 : Value) (x7 : Value) (x8 : Value) (x11 : Value) (x83 : Value) (J13 : Value → World → Prop) (Q : Value → World → Prop) (w : World) : Prop :=
  kB x83 fun b53 => kIf b53
  (Q (.bool false) w)
  (f13_9 x3 x7 x8 x11 J13 Q w)

def f13_7 (x3 : Value) (x7 : Value) (x8 : Value) (x11 : Value) (J13 : Value → World → Prop) (Q : Value → World → Prop) (w : World) : Prop :=
  kfld 0 x3 fun v27 =>
  kld v27 w fun v28 =>
  kcall Tryd.prog 35 #[v28, x11] w fun v29 w30 =>
  kB v29 fun b31 => kIf b31
  (kcall Tryd.prog 35 #[x7, x11] w30 fun v32 w33 =>
  kun .not (some .bool) v32 fun v34 =>
  kB v34 fun b35 => kIf (!b35)
  (kfld 1 x3 fun v36 =>
  kld v36 w33 fun v37 =>
  kcall Tryd.prog 35 #[v37, x11] w33 fun v38 w39 =>
  kB v38 fun b40 => kIf b40
  (kcall Tryd.prog 35 #[x7, x11] w39 fun v41 w42 =>
  kB v41 fun b43 => kIf (!b43)
  (kfld 2 x3 fun v44 =>
  kld v44 w42 fun v45 =>
  kcall Tryd.prog 35 #[v45, x11] w42 fun v46 w47 =>
  kB v46 fun b48 => kIf b48
  (kcall Tryd.prog 35 #[x8, x11] w47 fun v49 w50 =>
  kun .not (some .bool) v49 fun v51 =>
  f13_8 x3 x7 x8 x11 v51 J13 Q w50)
  (f13_8 x3 x7 x8 x11 (.bool false) J13 Q w47))
  (f13_8 x3 x7 x8 x11 (.bool true) J13 Q w42))
  (kfld 2 x3 fun v54 =>
  kld v54 w39 fun v55 =>
  kcall Tryd.prog 35 #[v55, x11] w39 fun v56 w57 =>
  kB v56 fun b58 => kIf b58
  (kcall Tryd.prog 35 #[x8, x11] w57 fun v59 w60 =>
  kun .not (some .bool) v59 fun v61 =>
  f13_8 x3 x7 x8 x11 v61 J13 Q w60)
  (f13_8 x3 x7 x8 x11 (.bool false) J13 Q w57)))
  (f13_8 x3 x7 x8 x11 (.bool true) J13 Q w33))
  (kfld 1 x3 fun v62 =>
  kld v62 w30 fun v63 =>
  kcall Tryd.prog 35 #[v63, x11] w30 fun v64 w65 =>
  kB v64 fun b66 => kIf b66
  (kcall Tryd.prog 35 #[x7, x11] w65 fun v67 w68 =>
  kB v67 fun b69 => kIf (!b69)
  (kfld 2 x3 fun v70 =>
  kld v70 w68 fun v71 =>
  kcall Tryd.prog 35 #[v71, x11] w68 fun v72 w73 =>
  kB v72 fun b74 => kIf b74
  (kcall Tryd.prog 35 #[x8, x11] w73 fun v75 w76 =>
  kun .not (some .bool) v75 fun v77 =>
  f13_8 x3 x7 x8 x11 v77 J13 Q w76)
  (f13_8 x3 x7 x8 x11 (.bool false) J13 Q w73))
  (f13_8 x3 x7 x8 x11 (.bool true) J13 Q w68))
  (kfld 2 x3 fun v78 =>
  kld v78 w65 fun v79 =>
  kcall Tryd.prog 35 #[v79, x11] w65 fun v80 w81 =>
  kB v80 fun b82 => kIf b82
  (kcall Tryd.prog 35 #[x8, x11] w81 fun v83 w84 =>
  kun .not (some .bool) v83 fun v85 =>
  f13_8 x3 x7 x8 x11 v85 J13 Q w84)
  (f13_8 x3 x7 x8 x11 (.bool false) J13 Q w81)))

def f13_10 (Q : Value → World → Prop) (w : World) : Prop :=
  Q (.bool true) w

def f13_6 (x11 : Value) (x3 : Value) (x7 : Value) (x8 : Value) (J13 : Value → World → Prop) (Q : Value → World → Prop) (w : World) : Prop :=
  kint .i64 .lss x11 (.int .i64 32) fun v26 =>
  kB v26 fun b86 => kIf b86
  (f13_7 x3 x7 x8 x11 J13 Q w)
  (f13_10 Q w)

def f13_5 (x3 : Value) (x7 : Value) (x8 : Value) (Q : Value → World → Prop) (w : World) : Prop :=
  kL fun (I : Value → World → Prop) (μ : Value → World → Nat) => I (.int .i64 0) w ∧ ∀ (x11 : Value) (w1 : World), I x11 w1 →
  f13_6 x11 x3 x7 x8 (fun y11 w2 => I y11 w2 ∧ μ y11 w2 < μ x11 w1) Q w1

def f13_0 (x7 : Value) (x8 : Value) (x9 : Value) (x1 : Value) (x2 : Value) (x3 : Value) (J5 : Value → Value → Value → World → Prop) (Q : Value → World → Prop) (w : World) : Prop :=
  klen x2 fun v5 =>
  kint .i64 .lss x9 v5 fun v7 =>
  kB v7 fun b87 => kIf b87
  (f13_1 x1 x2 x3 x7 x8 x9 J5 Q w)
  (f13_5 x3 x7 x8 Q w)

def f13 (x0 : Value) (x1 : Value) (x2 : Value) (Q : Value → World → Prop) (w : World) : Prop :=
  knew (Value.cells x0) 29 w fun v1 w2 =>
  kmm .i64 true x1 (.int .i64 (-4611686018427387904)) fun v3 =>
  kL fun (I : Value → Value → Value → World → Prop) (μ : Value → Value → Value → World → Nat) => I (.int .u32 0) (.int .u32 0) (.int .i64 0) w2 ∧ ∀ (x7 x8 x9 : Value) (w1 : World), I x7 x8 x9 w1 →
  f13_0 x7 x8 x9 v3 x2 v1 (fun y7 y8 y9 w2 => I y7 y8 y9 w2 ∧ μ y7 y8 y9 w2 < μ x7 x8 x9 w1) Q w1

theorem f13_eq (x0 : Value) (x1 : Value) (x2 : Value) (Q : Value → World → Prop) (w : World) : f13 x0 x1 x2 Q w = fnVC Tryd.prog Tryd.f13 [(5, [7, 8, 9]), (13, [11])] (Tryd.f13.body.get rfl) [x0, x1, x2] w Q := by kernel_rfl
theorem f13_ok {x0 : Value} {x1 : Value} {x2 : Value} {Q : Value → World → Prop} {w : World} (h : f13 x0 x1 x2 Q w) : Meets Tryd.prog 13 #[x0, x1, x2] w Q :=
  sound (c := (Tryd.f13.body.get rfl)) [(5, [7, 8, 9]), (13, [11])] Tryd.func13 rfl rfl (args := [x0, x1, x2]) rfl (Eq.mp (f13_eq x0 x1 x2 Q w) h)

/-! pasodoble/pasodobleref11.has -/
def f35 (x0 : Value) (x1 : Value) (Q : Value → World → Prop) (w : World) : Prop :=
  kint .i64 .geq x1 (.int .i64 0) fun v1 =>
  kB v1 fun b2 => kIf b2
  (kint .i64 .lss x1 (.int .i64 32) fun v3 =>
  kB v3 fun b4 => kIf b4
  (kint .u32 .shr x0 x1 fun v5 =>
  kint .u32 .rem v5 (.int .u32 2) fun v6 =>
  kint .u32 .eql v6 (.int .u32 1) fun v7 =>
  Q v7 w)
  (Q (.bool false) w))
  (Q (.bool false) w)

theorem f35_eq (x0 : Value) (x1 : Value) (Q : Value → World → Prop) (w : World) : f35 x0 x1 Q w = fnVC Tryd.prog Tryd.f35 [] (Tryd.f35.body.get rfl) [x0, x1] w Q := by kernel_rfl
theorem f35_ok {x0 : Value} {x1 : Value} {Q : Value → World → Prop} {w : World} (h : f35 x0 x1 Q w) : Meets Tryd.prog 35 #[x0, x1] w Q :=
  sound (c := (Tryd.f35.body.get rfl)) [] Tryd.func35 rfl rfl (args := [x0, x1]) rfl (Eq.mp (f35_eq x0 x1 Q w) h)

end Go.Proofs.YtcabkicjboedaaaDoor
