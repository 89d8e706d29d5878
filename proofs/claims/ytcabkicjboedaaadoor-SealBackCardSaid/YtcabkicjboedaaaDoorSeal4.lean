/-
Lemmas for the statements of this seat: no statement of the seat is proved in this part (4 of 4); the conditions stand in each theorem.
-/
import Derived.Test.YtcabkicjboedaaaDoorSeal3
import Derived.Test.YtcabkicjboedaaaDoorChecked
import Derived.Test.YtcabkicjboedaaaDoorRows
import Derived.ProofKit
import Derived.Stop.Joined
import Derived.LaidMore
import Derived.LaidHandle
section
namespace Go.Proofs.YtcabkicjboedaaaDoor
open Go Go.Ev
set_option linter.unusedVariables false
set_option maxRecDepth 100000

/-! pasodoble/pasodoblelaw22.awake -/
def f15 (Q : Value → World → Prop) (w : World) : Prop :=
  kbld [(.int .i64 0), (.int .i64 0), (.int .i64 0), (.slice none 0 0), (.slice none 0 0)] [(1, 1, (.int .i64 1))] fun v1 =>
  kcall Tryd.prog 22 #[v1] w fun v2 w3 =>
  kext v2 0 fun v4 =>
  kext v2 1 fun v5 =>
  kcall Tryd.prog 16 #[v4] w3 fun v6 w7 =>
  kext v6 0 fun v8 =>
  kext v6 1 fun v9 =>
  knew #[(.int .i64 0), (.int .i64 0), (.int .i64 0), (.slice none 0 0), (.slice none 0 0)] 55 w7 fun v10 w11 =>
  kst 5 v10 v8 w11 fun w12 =>
  kbld [(.int .i64 0), (.slice none 0 0)] [(0, 1, (.int .i64 3))] fun v13 =>
  kbldS [(.int .i64 0), (.slice none 0 0)] 1 [(0, 2, v13)] 85 w12 fun v14 w15 =>
  kbld [(.int .i64 0), (.int .i64 0), (.int .i64 0), (.slice none 0 0), (.slice none 0 0)] [(3, 1, v14)] fun v16 =>
  kbld [(.int .i64 0), (.int .i64 0), (.int .i64 0), (.int .i64 0), (.int .i64 0), (.int .i64 0)] [] fun v17 =>
  kbldS [(.int .i64 0), (.int .i64 0), (.int .i64 0), (.int .i64 0), (.int .i64 0), (.int .i64 0)] 1 [(0, 6, v17)] 73 w15 fun v18 w19 =>
  kbld [(.int .i64 0), (.slice none 0 0)] [(0, 1, (.int .i64 3)), (1, 1, v18)] fun v20 =>
  kbldS [(.int .i64 0), (.slice none 0 0)] 1 [(0, 2, v20)] 85 w19 fun v21 w22 =>
  kbld [(.int .i64 0), (.int .i64 0), (.int .i64 0), (.slice none 0 0), (.slice none 0 0)] [(3, 1, v21)] fun v23 =>
  kcall Tryd.prog 24 #[v16, v23] w22 fun v24 w25 =>
  kext v24 0 fun v26 =>
  kext v24 1 fun v27 =>
  kstr .add v4 (.string ⟨#[120]⟩) fun v28 =>
  kcall Tryd.prog 16 #[v28] w25 fun v29 w30 =>
  kext v29 0 fun v31 =>
  kext v29 1 fun v32 =>
  knew #[(.int .i64 0), (.int .i64 0), (.int .i64 0), (.slice none 0 0), (.slice none 0 0)] 55 w30 fun v33 w34 =>
  kst 5 v33 v31 w34 fun w35 =>
  keq Tryd.prog .eql 36 false true v5 .nilIface w35 fun v36 w37 =>
  kB v36 fun b38 => kIf b38
  (kstr .eql v4 (.string ⟨#[0, 1, 0, 0, 0]⟩) fun v39 =>
  kB v39 fun b40 => kIf b40
  (keq Tryd.prog .eql 36 false true v9 .nilIface w37 fun v41 w42 =>
  kB v41 fun b43 => kIf b43
  (kldN 5 v10 w42 fun v44 =>
  kbld [(.int .i64 0), (.int .i64 0), (.int .i64 0), (.slice none 0 0), (.slice none 0 0)] [(1, 1, (.int .i64 1))] fun v45 =>
  kcall Tryd.prog 18 #[v44, v45] w42 fun v46 w47 =>
  kB v46 fun b48 => kIf b48
  (kstr .eql v26 (.string ⟨#[98, 101, 105, 110, 103, 32, 51]⟩) fun v49 =>
  kB v49 fun b50 => kIf b50
  (kB v27 fun b51 => kIf b51
  (kld (.pointer (some ⟨0, 0, none⟩)) w47 fun v52 =>
  kcall Tryd.prog 17 #[v32, v52] w47 fun v53 w54 =>
  Q v53 w54)
  (Q (.bool false) w47))
  (Q (.bool false) w47))
  (Q (.bool false) w47))
  (Q (.bool false) w42))
  (Q (.bool false) w37))
  (Q (.bool false) w37)

theorem f15_eq (Q : Value → World → Prop) (w : World) : f15 Q w = fnVC Tryd.prog Tryd.f15 [] (Tryd.f15.body.get rfl) [] w Q := by kernel_rfl
theorem f15_ok {Q : Value → World → Prop} {w : World} (h : f15 Q w) : Meets Tryd.prog 15 #[] w Q :=
  sound (c := (Tryd.f15.body.get rfl)) [] Tryd.func15 rfl rfl (args := []) rfl (Eq.mp (f15_eq Q w) h)

/-! pasodoble/pasodoblelaw22.SealReads -/
def f5_2 (x0 : Value) (x3 : Value) (Q : Value → World → Prop) (w : World) : Prop :=
  kldN 5 x3 w fun v24 =>
  kcall Tryd.prog 19 #[v24] w fun v25 w26 =>
  kB v25 fun b27 => kIf b27
  (kldN 5 x3 w26 fun v28 =>
  kcall Tryd.prog 20 #[v28] w26 fun v29 w30 =>
  kstr .eql v29 x0 fun v31 =>
  Q v31 w30)
  (Q (.bool false) w26)

def f5_1 (x0 : Value) (Q : Value → World → Prop) (w : World) : Prop :=
  kcall Tryd.prog 16 #[x0] w fun v7 w8 =>
  kext v7 0 fun v9 =>
  kext v7 1 fun v10 =>
  knew #[(.int .i64 0), (.int .i64 0), (.int .i64 0), (.slice none 0 0), (.slice none 0 0)] 55 w8 fun v11 w12 =>
  kst 5 v11 v9 w12 fun w13 =>
  keq Tryd.prog .neq 36 false true v10 .nilIface w13 fun v14 w15 =>
  kB v14 fun b32 => kIf b32
  (kld (.pointer (some ⟨0, 0, none⟩)) w15 fun v16 =>
  kcall Tryd.prog 17 #[v10, v16] w15 fun v17 w18 =>
  kB v17 fun b19 => kIf b19
  (kldN 5 v11 w18 fun v20 =>
  kbld [(.int .i64 0), (.int .i64 0), (.int .i64 0), (.slice none 0 0), (.slice none 0 0)] [] fun v21 =>
  kcall Tryd.prog 18 #[v20, v21] w18 fun v22 w23 =>
  Q v22 w23)
  (Q (.bool false) w18))
  (f5_2 x0 v11 Q w15)

def f5_0 (x0 : Value) (Q : Value → World → Prop) (w : World) : Prop :=
  klenStr x0 fun v4 =>
  kint .i64 .gtr v4 (.int .i64 16384) fun v6 =>
  kB v6 fun b33 => kIf b33
  (Q (.bool true) w)
  (f5_1 x0 Q w)

def f5 (x0 : Value) (Q : Value → World → Prop) (w : World) : Prop :=
  kcall Tryd.prog 15 #[] w fun v1 w2 =>
  kun .not (some .bool) v1 fun v3 =>
  kB v3 fun b34 => kIf b34
  (Q (.bool false) w2)
  (f5_0 x0 Q w2)

theorem f5_eq (x0 : Value) (Q : Value → World → Prop) (w : World) : f5 x0 Q w = fnVC Tryd.prog Tryd.f5 [] (Tryd.f5.body.get rfl) [x0] w Q := by kernel_rfl
theorem f5_ok {x0 : Value} {Q : Value → World → Prop} {w : World} (h : f5 x0 Q w) : Meets Tryd.prog 5 #[x0] w Q :=
  sound (c := (Tryd.f5.body.get rfl)) [] Tryd.func5 rfl rfl (args := [x0]) rfl (Eq.mp (f5_eq x0 Q w) h)

/-! pasodoble/pasodoblelaw22.SealCuts -/
def f6_3 (x1 : Value) (x2 : Value) (x7 : Value) (Q : Value → World → Prop) (w : World) : Prop :=
  kcnv .u64 x1 fun v20 =>
  klenStr x7 fun v21 =>
  kcnv .u64 v21 fun v23 =>
  kint .u64 .rem v20 v23 fun v24 =>
  kcnv .i64 v24 fun v25 =>
  ksl (some .string) none x7 none (some v25) fun v26 =>
  kcall Tryd.prog 16 #[v26] w fun v27 w28 =>
  kext v27 0 fun v29 =>
  kext v27 1 fun v30 =>
  knew #[(.int .i64 0), (.int .i64 0), (.int .i64 0), (.slice none 0 0), (.slice none 0 0)] 55 w28 fun v31 w32 =>
  kst 5 v31 v29 w32 fun w33 =>
  kstr .add x7 x2 fun v34 =>
  kcall Tryd.prog 16 #[v34] w33 fun v35 w36 =>
  kext v35 0 fun v37 =>
  kext v35 1 fun v38 =>
  knew #[(.int .i64 0), (.int .i64 0), (.int .i64 0), (.slice none 0 0), (.slice none 0 0)] 55 w36 fun v39 w40 =>
  kst 5 v39 v37 w40 fun w41 =>
  keq Tryd.prog .neq 36 false true v30 .nilIface w41 fun v42 w43 =>
  kB v42 fun b44 => kIf b44
  (keq Tryd.prog .eql 36 false true v38 .nilIface w43 fun v45 w46 =>
  kstr .eql x2 (.string ⟨#[]⟩) fun v47 =>
  kbool .eql v45 v47 fun v48 =>
  Q v48 w46)
  (Q (.bool false) w43)

def f6_2 (x1 : Value) (x2 : Value) (x3 : Value) (Q : Value → World → Prop) (w : World) : Prop :=
  kldN 5 x3 w fun v13 =>
  kcall Tryd.prog 22 #[v13] w fun v14 w15 =>
  kext v14 0 fun v16 =>
  kext v14 1 fun v17 =>
  keq Tryd.prog .neq 36 false true v17 .nilIface w15 fun v18 w19 =>
  kB v18 fun b49 => kIf b49
  (Q (.bool true) w19)
  (f6_3 x1 x2 v16 Q w19)

def f6_1 (x1 : Value) (x2 : Value) (x3 : Value) (x21 : Value) (Q : Value → World → Prop) (w : World) : Prop :=
  kB x21 fun b50 => kIf b50
  (Q (.bool true) w)
  (f6_2 x1 x2 x3 Q w)

def f6_0 (x1 : Value) (x2 : Value) (x3 : Value) (Q : Value → World → Prop) (w : World) : Prop :=
  kldN 5 x3 w fun v6 =>
  kcall Tryd.prog 21 #[v6] w fun v7 w8 =>
  kB v7 fun b9 => kIf (!b9)
  (klenStr x2 fun v10 =>
  kint .i64 .gtr v10 (.int .i64 100) fun v12 =>
  f6_1 x1 x2 x3 v12 Q w8)
  (f6_1 x1 x2 x3 (.bool true) Q w8)

def f6 (x0 : Value) (x1 : Value) (x2 : Value) (Q : Value → World → Prop) (w : World) : Prop :=
  knew (Value.cells x0) 55 w fun v1 w2 =>
  kcall Tryd.prog 15 #[] w2 fun v3 w4 =>
  kun .not (some .bool) v3 fun v5 =>
  kB v5 fun b51 => kIf b51
  (Q (.bool false) w4)
  (f6_0 x1 x2 v1 Q w4)

theorem f6_eq (x0 : Value) (x1 : Value) (x2 : Value) (Q : Value → World → Prop) (w : World) : f6 x0 x1 x2 Q w = fnVC Tryd.prog Tryd.f6 [] (Tryd.f6.body.get rfl) [x0, x1, x2] w Q := by kernel_rfl
theorem f6_ok {x0 : Value} {x1 : Value} {x2 : Value} {Q : Value → World → Prop} {w : World} (h : f6 x0 x1 x2 Q w) : Meets Tryd.prog 6 #[x0, x1, x2] w Q :=
  sound (c := (Tryd.f6.body.get rfl)) [] Tryd.func6 rfl rfl (args := [x0, x1, x2]) rfl (Eq.mp (f6_eq x0 x1 x2 Q w) h)

/-! pasodoble/pasodoblelaw22.SealBack -/
def f7_5 (x2 : Value) (x5 : Value) (Q : Value → World → Prop) (w : World) : Prop :=
  kcall Tryd.prog 16 #[x5] w fun v65 w66 =>
  kext v65 0 fun v67 =>
  kext v65 1 fun v68 =>
  knew #[(.int .i64 0), (.int .i64 0), (.int .i64 0), (.slice none 0 0), (.slice none 0 0)] 55 w66 fun v69 w70 =>
  kst 5 v69 v67 w70 fun w71 =>
  keq Tryd.prog .eql 36 false true v68 .nilIface w71 fun v72 w73 =>
  kB v72 fun b74 => kIf b74
  (kldN 5 v69 w73 fun v75 =>
  kldN 5 x2 w73 fun v76 =>
  kcall Tryd.prog 23 #[v75, v76] w73 fun v77 w78 =>
  kB v77 fun b79 => kIf b79
  (kldN 5 v69 w78 fun v80 =>
  kcall Tryd.prog 26 #[v80] w78 fun v81 w82 =>
  Q v81 w82)
  (Q (.bool false) w78))
  (Q (.bool false) w73)

def f7_4 (x2 : Value) (x5 : Value) (x6 : Value) (Q : Value → World → Prop) (w : World) : Prop :=
  keq Tryd.prog .neq 36 false true x6 .nilIface w fun v62 w63 =>
  kB v62 fun b83 => kIf b83
  (kstr .eql x5 (.string ⟨#[]⟩) fun v64 =>
  Q v64 w63)
  (f7_5 x2 x5 Q w63)

def f7_3 (x2 : Value) (x5 : Value) (x6 : Value) (x81 : Value) (Q : Value → World → Prop) (w : World) : Prop :=
  kB x81 fun b84 => kIf b84
  (Q (.bool false) w)
  (f7_4 x2 x5 x6 Q w)

def f7_2 (x2 : Value) (x3 : Value) (Q : Value → World → Prop) (w : World) : Prop :=
  kldN 5 x2 w fun v15 =>
  kcall Tryd.prog 22 #[v15] w fun v16 w17 =>
  kext v16 0 fun v18 =>
  kext v16 1 fun v19 =>
  kldN 5 x3 w17 fun v20 =>
  kcall Tryd.prog 22 #[v20] w17 fun v21 w22 =>
  kext v21 0 fun v23 =>
  kext v21 1 fun v24 =>
  kldN 5 x2 w22 fun v25 =>
  kldN 5 x3 w22 fun v26 =>
  kcall Tryd.prog 23 #[v25, v26] w22 fun v27 w28 =>
  kldN 5 x2 w28 fun v29 =>
  kldN 5 x3 w28 fun v30 =>
  kcall Tryd.prog 24 #[v29, v30] w28 fun v31 w32 =>
  kext v31 0 fun v33 =>
  kext v31 1 fun v34 =>
  kldN 5 x3 w32 fun v35 =>
  kldN 5 x2 w32 fun v36 =>
  kcall Tryd.prog 24 #[v35, v36] w32 fun v37 w38 =>
  kext v37 0 fun v39 =>
  kext v37 1 fun v40 =>
  kbool .eql v34 v27 fun v41 =>
  kB v41 fun b42 => kIf (!b42)
  (kbool .neq v40 v34 fun v43 =>
  kB v43 fun b44 => kIf (!b44)
  (keq Tryd.prog .eql 36 false true v19 .nilIface w38.drew fun v45 w46 =>
  kG (w46 = w38.drew) <|
  kB v45 fun b47 => kIf b47
  (keq Tryd.prog .eql 36 false true v24 .nilIface w46 fun v48 w49 =>
  kG (w49 = w46) <|
  kB v48 fun b50 => kIf b50
  (kstr .eql v18 v23 fun v51 =>
  kbool .neq v51 v27 fun v52 =>
  kB v52 fun b53 => kIf (!b53)
  (kB v27 fun b54 => kIf b54
  (kldN 5 x2 w49 fun v55 =>
  kG (w49 = w49) <|
  kcall Tryd.prog 25 #[v55] w49 fun v56 w57 =>
  kldN 5 x3 w57 fun v58 =>
  kG (w57 = w57) <|
  kG (kldN 5 x3 w49 fun v85 =>
  v85 = v58 ∧ w49 = w49) <|
  kcall Tryd.prog 25 #[v58] w57 fun v59 w60 =>
  kint .u64 .neq v56 v59 fun v61 =>
  f7_3 x2 v18 v19 v61 Q w60)
  (f7_3 x2 v18 v19 (.bool false) Q w49))
  (f7_3 x2 v18 v19 (.bool true) Q w49))
  (kB v27 fun b86 => kIf b86
  (kldN 5 x2 w49 fun v87 =>
  kG (w49 = w49) <|
  kcall Tryd.prog 25 #[v87] w49 fun v88 w89 =>
  kldN 5 x3 w89 fun v90 =>
  kG (w89 = w89) <|
  kG (kldN 5 x3 w49 fun v94 =>
  v94 = v90 ∧ w49 = w49) <|
  kcall Tryd.prog 25 #[v90] w89 fun v91 w92 =>
  kint .u64 .neq v88 v91 fun v93 =>
  f7_3 x2 v18 v19 v93 Q w92)
  (f7_3 x2 v18 v19 (.bool false) Q w49)))
  (kB v27 fun b95 => kIf b95
  (kldN 5 x2 w46 fun v96 =>
  kG (w46 = w46) <|
  kcall Tryd.prog 25 #[v96] w46 fun v97 w98 =>
  kldN 5 x3 w98 fun v99 =>
  kG (w98 = w98) <|
  kG (kldN 5 x3 w46 fun v103 =>
  v103 = v99 ∧ w46 = w46) <|
  kcall Tryd.prog 25 #[v99] w98 fun v100 w101 =>
  kint .u64 .neq v97 v100 fun v102 =>
  f7_3 x2 v18 v19 v102 Q w101)
  (f7_3 x2 v18 v19 (.bool false) Q w46)))
  (f7_3 x2 v18 v19 (.bool true) Q w38.drew))
  (f7_3 x2 v18 v19 (.bool true) Q w38.drew)

def f7_1 (x2 : Value) (x3 : Value) (x23 : Value) (Q : Value → World → Prop) (w : World) : Prop :=
  kB x23 fun b104 => kIf b104
  (Q (.bool true) w)
  (f7_2 x2 x3 Q w)

def f7_0 (x2 : Value) (x3 : Value) (Q : Value → World → Prop) (w : World) : Prop :=
  kldN 5 x2 w fun v8 =>
  kcall Tryd.prog 21 #[v8] w fun v9 w10 =>
  kB v9 fun b11 => kIf (!b11)
  (kldN 5 x3 w10 fun v12 =>
  kcall Tryd.prog 21 #[v12] w10 fun v13 w14 =>
  f7_1 x2 x3 v13 Q w14)
  (f7_1 x2 x3 (.bool true) Q w10)

def f7 (x0 : Value) (x1 : Value) (Q : Value → World → Prop) (w : World) : Prop :=
  knew (Value.cells x0) 55 w fun v1 w2 =>
  knew (Value.cells x1) 55 w2 fun v3 w4 =>
  kcall Tryd.prog 15 #[] w4 fun v5 w6 =>
  kun .not (some .bool) v5 fun v7 =>
  kB v7 fun b105 => kIf b105
  (Q (.bool false) w6)
  (f7_0 v1 v3 Q w6)

theorem f7_eq (x0 : Value) (x1 : Value) (Q : Value → World → Prop) (w : World) : f7 x0 x1 Q w = fnVC Tryd.prog Tryd.f7 [] (Tryd.f7.body.get rfl) [x0, x1] w Q := by kernel_rfl
theorem f7_ok {x0 : Value} {x1 : Value} {Q : Value → World → Prop} {w : World} (h : f7 x0 x1 Q w) : Meets Tryd.prog 7 #[x0, x1] w Q :=
  sound (c := (Tryd.f7.body.get rfl)) [] Tryd.func7 rfl rfl (args := [x0, x1]) rfl (Eq.mp (f7_eq x0 x1 Q w) h)

/-! pasodoble/pasodoblelaw22.great -/
def f21_5 (x1 : Value) (x3 : Value) (J4 : Value → World → Prop) (Q : Value → World → Prop) (w : World) : Prop :=
  kint .i64 .add x3 (.int .i64 1) fun v34 =>
  J4 v34 w

def f21_4 (x1 : Value) (x3 : Value) (x37 : Value) (J4 : Value → World → Prop) (Q : Value → World → Prop) (w : World) : Prop :=
  kB x37 fun b35 => kIf b35
  (Q (.bool true) w)
  (f21_5 x1 x3 J4 Q w)

def f21_3 (x1 : Value) (x3 : Value) (J4 : Value → World → Prop) (Q : Value → World → Prop) (w : World) : Prop :=
  kfld 3 x1 fun v19 =>
  kld v19 w fun v20 =>
  kix (some (.slice 85)) (some 2) v20 x3 fun v21 =>
  kfld 1 v21 fun v22 =>
  kld v22 w fun v23 =>
  klen v23 fun v24 =>
  kint .i64 .gtr v24 (.int .i64 20) fun v26 =>
  kB v26 fun b27 => kIf (!b27)
  (kfld 3 x1 fun v28 =>
  kld v28 w fun v29 =>
  kix (some (.slice 85)) (some 2) v29 x3 fun v30 =>
  kfld 0 v30 fun v31 =>
  kld v31 w fun v32 =>
  kint .i64 .eql v32 (.int .i64 (-9223372036854775808)) fun v33 =>
  f21_4 x1 x3 v33 J4 Q w)
  (f21_4 x1 x3 (.bool true) J4 Q w)

def f21_6 (Q : Value → World → Prop) (w : World) : Prop :=
  Q (.bool false) w

def f21_2 (x3 : Value) (x1 : Value) (J4 : Value → World → Prop) (Q : Value → World → Prop) (w : World) : Prop :=
  kfld 3 x1 fun v14 =>
  kld v14 w fun v15 =>
  klen v15 fun v16 =>
  kint .i64 .lss x3 v16 fun v18 =>
  kB v18 fun b36 => kIf b36
  (f21_3 x1 x3 J4 Q w)
  (f21_6 Q w)

def f21_1 (x1 : Value) (Q : Value → World → Prop) (w : World) : Prop :=
  kL fun (I : Value → World → Prop) (μ : Value → World → Nat) => I (.int .i64 0) w ∧ ∀ (x3 : Value) (w1 : World), I x3 w1 →
  f21_2 x3 x1 (fun y3 w2 => I y3 w2 ∧ μ y3 w2 < μ x3 w1) Q w1

def f21_0 (x1 : Value) (x13 : Value) (Q : Value → World → Prop) (w : World) : Prop :=
  kB x13 fun b37 => kIf b37
  (Q (.bool true) w)
  (f21_1 x1 Q w)

def f21 (x0 : Value) (Q : Value → World → Prop) (w : World) : Prop :=
  knew (Value.cells x0) 55 w fun v1 w2 =>
  kfld 3 v1 fun v3 =>
  kld v3 w2 fun v4 =>
  klen v4 fun v5 =>
  kint .i64 .gtr v5 (.int .i64 80) fun v7 =>
  kB v7 fun b8 => kIf (!b8)
  (kfld 4 v1 fun v9 =>
  kld v9 w2 fun v10 =>
  klen v10 fun v11 =>
  kint .i64 .gtr v11 (.int .i64 40) fun v13 =>
  f21_0 v1 v13 Q w2)
  (f21_0 v1 (.bool true) Q w2)

theorem f21_eq (x0 : Value) (Q : Value → World → Prop) (w : World) : f21 x0 Q w = fnVC Tryd.prog Tryd.f21 [(4, [3])] (Tryd.f21.body.get rfl) [x0] w Q := by kernel_rfl
theorem f21_ok {x0 : Value} {Q : Value → World → Prop} {w : World} (h : f21 x0 Q w) : Meets Tryd.prog 21 #[x0] w Q :=
  sound (c := (Tryd.f21.body.get rfl)) [(4, [3])] Tryd.func21 rfl rfl (args := [x0]) rfl (Eq.mp (f21_eq x0 Q w) h)

/-! strconv.Itoa -/
def f85 (x0 : Value) (Q : Value → World → Prop) (w : World) : Prop :=
  kcall Tryd.prog 101 #[x0] w fun v1 w2 =>
  Q v1 w2

theorem f85_eq (x0 : Value) (Q : Value → World → Prop) (w : World) : f85 x0 Q w = fnVC Tryd.prog Tryd.f85 [] (Tryd.f85.body.get rfl) [x0] w Q := by kernel_rfl
theorem f85_ok {x0 : Value} {Q : Value → World → Prop} {w : World} (h : f85 x0 Q w) : Meets Tryd.prog 85 #[x0] w Q :=
  sound (c := (Tryd.f85.body.get rfl)) [] Tryd.func85 rfl rfl (args := [x0]) rfl (Eq.mp (f85_eq x0 Q w) h)

/-! internal/strconv.Itoa -/
def f101 (x0 : Value) (Q : Value → World → Prop) (w : World) : Prop :=
  kcall Tryd.prog 106 #[x0, (.int .i64 10)] w fun v1 w2 =>
  Q v1 w2

theorem f101_eq (x0 : Value) (Q : Value → World → Prop) (w : World) : f101 x0 Q w = fnVC Tryd.prog Tryd.f101 [] (Tryd.f101.body.get rfl) [x0] w Q := by kernel_rfl
theorem f101_ok {x0 : Value} {Q : Value → World → Prop} {w : World} (h : f101 x0 Q w) : Meets Tryd.prog 101 #[x0] w Q :=
  sound (c := (Tryd.f101.body.get rfl)) [] Tryd.func101 rfl rfl (args := [x0]) rfl (Eq.mp (f101_eq x0 Q w) h)

/-! internal/strconv.FormatInt -/
def f106_3 (x5 : Value) (x7 : Value) (Q : Value → World → Prop) (w : World) : Prop :=
  kint .i64 .add (.int .i64 1) x7 fun v25 =>
  ksl (some (.array 24 5)) (some 1) x5 (some (.int .i64 1)) (some v25) fun v26 =>
  ksem Tryd.prog (convert 104 9 v26) w fun v27 w28 =>
  Q v27 w28

def f106_2 (x0 : Value) (x5 : Value) (x6 : Value) (Q : Value → World → Prop) (w : World) : Prop :=
  kcall Tryd.prog 110 #[x6] w fun v12 w13 =>
  kint .i64 .add (.int .i64 1) v12 fun v14 =>
  ksl (some (.array 24 5)) (some 1) x5 (some (.int .i64 1)) (some v14) fun v15 =>
  kcall Tryd.prog 111 #[v15, x6] w13 fun v16 w17 =>
  kint .i64 .lss x0 (.int .i64 0) fun v18 =>
  kB v18 fun b29 => kIf b29
  (kix (some (.array 24 5)) (some 1) x5 (.int .i64 0) fun v19 =>
  kst 1 v19 (.int .u8 45) w17 fun w20 =>
  kint .i64 .add (.int .i64 1) v12 fun v21 =>
  ksl (some (.array 24 5)) (some 1) x5 none (some v21) fun v22 =>
  ksem Tryd.prog (convert 104 9 v22) w20 fun v23 w24 =>
  Q v23 w24)
  (f106_3 x5 v12 Q w17)

def f106_1 (x0 : Value) (Q : Value → World → Prop) (w : World) : Prop :=
  knew #[(.int .u8 0), (.int .u8 0), (.int .u8 0), (.int .u8 0), (.int .u8 0), (.int .u8 0), (.int .u8 0), (.int .u8 0), (.int .u8 0), (.int .u8 0), (.int .u8 0), (.int .u8 0), (.int .u8 0), (.int .u8 0), (.int .u8 0), (.int .u8 0), (.int .u8 0), (.int .u8 0), (.int .u8 0), (.int .u8 0), (.int .u8 0), (.int .u8 0), (.int .u8 0), (.int .u8 0)] 182 w fun v7 w8 =>
  kcnv .u64 x0 fun v9 =>
  kint .i64 .lss x0 (.int .i64 0) fun v10 =>
  kB v10 fun b30 => kIf b30
  (kun .neg (some (.int .u64)) v9 fun v11 =>
  f106_2 x0 v7 v11 Q w8)
  (f106_2 x0 v7 v9 Q w8)

def f106_0 (x0 : Value) (x17 : Value) (Q : Value → World → Prop) (w : World) : Prop :=
  kB x17 fun b31 => kIf b31
  (kcall Tryd.prog 109 #[x0] w fun v5 w6 =>
  Q v5 w6)
  (f106_1 x0 Q w)

def f106_4 (x0 : Value) (x1 : Value) (Q : Value → World → Prop) (w : World) : Prop :=
  kcnv .u64 x0 fun v32 =>
  kint .i64 .lss x0 (.int .i64 0) fun v33 =>
  kcall Tryd.prog 112 #[(.slice none 0 0), v32, x1, v33, (.bool false)] w fun v34 w35 =>
  kext v34 0 fun v36 =>
  kext v34 1 fun v37 =>
  Q v37 w35

def f106 (x0 : Value) (x1 : Value) (Q : Value → World → Prop) (w : World) : Prop :=
  kint .i64 .eql x1 (.int .i64 10) fun v1 =>
  kB v1 fun b38 => kIf b38
  (kint .i64 .leq (.int .i64 0) x0 fun v2 =>
  kB v2 fun b3 => kIf b3
  (kint .i64 .lss x0 (.int .i64 100) fun v4 =>
  f106_0 x0 v4 Q w)
  (f106_0 x0 (.bool false) Q w))
  (f106_4 x0 x1 Q w)

theorem f106_eq (x0 : Value) (x1 : Value) (Q : Value → World → Prop) (w : World) : f106 x0 x1 Q w = fnVC Tryd.prog Tryd.f106 [] (Tryd.f106.body.get rfl) [x0, x1] w Q := by kernel_rfl
theorem f106_ok {x0 : Value} {x1 : Value} {Q : Value → World → Prop} {w : World} (h : f106 x0 x1 Q w) : Meets Tryd.prog 106 #[x0, x1] w Q :=
  sound (c := (Tryd.f106.body.get rfl)) [] Tryd.func106 rfl rfl (args := [x0, x1]) rfl (Eq.mp (f106_eq x0 x1 Q w) h)

/-! internal/strconv.small -/
def f109_0 (x0 : Value) (Q : Value → World → Prop) (w : World) : Prop :=
  kint .i64 .mul x0 (.int .i64 2) fun v4 =>
  kint .i64 .mul x0 (.int .i64 2) fun v5 =>
  kint .i64 .add v5 (.int .i64 2) fun v6 =>
  ksl (some .string) none (.string ⟨#[48, 48, 48, 49, 48, 50, 48, 51, 48, 52, 48, 53, 48, 54, 48, 55, 48, 56, 48, 57, 49, 48, 49, 49, 49, 50, 49, 51, 49, 52, 49, 53, 49, 54, 49, 55, 49, 56, 49, 57, 50, 48, 50, 49, 50, 50, 50, 51, 50, 52, 50, 53, 50, 54, 50, 55, 50, 56, 50, 57, 51, 48, 51, 49, 51, 50, 51, 51, 51, 52, 51, 53, 51, 54, 51, 55, 51, 56, 51, 57, 52, 48, 52, 49, 52, 50, 52, 51, 52, 52, 52, 53, 52, 54, 52, 55, 52, 56, 52, 57, 53, 48, 53, 49, 53, 50, 53, 51, 53, 52, 53, 53, 53, 54, 53, 55, 53, 56, 53, 57, 54, 48, 54, 49, 54, 50, 54, 51, 54, 52, 54, 53, 54, 54, 54, 55, 54, 56, 54, 57, 55, 48, 55, 49, 55, 50, 55, 51, 55, 52, 55, 53, 55, 54, 55, 55, 55, 56, 55, 57, 56, 48, 56, 49, 56, 50, 56, 51, 56, 52, 56, 53, 56, 54, 56, 55, 56, 56, 56, 57, 57, 48, 57, 49, 57, 50, 57, 51, 57, 52, 57, 53, 57, 54, 57, 55, 57, 56, 57, 57]⟩) (some v4) (some v6) fun v7 =>
  Q v7 w

def f109 (x0 : Value) (Q : Value → World → Prop) (w : World) : Prop :=
  kint .i64 .lss x0 (.int .i64 10) fun v1 =>
  kB v1 fun b8 => kIf b8
  (kint .i64 .add x0 (.int .i64 1) fun v2 =>
  ksl (some .string) none (.string ⟨#[48, 49, 50, 51, 52, 53, 54, 55, 56, 57, 97, 98, 99, 100, 101, 102, 103, 104, 105, 106, 107, 108, 109, 110, 111, 112, 113, 114, 115, 116, 117, 118, 119, 120, 121, 122]⟩) (some x0) (some v2) fun v3 =>
  Q v3 w)
  (f109_0 x0 Q w)

theorem f109_eq (x0 : Value) (Q : Value → World → Prop) (w : World) : f109 x0 Q w = fnVC Tryd.prog Tryd.f109 [] (Tryd.f109.body.get rfl) [x0] w Q := by kernel_rfl
theorem f109_ok {x0 : Value} {Q : Value → World → Prop} {w : World} (h : f109 x0 Q w) : Meets Tryd.prog 109 #[x0] w Q :=
  sound (c := (Tryd.f109.body.get rfl)) [] Tryd.func109 rfl rfl (args := [x0]) rfl (Eq.mp (f109_eq x0 Q w) h)

end Go.Proofs.YtcabkicjboedaaaDoor
end
section
namespace Go.Proofs.YtcabkicjboedaaaDoor
open Go Go.Ev
set_option linter.unusedVariables false
set_option linter.unusedSimpArgs false
set_option maxRecDepth 100000

/-! ### errors.Is of an error that wraps a sentinel -/
theorem taIsB : taB Tryd.prog 120 145 = some false := by kernel_rfl
theorem taUnB : taB Tryd.prog 120 148 = some true := by kernel_rfl
theorem unwrapM (v : Value) (w : World) (K : Value → World → Prop) : kcallM Tryd.prog (.iface 120 v) "Unwrap" [] w K = kcall Tryd.prog 65 #[v] w K := by kernel_rfl
def IsInv (b : Nat) (S : Nat → Addr) (j : Nat) (w : World) (x : Value) (wr : World) : Prop := (x = .iface 120 (.pointer (some ⟨b, 0, none⟩)) ∨ x = errV S j) ∧ wr = w
def isM (x : Value) : Nat := match x with
  | .iface t _ => if t = 120 then 1 else 0
  | _ => 0
theorem isAt_spec {N : Nat} {S : Nat → Addr} {w : World} (hL : LaidN N S w) {b : Nat} {wh : ByteArray} (j : Nat) (j1 : 1 ≤ j) (j2 : j ≤ N) {t : TypeId} (hb : blk w b = some (.cells #[.string wh, errV S j] t)) :
    Meets Tryd.prog 17 #[.iface 120 (.pointer (some ⟨b, 0, none⟩)), errV S j] w fun v w' => v = .bool true ∧ w' = w := by
  refine f17_ok ?_
  unfold f17
  rw [keq_if_nil ifErr, kB_bool, Bool.not_false, kIf_true, errV, keq_if_nil ifErr]
  unfold f17_0
  rw [kB_bool, kIf_false, Is_cmp]
  have hin : Meets Tryd.prog 45 #[.iface 120 (.pointer (some ⟨b, 0, none⟩)), errV S j, .bool true] w fun v w' => v = .bool true ∧ w' = w := by
    refine f45_ok ?_
    unfold f45
    refine kL_of (IsInv b S j w) (fun x _ => isM x) ⟨⟨.inl rfl, rfl⟩, ?_⟩
    rintro x wr ⟨hx, rfl⟩
    unfold f45_0
    rw [kB_bool, kIf_true]
    rcases hx with rfl | rfl
    · rw [errV, keq_if_kind ifErr (by decide)]
      unfold f45_1
      rw [kB_bool, kIf_false]
      unfold f45_2
      rw [ksem_ta_no taIsB zIs]
      refine kext_of (v := .nilIface) rfl ?_
      refine kext_of (v := .bool false) rfl ?_
      rw [kB_bool, kIf_false]
      unfold f45_3
      rw [kB_bool, kIf_false]
      unfold f45_4
      rw [ksem_ta_yes taUnB]
      refine kext_of (v := .bool true) rfl ?_
      refine kext_of (v := .iface 120 (.pointer (some ⟨b, 0, none⟩))) rfl ?_
      rw [kB_bool, kIf_true, unwrapM]
      have hun : Meets Tryd.prog 65 #[.pointer (some ⟨b, 0, none⟩)] wr fun v w' => v = errV S j ∧ w' = wr := by
        refine f65_ok ?_
        unfold f65
        rw [keq_ptr_nil ptBla, kB_bool]
        refine kIf_of (fun h => by cases h) (fun _ => ?_)
        unfold f65_0
        rw [kN_ptr]
        refine kfld_of ?_
        refine kld_of (v := errV S j) hb rfl ?_
        exact ⟨rfl, rfl⟩
      refine kcall_of hun ?_
      rintro v w' ⟨rfl, rfl⟩
      rw [errV, keq_if_nil ifErr, kB_bool, kIf_false]
      exact ⟨⟨.inr rfl, rfl⟩, by simp [isM]⟩
    · rw [errV, keq_if_same ifErr cmpSen]
      unfold f45_1
      rw [kB_bool, kIf_true]
      exact ⟨rfl, rfl⟩
  refine kcall_of hin ?_
  rintro v w' h
  exact h

/-! ### Equality of states, as far as awake asks -/
theorem kcallV_of {f : FuncId} {args : List Value} {w : World} {K Q : Value → World → Prop} (h : Meets Tryd.prog f args.toArray w Q) (hk : ∀ v w', Q v w' → K v w') : kcallV Tryd.prog (.func (.func f) #[] #[]) args w K := by
  have : Meets Tryd.prog f (#[] ++ args.toArray ++ #[]) w K := by simpa using h.mono hk
  exact this
def EFInv (n : Nat) (r : Nat → Bool) (w : World) (x : Value) (wr : World) : Prop := ∃ i : Nat, i ≤ n ∧ x = .int .i64 i ∧ (∀ j, j < i → r j = true) ∧ Same w wr
theorem EqualFunc_spec {w : World} (l1 l2 : List BV) (a1 a2 : Option Addr) (c1 c2 : Nat) (h1 : SlIs w a1 l1.length 2 (l1.flatMap BV.cells)) (h2 : SlIs w a2 l2.length 2 (l2.flatMap BV.cells)) (hn : l1.length ≤ 1073741824) (f : FuncId) (r : Nat → Bool)
    (hf : ∀ i (i1 : i < l1.length) (i2 : i < l2.length) w', Same w w' → Meets Tryd.prog f #[.agg l1[i].cells.toArray, .agg l2[i].cells.toArray] w' fun v w'' => v = .bool (r i) ∧ Same w' w'') :
    Meets Tryd.prog 58 #[.slice a1 l1.length c1, .slice a2 l2.length c2, .func (.func f) #[] #[]] w fun v w' => v = .bool (decide (l1.length = l2.length) && (List.range l1.length).all r) ∧ Same w w' := by
  refine f58_ok ?_
  unfold f58
  rw [klen_slice, klen_slice, kint_neq, kB_bool]
  refine kIf_dec (fun hne => ?_) (fun heq => ?_)
  · exact ⟨by rw [decide_eq_false (by omega), Bool.false_and], Mod.refl _ _⟩
  have hl : l1.length = l2.length := by omega
  rw [decide_eq_true hl, Bool.true_and]
  unfold f58_0
  rw [klen_slice]
  refine kL_of (EFInv l1.length r w) (fun x _ => l1.length - (RowKit.intOf x).toNat) ⟨⟨0, by omega, rfl, by simp, Mod.refl _ _⟩, ?_⟩
  rintro x wr ⟨i, hi, rfl, hr, hm⟩
  unfold f58_1
  rw [kint_lss, kB_bool]
  refine kIf_dec (fun hlt => ?_) (fun hge => ?_)
  · have hlt : i < l1.length := by omega
    unfold f58_2
    refine kixldN_of (F := BV.cells) (fun _ => rfl) (by omega) (h1.same hm) hlt rfl ?_
    refine knew_of fun w12 h12 hs12 hb12 => ?_
    refine kst_of (vs := l1[i].cells) hb12 rfl rfl rfl (by simp) (by simp [BV.cells]) fun w13 h13 hs13 hb13 => ?_
    have hm13 : Same wr w13 := Mod.after h12 h13 (fun b hb => by omega)
    refine kixldN_of (F := BV.cells) (fun _ => rfl) (by omega) (h2.same (hm.trans hm13)) (show i < l2.length by omega) rfl ?_
    refine knew_of fun w17 h17 hs17 hb17 => ?_
    refine kst_of (vs := (l2[i]'(by omega)).cells) hb17 rfl rfl rfl (by simp) (by simp [BV.cells]) fun w18 h18 hs18 hb18 => ?_
    have hm18 : Same w13 w18 := Mod.after h17 h18 (fun b hb => by omega)
    have hb13' : blk w13 wr.heap.size = some (.cells l1[i].cells.toArray 85) := hb13
    have hb18' : blk w18 w13.heap.size = some (.cells (l2[i]'(by omega)).cells.toArray 85) := hb18
    refine kldN_of (cs := l1[i].cells) (hm18.get hb13' (fun h => h)) (by simp [BV.cells]) rfl (by omega) ?_
    refine kldN_of (cs := (l2[i]'(by omega)).cells) hb18' (by simp [BV.cells]) rfl (by omega) ?_
    have hmw := hm.trans (hm13.trans hm18)
    refine kcallV_of (hf i hlt (by omega) w18 hmw) ?_
    rintro v w22 ⟨rfl, h22⟩
    rw [kun_not, kB_bool]
    refine kIf_of (fun hb => ?_) (fun hb => ?_)
    · have hb : r i = false := by simpa using hb
      refine ⟨?_, hmw.trans h22⟩
      congr 1
      symm
      rw [List.all_eq_false]
      exact ⟨i, by simpa using hlt, by rw [hb]; decide⟩
    · have hb : r i = true := by simpa using hb
      unfold f58_3
      rw [kint_add, i64_succ (by omega)]
      refine ⟨⟨i + 1, by omega, rfl, fun j hj => ?_, hmw.trans h22⟩, by simp [RowKit.intOf]; omega⟩
      by_cases e : j = i
      · rw [e]; exact hb
      · exact hr j (by omega)
  · have : i = l1.length := by omega
    subst this
    unfold f58_4
    refine ⟨?_, hm⟩
    congr 1
    symm
    rw [List.all_eq_true]
    intro j hj
    exact hr j (by simpa using hj)
theorem eqParts_len {w : World} (a1 a2 : Option Addr) (n1 n2 c1 c2 : Nat) (hne : n1 ≠ n2) : Meets Tryd.prog 57 #[.slice a1 n1 c1, .slice a2 n2 c2] w fun v w' => v = .bool false ∧ w' = w := by
  refine f57_ok ?_
  unfold f57
  rw [klen_slice, klen_slice, kint_neq, kB_bool]
  refine kIf_dec (fun _ => ⟨rfl, rfl⟩) (fun h => absurd ?_ h)
  omega
theorem eqInts0 {w : World} (a1 a2 : Option Addr) (c1 c2 : Nat) : Meets Tryd.prog 59 #[.slice a1 0 c1, .slice a2 0 c2] w fun v w' => v = .bool true ∧ w' = w := by
  refine f59_ok ?_
  unfold f59
  rw [klen_slice, klen_slice, kint_neq, kB_bool]
  refine kIf_dec (fun h => absurd rfl h) (fun _ => ?_)
  unfold f59_0
  rw [klen_slice]
  refine kL_of (fun x wr => x = .int .i64 0 ∧ wr = w) (fun _ _ => 0) ⟨⟨rfl, rfl⟩, ?_⟩
  rintro x wr ⟨rfl, rfl⟩
  unfold f59_1
  rw [kint_lss, kB_bool]
  refine kIf_dec (fun h => absurd h (by omega)) (fun _ => ?_)
  unfold f59_4
  exact ⟨rfl, rfl⟩
theorem refSame_spec {w : World} (f n s : Int) (a1 a2 a3 a4 : Option Addr) (c1 c2 c3 c4 : Nat) : Meets Tryd.prog 18 #[.agg #[.int .i64 f, .int .i64 n, .int .i64 s, .slice a1 0 c1, .slice a2 0 c2], .agg #[.int .i64 f, .int .i64 n, .int .i64 s, .slice a3 0 c3, .slice a4 0 c4]] w fun v w' => v = .bool true ∧ Same w w' := by
  have hbe : ∀ (w : World) (a1 a2 : Option Addr) (c1 c2 : Nat), Meets Tryd.prog 46 #[.slice a1 0 c1, .slice a2 0 c2] w fun v w' => v = .bool true ∧ w' = w := by
    intro w a1 a2 c1 c2
    refine f46_ok ?_
    unfold f46
    rw [klen_slice, klen_slice, kint_neq, kB_bool]
    refine kIf_dec (fun h => absurd rfl h) (fun _ => ?_)
    unfold f46_0
    refine kL_of (fun x wr => x = .int .i64 0 ∧ wr = w) (fun _ _ => 0) ⟨⟨rfl, rfl⟩, ?_⟩
    rintro x wr ⟨rfl, rfl⟩
    unfold f46_1
    rw [klen_slice, kint_lss, kB_bool]
    refine kIf_dec (fun h => absurd h (by omega)) (fun _ => ?_)
    unfold f46_5
    exact ⟨rfl, rfl⟩
  have hin : ∀ (w : World) (a1 a2 : Option Addr) (c1 c2 : Nat), Meets Tryd.prog 47 #[.slice a1 0 c1, .slice a2 0 c2] w fun v w' => v = .bool true ∧ w' = w := by
    intro w a1 a2 c1 c2
    refine f47_ok ?_
    unfold f47
    rw [klen_slice, klen_slice, kint_neq, kB_bool]
    refine kIf_dec (fun h => absurd rfl h) (fun _ => ?_)
    unfold f47_0
    refine kL_of (fun x wr => x = .int .i64 0 ∧ wr = w) (fun _ _ => 0) ⟨⟨rfl, rfl⟩, ?_⟩
    rintro x wr ⟨rfl, rfl⟩
    unfold f47_1
    rw [klen_slice, kint_lss, kB_bool]
    refine kIf_dec (fun h => absurd h (by omega)) (fun _ => ?_)
    unfold f47_4
    exact ⟨rfl, rfl⟩
  refine f18_ok ?_
  unfold f18
  refine knew_of fun w2 h2 hs2 hb1 => ?_
  refine knew_of fun w4 h4 hs4 hb3 => ?_
  have hb1 := h4.get hb1 (fun h => h)
  refine kfld_of ?_
  refine kld_of (v := .int .i64 f) hb1 rfl ?_
  refine kfld_of ?_
  refine kld_of (v := .int .i64 f) hb3 rfl ?_
  rw [kint_eql, kB_bool]
  refine kIf_dec (fun _ => ?_) (fun h => absurd rfl h)
  refine kfld_of ?_
  refine kld_of (v := .int .i64 n) hb1 rfl ?_
  refine kfld_of ?_
  refine kld_of (v := .int .i64 n) hb3 rfl ?_
  rw [kint_eql, kB_bool]
  refine kIf_dec (fun _ => ?_) (fun h => absurd rfl h)
  refine kfld_of ?_
  refine kld_of (v := .int .i64 s) hb1 rfl ?_
  refine kfld_of ?_
  refine kld_of (v := .int .i64 s) hb3 rfl ?_
  rw [kint_eql, kB_bool]
  refine kIf_dec (fun _ => ?_) (fun h => absurd rfl h)
  refine kfld_of ?_
  refine kld_of (v := .slice a1 0 c1) hb1 rfl ?_
  refine kfld_of ?_
  refine kld_of (v := .slice a3 0 c3) hb3 rfl ?_
  refine kcall_of (hbe w4 a1 a3 c1 c3) ?_
  rintro v w' ⟨rfl, rfl⟩
  rw [kB_bool, kIf_true]
  refine kfld_of ?_
  refine kld_of (v := .slice a2 0 c2) hb1 rfl ?_
  refine kfld_of ?_
  refine kld_of (v := .slice a4 0 c4) hb3 rfl ?_
  refine kcall_of (hin w' a2 a4 c2 c4) ?_
  rintro v w'' ⟨rfl, rfl⟩
  exact ⟨rfl, h2.trans h4⟩
/-- strconv.Itoa(3). -/
theorem itoa3 (w : World) : Meets Tryd.prog 85 #[.int .i64 3] w fun v w' => v = .string (bs [51]) ∧ w' = w := by
  have h1 : Meets Tryd.prog 109 #[.int .i64 3] w fun v w' => v = .string (bs [51]) ∧ w' = w := by
    refine f109_ok ?_
    unfold f109
    rw [kint_lss, kB_bool]
    refine kIf_dec (fun _ => ?_) (fun h => absurd (by omega) h)
    rw [kint_add, wrap_i64 (by omega) (by omega), ksl_string rfl rfl]
    refine kG_of ⟨by decide, by decide, by decide⟩ ?_
    exact ⟨rfl, rfl⟩
  have h2 : Meets Tryd.prog 106 #[.int .i64 3, .int .i64 10] w fun v w' => v = .string (bs [51]) ∧ w' = w := by
    refine f106_ok ?_
    unfold f106
    rw [kint_eql, kB_bool]
    refine kIf_dec (fun _ => ?_) (fun h => absurd rfl h)
    rw [kint_leq, kB_bool]
    refine kIf_dec (fun _ => ?_) (fun h => absurd (by omega) h)
    rw [kint_lss]
    unfold f106_0
    rw [kB_bool]
    refine kIf_dec (fun _ => ?_) (fun h => absurd (by omega) h)
    refine kcall_of h1 ?_
    rintro v w' h
    exact h
  have h3 : Meets Tryd.prog 101 #[.int .i64 3] w fun v w' => v = .string (bs [51]) ∧ w' = w := by
    refine f101_ok ?_
    unfold f101
    refine kcall_of h2 ?_
    rintro v w' h
    exact h
  refine f85_ok ?_
  unfold f85
  refine kcall_of h3 ?_
  rintro v w' h
  exact h
end Go.Proofs.YtcabkicjboedaaaDoor
end
section
namespace Go.Proofs.YtcabkicjboedaaaDoor
open Go Go.Ev
set_option linter.unusedVariables false
set_option linter.unusedSimpArgs false
set_option maxRecDepth 100000

def qA : BV := ⟨3, none, 0, []⟩
def qP : Part := ⟨0, 0, 0, 0, 0, 0⟩
def qB (b : Nat) : BV := ⟨3, some ⟨b, 0, none⟩, 1, [qP]⟩
section
variable {w : World} {a1 a2 : Option Addr} {c1 c2 bp : Nat}
theorem same3 (h1 : SlIs w a1 1 2 ([qA].flatMap BV.cells)) (h2 : SlIs w a2 1 2 ([qB bp].flatMap BV.cells)) :
    Meets Tryd.prog 23 #[.agg #[.int .i64 0, .int .i64 0, .int .i64 0, .slice a1 1 c1, .slice none 0 0], .agg #[.int .i64 0, .int .i64 0, .int .i64 0, .slice a2 1 c2, .slice none 0 0]] w fun v w' => v = .bool false ∧ Same w w' := by
  refine f23_ok ?_
  unfold f23
  refine knew_of fun w2 h2' hs2 hb1 => ?_
  refine knew_of fun w4 h4 hs4 hb3 => ?_
  have hb1 := h4.get hb1 (fun h => h)
  have m4 := h2'.trans h4
  refine kfld_of ?_
  refine kld_of (v := .int .i64 0) hb1 rfl ?_
  refine kfld_of ?_
  refine kld_of (v := .int .i64 0) hb3 rfl ?_
  rw [kint_eql, kB_bool]
  refine kIf_dec (fun _ => ?_) (fun h => absurd rfl h)
  refine kfld_of ?_
  refine kld_of (v := .int .i64 0) hb1 rfl ?_
  refine kfld_of ?_
  refine kld_of (v := .int .i64 0) hb3 rfl ?_
  rw [kint_eql, kB_bool]
  refine kIf_dec (fun _ => ?_) (fun h => absurd rfl h)
  refine kfld_of ?_
  refine kld_of (v := .int .i64 0) hb1 rfl ?_
  refine kfld_of ?_
  refine kld_of (v := .int .i64 0) hb3 rfl ?_
  rw [kint_eql, kB_bool]
  refine kIf_dec (fun _ => ?_) (fun h => absurd rfl h)
  refine kfld_of ?_
  refine kld_of (v := .slice a1 1 c1) hb1 rfl ?_
  refine kfld_of ?_
  refine kld_of (v := .slice a2 1 c2) hb3 rfl ?_
  refine kcall_of (EqualFunc_spec [qA] [qB bp] a1 a2 c1 c2 (h1.same m4) (h2.same m4) (by simp) 56 (fun _ => false) ?_) ?_
  · intro i i1 i2 w' hw'
    have : i = 0 := by simp at i1; omega
    subst this
    refine f56_ok ?_
    unfold f56
    refine knew_of fun u2 g2 gs2 k1 => ?_
    refine knew_of fun u4 g4 gs4 k3 => ?_
    have k1 := g4.get k1 (fun h => h)
    refine kfld_of ?_
    refine kld_of (v := .int .i64 3) k1 rfl ?_
    refine kfld_of ?_
    refine kld_of (v := .int .i64 3) k3 rfl ?_
    rw [kint_eql, kB_bool]
    refine kIf_dec (fun _ => ?_) (fun h => absurd rfl h)
    refine kfld_of ?_
    refine kld_of (v := .slice none 0 0) k1 rfl ?_
    refine kfld_of ?_
    refine kld_of (v := .slice (some ⟨bp, 0, none⟩) 1 1) k3 rfl ?_
    refine kcall_of (eqParts_len _ _ 0 1 _ _ (by omega)) ?_
    rintro v w2 ⟨rfl, rfl⟩
    exact ⟨rfl, g2.trans g4⟩
  rintro v w28 ⟨rfl, h28⟩
  rw [kB_bool]
  refine kIf_of (fun h => by simp at h) (fun _ => ?_)
  exact ⟨rfl, m4.trans h28⟩
theorem beings3 (h1 : SlIs w a1 1 2 ([qA].flatMap BV.cells)) (h2 : SlIs w a2 1 2 ([qB bp].flatMap BV.cells)) :
    Meets Tryd.prog 60 #[.slice a1 1 c1, .slice a2 1 c2] w fun v w' => v = .tuple #[.string ⟨#[98, 101, 105, 110, 103, 32, 51]⟩, .bool true] ∧ Same w w' := by
  refine f60_ok ?_
  unfold f60
  refine kcall_of (EqualFunc_spec [qA] [qB bp] a1 a2 c1 c2 h1 h2 (by simp) 84 (fun _ => true) ?_) ?_
  · intro i i1 i2 w' hw'
    have : i = 0 := by simp at i1; omega
    subst this
    refine f84_ok ?_
    unfold f84
    refine knew_of fun u2 g2 gs2 k1 => ?_
    refine knew_of fun u4 g4 gs4 k3 => ?_
    have k1 := g4.get k1 (fun h => h)
    refine kfld_of ?_
    refine kld_of (v := .int .i64 3) k1 rfl ?_
    refine kfld_of ?_
    refine kld_of (v := .int .i64 3) k3 rfl ?_
    rw [kint_eql]
    exact ⟨rfl, g2.trans g4⟩
  rintro v w2 ⟨rfl, hm2⟩
  rw [kun_not, kB_bool]
  refine kIf_of (fun h => by simp at h) (fun _ => ?_)
  unfold f60_0
  rw [klen_slice]
  refine kL_of (fun x wr => x = .int .i64 0 ∧ Same w wr) (fun _ _ => 0) ⟨⟨rfl, hm2⟩, ?_⟩
  rintro x wr ⟨rfl, hm⟩
  unfold f60_1
  rw [kint_lss, kB_bool]
  refine kIf_dec (fun _ => ?_) (fun h => absurd (by omega) h)
  unfold f60_2
  refine kixldN_of (F := BV.cells) (l := [qA]) (i := 0) (fun _ => rfl) (by omega) (h1.same hm) (by simp) rfl ?_
  refine knew_of fun w12 h12 hs12 hb12 => ?_
  refine kst_of (vs := qA.cells) hb12 rfl rfl rfl (by simp) (by simp [BV.cells]) fun w13 h13 hs13 hb13 => ?_
  have hm13 : Same wr w13.drew := (Mod.after h12 h13 (fun b hb => by omega)).drew
  have hb13 : blk w13.drew wr.heap.size = some (.cells qA.cells.toArray 85) := hb13
  generalize w13.drew = wd at *
  refine kfld_of ?_
  refine kld_of (v := .slice none 0 0) hb13 rfl ?_
  refine kG_of rfl ?_
  refine kixfld_of (F := BV.cells) (l := [qB bp]) (i := 0) (fun _ => rfl) (h2.same (hm.trans hm13)) (by simp) (v := .slice (some ⟨bp, 0, none⟩) 1 1) rfl rfl ?_
  refine kG_of rfl ?_
  refine kcall_of (eqParts_len _ _ 0 1 _ _ (by omega)) ?_
  rintro v w18 ⟨rfl, rfl⟩
  rw [kun_not, kB_bool]
  refine kIf_of (fun _ => ?_) (fun h => by cases h)
  refine kfld_of ?_
  refine kld_of (v := .int .i64 3) hb13 rfl ?_
  refine kcall_of (itoa3 w18) ?_
  rintro v w23 ⟨rfl, rfl⟩
  rw [kstr_add]
  refine kG_of (show (6 + 1 : Nat) ≤ 9223372036854775807 by omega) ?_
  exact ⟨rfl, hm.trans hm13⟩
theorem differs3 (h1 : SlIs w a1 1 2 ([qA].flatMap BV.cells)) (h2 : SlIs w a2 1 2 ([qB bp].flatMap BV.cells)) :
    Meets Tryd.prog 24 #[.agg #[.int .i64 0, .int .i64 0, .int .i64 0, .slice a1 1 c1, .slice none 0 0], .agg #[.int .i64 0, .int .i64 0, .int .i64 0, .slice a2 1 c2, .slice none 0 0]] w fun v w' => v = .tuple #[.string ⟨#[98, 101, 105, 110, 103, 32, 51]⟩, .bool true] ∧ Same w w' := by
  refine f24_ok ?_
  unfold f24
  refine knew_of fun w2 h2' hs2 hb1 => ?_
  refine knew_of fun w4 h4 hs4 hb3 => ?_
  have hb1 := h4.get hb1 (fun h => h)
  have m4 := h2'.trans h4
  refine kldN_of (cs := [.int .i64 0, .int .i64 0, .int .i64 0, .slice a1 1 c1, .slice none 0 0]) hb1 (by simp [Value.cells]) rfl (by omega) ?_
  refine kldN_of (cs := [.int .i64 0, .int .i64 0, .int .i64 0, .slice a2 1 c2, .slice none 0 0]) hb3 (by simp [Value.cells]) rfl (by omega) ?_
  refine kcall_of (same3 (h1.same m4) (h2.same m4)) ?_
  rintro v w8 ⟨rfl, h8⟩
  have hb1 := h8.get hb1 (fun h => h)
  have hb3 := h8.get hb3 (fun h => h)
  have m8 := m4.trans h8
  rw [kB_bool, kIf_false]
  refine kfld_of ?_
  refine kld_of (v := .int .i64 0) hb1 rfl ?_
  refine kfld_of ?_
  refine kld_of (v := .int .i64 0) hb3 rfl ?_
  rw [kint_neq, kB_bool]
  refine kIf_dec (fun h => absurd rfl h) (fun _ => ?_)
  refine kfld_of ?_
  refine kld_of (v := .int .i64 0) hb1 rfl ?_
  refine kfld_of ?_
  refine kld_of (v := .int .i64 0) hb3 rfl ?_
  rw [kint_neq, kB_bool]
  refine kIf_dec (fun h => absurd rfl h) (fun _ => ?_)
  refine kfld_of ?_
  refine kld_of (v := .int .i64 0) hb1 rfl ?_
  refine kfld_of ?_
  refine kld_of (v := .int .i64 0) hb3 rfl ?_
  rw [kint_neq, kB_bool]
  refine kIf_dec (fun h => absurd rfl h) (fun _ => ?_)
  refine kfld_of ?_
  refine kld_of (v := .slice none 0 0) hb1 rfl ?_
  refine kfld_of ?_
  refine kld_of (v := .slice none 0 0) hb3 rfl ?_
  refine kcall_of (eqInts0 _ _ _ _) ?_
  rintro v w29 ⟨rfl, rfl⟩
  rw [kun_not, kB_bool]
  refine kIf_of (fun h => by cases h) (fun _ => ?_)
  unfold f24_0
  refine kfld_of ?_
  refine kld_of (v := .slice a1 1 c1) hb1 rfl ?_
  refine kfld_of ?_
  refine kld_of (v := .slice a2 1 c2) hb3 rfl ?_
  refine kcall_of (beings3 (h1.same m8) (h2.same m8)) ?_
  rintro v w36 ⟨rfl, h36⟩
  refine kext_of (v := .string ⟨#[98, 101, 105, 110, 103, 32, 51]⟩) rfl ?_
  refine kext_of (v := .bool true) rfl ?_
  exact ⟨rfl, m8.trans h36⟩
end
def sv0 : SV := ⟨0, 1, 0, none, 0, [], none, 0, []⟩
theorem sv0_ok (w : World) : sv0.ok w := ⟨by unfold I64; decide, by unfold I64; decide, by unfold I64; decide, by simp [sv0], by simp [sv0], SlIs.nil _ _ _, SlIs.nil _ _ _⟩
theorem bytes0 : bytesF sv0.m = [0, 1, 0, 0, 0] := by
  have g0 : groupsF 0 = [0] := by rw [groupsF, if_pos (by omega)]; rfl
  have g1 : groupsF 1 = [1] := by rw [groupsF, if_pos (by omega)]; rfl
  show groupsF 0 ++ (groupsF 1 ++ (groupsF 0 ++ (groupsF 0 ++ ([] ++ (groupsF 0 ++ []))))) = _
  rw [g0, g1]; rfl
theorem good0 : goodF sv0.m = true := by decide
theorem read0ok : okEnd (readF [0, 1, 0, 0, 0]).1 (readF [0, 1, 0, 0, 0]).2 = true := by decide
theorem read0bad : okEnd (readF [0, 1, 0, 0, 0, 120]).1 (readF [0, 1, 0, 0, 0, 120]).2 = false := by decide
theorem read0m : (readF [0, 1, 0, 0, 0]).1.frame = 0 ∧ (readF [0, 1, 0, 0, 0]).1.next = 1 ∧ (readF [0, 1, 0, 0, 0]).1.seed = 0 ∧ (readF [0, 1, 0, 0, 0]).1.beings.length = 0 ∧ (readF [0, 1, 0, 0, 0]).1.res.length = 0 := by decide

set_option maxHeartbeats 1000000 in
theorem awake22_spec {S : Nat → Addr} {w : World} (hL : LaidN 4 S w) (hd : DeAt w) : Meets Tryd.prog 15 #[] w fun v w' => v = .bool true ∧ Same w w' := by
  have hby := Bytes_spec hL sv0 (sv0_ok w) (by simp [sv0])
  have hrd := fun (w : World) (hL : LaidN 4 S w) (hd : DeAt w) => Read_spec hL hd [0, 1, 0, 0, 0] (by simp)
  have hrx := fun (w : World) (hL : LaidN 4 S w) (hd : DeAt w) => Read_spec hL hd [0, 1, 0, 0, 0, 120] (by simp)
  obtain ⟨l5, hl5⟩ : ∃ l : List UInt8, l = [0, 1, 0, 0, 0] := ⟨_, rfl⟩
  have hx : [0, 1, 0, 0, 0, 120] = l5 ++ ([120] : List UInt8) := by rw [hl5]; rfl
  have r1 := read0ok
  have r2 := read0bad
  have r3 := read0m
  rw [hx] at hrx r2
  rw [← hl5] at hrd r1 r3
  have hb0 := bytes0
  rw [← hl5] at hb0
  have hl5l : l5.length = 5 := by rw [hl5]; rfl
  have hl5b : bs l5 = ⟨#[0, 1, 0, 0, 0]⟩ := by rw [hl5]; rfl
  clear hl5 hx
  refine f15_ok ?_
  unfold f15
  refine kbld_of (cs := sv0.cells) rfl ?_
  refine kcall_of hby ?_
  rintro v w3 ⟨h3, hv⟩
  rcases hv with ⟨_, _, rfl⟩ | ⟨hbad, _⟩
  rotate_left
  · rcases hbad with h | h
    · rw [good0] at h; cases h
    · rw [hb0, hl5l] at h; omega
  rw [hb0]
  refine kext_of (v := .string (bs l5)) rfl ?_
  refine kext_of (v := .nilIface) rfl ?_
  refine kcall_of (hrd w3 (hL.same h3) (hd.same h3)) ?_
  rintro v w7 ⟨h7, hv⟩
  rcases hv with ⟨_, sv, rfl, hsm, hsok, _⟩ | ⟨hb, _⟩
  rotate_left
  · rw [r1] at hb; cases hb
  have m7 := h3.trans h7
  refine kext_of (v := sv.val) rfl ?_
  refine kext_of (v := .nilIface) rfl ?_
  rw [← hsm] at r3
  obtain ⟨e1, e2, e3, e4, e5⟩ := r3
  have e1 : sv.frame = 0 := e1
  have e2 : sv.next = 1 := e2
  have e3 : sv.seed = 0 := e3
  have e4 : sv.bl.length = 0 := by have := e4; rwa [show sv.m.beings.length = sv.bl.length from List.length_map ..] at this
  have e5 : sv.rl.length = 0 := e5
  have hcells : sv.cells = [.int .i64 0, .int .i64 1, .int .i64 0, .slice sv.ba 0 sv.bc, .slice sv.ra 0 sv.rc] := by unfold SV.cells; rw [e1, e2, e3, e4, e5]
  refine knew_of fun w11 h11 hs11 hb11 => ?_
  refine kst_of (vs := sv.cells) hb11 rfl rfl (by rw [hcells]; rfl) (by simp) (by simp [SV.cells]) fun w12 h12 hs12 hb12 => ?_
  have hb12 : blk w12 w7.heap.size = some (.cells sv.cells.toArray 55) := hb12
  have m12 := m7.trans (Mod.after h11 h12 (fun b hb => by omega))
  refine kbld_of (cs := qA.cells) rfl ?_
  refine kbldS_of (cs := qA.cells) rfl fun w15 h15 hs15 hb15 => ?_
  refine kbld_of (cs := [.int .i64 0, .int .i64 0, .int .i64 0, .slice (some ⟨w12.heap.size, 0, none⟩) 1 1, .slice none 0 0]) rfl ?_
  refine kbld_of (cs := qP.cells) rfl ?_
  refine kbldS_of (cs := qP.cells) rfl fun w19 h19 hs19 hb19 => ?_
  refine kbld_of (cs := (qB w15.heap.size).cells) rfl ?_
  refine kbldS_of (cs := (qB w15.heap.size).cells) rfl fun w22 h22 hs22 hb22 => ?_
  refine kbld_of (cs := [.int .i64 0, .int .i64 0, .int .i64 0, .slice (some ⟨w19.heap.size, 0, none⟩) 1 1, .slice none 0 0]) rfl ?_
  have hs1 : SlIs w22 (some ⟨w12.heap.size, 0, none⟩) 1 2 ([qA].flatMap BV.cells) := (show SlIs w15 _ 1 2 ([qA].flatMap BV.cells) from SlIs.blk hb15 rfl).same (h19.trans h22)
  have hs2 : SlIs w22 (some ⟨w19.heap.size, 0, none⟩) 1 2 ([qB w15.heap.size].flatMap BV.cells) := SlIs.blk hb22 rfl
  refine kcall_of (differs3 hs1 hs2) ?_
  rintro v w25 ⟨rfl, h25⟩
  have m25 := m12.trans (h15.trans (h19.trans (h22.trans h25)))
  have hb25 := (h15.trans (h19.trans (h22.trans h25))).get hb12 (fun h => h)
  refine kext_of (v := .string ⟨#[98, 101, 105, 110, 103, 32, 51]⟩) rfl ?_
  refine kext_of (v := .bool true) rfl ?_
  rw [show (⟨#[120]⟩ : ByteArray) = bs [120] from rfl, kstr_add, bs_append]
  refine kG_of (by rw [bs_size, bs_size, hl5l]; simp) ?_
  refine kcall_of (hrx w25 (hL.same m25) (hd.same m25)) ?_
  rintro v w30 ⟨h30, hv⟩
  rcases hv with ⟨hb, _⟩ | ⟨_, bE, wh, rfl, hbE⟩
  · rw [r2] at hb; cases hb
  refine kext_of (v := .agg #[.int .i64 0, .int .i64 0, .int .i64 0, .slice none 0 0, .slice none 0 0]) rfl ?_
  refine kext_of (v := .iface 120 (.pointer (some ⟨bE, 0, none⟩))) rfl ?_
  refine knew_of fun w34 h34 hs34 hb34 => ?_
  refine kst_of (vs := [.int .i64 0, .int .i64 0, .int .i64 0, .slice none 0 0, .slice none 0 0]) hb34 rfl rfl rfl (by simp) (by simp) fun w35 h35 hs35 hb35 => ?_
  have h35' : Same w30 w35 := Mod.after h34 h35 (fun b hb => by omega)
  have m35 := m25.trans (h30.trans h35')
  have hb35 := (h30.trans h35').get hb25 (fun h => h)
  have hbE := h35'.get hbE (fun h => h)
  rw [keq_nil_nil ifErr, kB_bool, kIf_true, kstr_eql, kB_bool]
  refine kIf_dec (fun _ => ?_) (fun h => absurd hl5b h)
  rw [keq_nil_nil ifErr, kB_bool, kIf_true]
  refine kldN_of (cs := [.int .i64 0, .int .i64 1, .int .i64 0, .slice sv.ba 0 sv.bc, .slice sv.ra 0 sv.rc]) hb35 (by simp [SV.cells]) (by rw [hcells]; rfl) (by omega) ?_
  refine kbld_of (cs := [.int .i64 0, .int .i64 1, .int .i64 0, .slice none 0 0, .slice none 0 0]) rfl ?_
  refine kcall_of (refSame_spec 0 1 0 _ _ _ _ _ _ _ _) ?_
  rintro v w47 ⟨rfl, h47⟩
  rw [kB_bool, kIf_true, kstr_eql, kB_bool]
  refine kIf_dec (fun _ => ?_) (fun h => absurd rfl h)
  rw [kB_bool, kIf_true]
  have m47 := m35.trans h47
  refine kld_err (hL.same m47) (k := 3) (by omega) (by omega) rfl rfl ?_
  refine kcall_of (isAt_spec (hL.same m47) 3 (by omega) (by omega) (h47.get hbE (fun h => h))) ?_
  rintro v w54 ⟨rfl, rfl⟩
  exact ⟨rfl, m47⟩

theorem SealReads_spec {S : Nat → Addr} {w : World} (hL : LaidN 4 S w) (hd : DeAt w) (s : ByteArray) : Meets Tryd.prog 5 #[.string s] w fun v w' => v = .bool true ∧ Same w w' := by
  rw [← bs_of s]
  generalize s.data.toList = l
  refine f5_ok ?_
  unfold f5
  refine kcall_of (awake22_spec hL hd) ?_
  rintro v w2 ⟨rfl, h2⟩
  rw [kun_not, kB_bool]
  refine kIf_of (fun h => by cases h) (fun _ => ?_)
  unfold f5_0
  rw [klenStr_string, bs_size, kint_gtr, kB_bool]
  refine kIf_dec (fun _ => ⟨rfl, h2⟩) (fun hle => ?_)
  have hle : l.length ≤ 16384 := by omega
  unfold f5_1
  refine kcall_of (Read_spec (hL.same h2) (hd.same h2) l (by omega)) ?_
  rintro v w8 ⟨h8, hv⟩
  have m8 := h2.trans h8
  rcases hv with ⟨hok, sv, rfl, hsm, hsok, _⟩ | ⟨hbad, bE, wh, rfl, hbE⟩
  · obtain ⟨hlaw, hg⟩ := read_law l hok
    rw [← hsm] at hlaw hg
    refine kext_of (v := sv.val) rfl ?_
    refine kext_of (v := .nilIface) rfl ?_
    refine knew_of fun w12 h12 hs12 hb12 => ?_
    refine kst_of (vs := sv.cells) hb12 rfl rfl rfl (by simp) (by simp [SV.cells]) fun w13 h13 hs13 hb13 => ?_
    have hb13 : blk w13 w8.heap.size = some (.cells sv.cells.toArray 55) := hb13
    have h13' : Same w8 w13 := Mod.after h12 h13 (fun b hb => by omega)
    rw [keq_nil_nil' ifErr, kB_bool, kIf_false]
    unfold f5_2
    refine kldN_of (cs := sv.cells) hb13 (by simp [SV.cells]) rfl (by omega) ?_
    refine kcall_of (refGood_spec sv (hsok.same h13') hg) ?_
    rintro v w26 ⟨rfl, h26⟩
    rw [kB_bool, kIf_true]
    refine kldN_of (cs := sv.cells) (h26.get hb13 (fun h => h)) (by simp [SV.cells]) rfl (by omega) ?_
    refine kcall_of (refBytes_spec sv (hsok.same (h13'.trans h26)) hg) ?_
    rintro v w30 ⟨rfl, h30⟩
    rw [kstr_eql, hlaw]
    exact ⟨by simp, m8.trans (h13'.trans (h26.trans h30))⟩
  · refine kext_of (v := .agg #[.int .i64 0, .int .i64 0, .int .i64 0, .slice none 0 0, .slice none 0 0]) rfl ?_
    refine kext_of (v := .iface 120 (.pointer (some ⟨bE, 0, none⟩))) rfl ?_
    refine knew_of fun w12 h12 hs12 hb12 => ?_
    refine kst_of (vs := [.int .i64 0, .int .i64 0, .int .i64 0, .slice none 0 0, .slice none 0 0]) hb12 rfl rfl rfl (by simp) (by simp) fun w13 h13 hs13 hb13 => ?_
    have hb13 : blk w13 w8.heap.size = some (.cells #[.int .i64 0, .int .i64 0, .int .i64 0, .slice none 0 0, .slice none 0 0] 55) := hb13
    have h13' : Same w8 w13 := Mod.after h12 h13 (fun b hb => by omega)
    have m13 := m8.trans h13'
    rw [keq_if_nil' ifErr, kB_bool, kIf_true]
    refine kld_err (hL.same m13) (k := 3) (by omega) (by omega) rfl rfl ?_
    refine kcall_of (isAt_spec (hL.same m13) 3 (by omega) (by omega) (h13'.get hbE (fun h => h))) ?_
    rintro v w18 ⟨rfl, rfl⟩
    rw [kB_bool, kIf_true]
    refine kldN_of (cs := [.int .i64 0, .int .i64 0, .int .i64 0, .slice none 0 0, .slice none 0 0]) hb13 (by simp) rfl (by omega) ?_
    refine kbld_of (cs := [.int .i64 0, .int .i64 0, .int .i64 0, .slice none 0 0, .slice none 0 0]) rfl ?_
    refine kcall_of (refSame_spec 0 0 0 _ _ _ _ _ _ _ _) ?_
    rintro v w23 ⟨rfl, h23⟩
    exact ⟨rfl, m13.trans h23⟩
end Go.Proofs.YtcabkicjboedaaaDoor
end
section
namespace Go.Proofs.YtcabkicjboedaaaDoor
open Go Go.Ev
set_option linter.unusedVariables false
set_option linter.unusedSimpArgs false
set_option maxRecDepth 100000

/-! ### What is written is read as it was -/
theorem numF_fwd {great n : Nat} {r : List UInt8} (h1 : n ≤ great) (h2 : n < 18446744073709551616) : numF great ⟨groupsF n ++ r, false⟩ = (n, ⟨r, false⟩) := by
  have hp := parse_groups n 0 0 r (by simpa using h2) (.inr rfl) (by omega)
  simp only [Nat.mul_zero, Nat.pow_zero, Nat.mul_one, Nat.zero_add] at hp
  have hpos : 0 < (groupsF n).length := by rw [groupsF]; split <;> simp
  unfold numF parseF
  simp only [hp, Option.getD_some]
  rw [if_neg (by decide), if_neg (by omega)]
  simp
theorem byteF_fwd {n : Nat} {r : List UInt8} (h : n < 256) : byteF ⟨UInt8.ofNat n :: r, false⟩ = (n, ⟨r, false⟩) := by
  unfold byteF
  rw [if_neg (by intro h; cases h)]
  simp; omega
def clean (r : List UInt8) : SC := ⟨⟨r, false⟩, false⟩
theorem scCount_fwd {most : Int} {n : Nat} {r : List UInt8} (h1 : (n : Int) ≤ most) (h2 : n ≤ M63) : scCount most (clean (groupsF n ++ r)) = (n, clean r) := by
  have h := numF_fwd (great := M63) (n := n) (r := r) h2 (by unfold M63 at h2; omega)
  unfold scCount clean
  simp only [h]
  rw [decide_eq_true h1]
  rfl
theorem numsB_cons (z : Int) (l : List Int) : numsB (z :: l) = groupsF (zz z) ++ numsB l := by simp [numsB]
theorem valsF_fwd {n : Int} {zs : List Int} {r : List UInt8} (hok : ∀ z ∈ zs, I64 z) (hz : ∀ (j : Nat) (z : Int), zs[j]? = some z → ((j : Int) < n - 1 ∨ z ≠ 0)) : ∀ i, i ≤ zs.length → valsF n (clean (numsB zs ++ r)) i = (zs.take i, clean (numsB (zs.drop i) ++ r))
  | 0, _ => by simp [valsF]
  | i + 1, h => by
    have ih := valsF_fwd (r := r) hok hz i (by omega)
    have hi : i < zs.length := by omega
    have hd : zs.drop i = zs[i] :: zs.drop (i + 1) := by rw [List.drop_eq_getElem_cons hi]
    have hlt := zz_lt (hok zs[i] (List.getElem_mem hi))
    have hn := numF_fwd (great := M64) (n := zz zs[i]) (r := numsB (zs.drop (i + 1)) ++ r) (by unfold M64; omega) hlt
    have hst : (valsF n (clean (numsB zs ++ r)) i).2.r = ⟨groupsF (zz zs[i]) ++ (numsB (zs.drop (i + 1)) ++ r), false⟩ := by rw [ih, hd, numsB_cons]; simp [clean]
    have hb : (valsF n (clean (numsB zs ++ r)) i).2.bad = false := by rw [ih]; rfl
    have h1 : (valsF n (clean (numsB zs ++ r)) i).1 = zs.take i := by rw [ih]
    have hc := hz i zs[i] (List.getElem?_eq_getElem hi)
    show ((valsF n (clean (numsB zs ++ r)) i).1 ++ [unzz (numF M64 (valsF n (clean (numsB zs ++ r)) i).2.r).1], (⟨(numF M64 (valsF n (clean (numsB zs ++ r)) i).2.r).2, (valsF n (clean (numsB zs ++ r)) i).2.bad || !(decide ((i : Int) < n - 1) || decide (unzz (numF M64 (valsF n (clean (numsB zs ++ r)) i).2.r).1 ≠ 0))⟩ : SC)) = _
    rw [hst, hn, h1, hb]
    simp only [unzz_zz]
    have e : (decide ((i : Int) < n - 1) || decide (zs[i] ≠ 0)) = true := by
      rcases hc with h | h
      · rw [decide_eq_true h]; rfl
      · rw [decide_eq_true h, Bool.or_true]
    rw [e, List.take_succ_eq_append_getElem hi]
    rfl
theorem vals_pad (p : Part) : (p.vals.take (trimN p)).getD 0 0 = p.v0 ∧ (p.vals.take (trimN p)).getD 1 0 = p.v1 ∧ (p.vals.take (trimN p)).getD 2 0 = p.v2 ∧ (p.vals.take (trimN p)).getD 3 0 = p.v3 := by
  have key : ∀ i, i < 4 → ∀ v, p.vals[i]? = some v → (p.vals.take (trimN p)).getD i 0 = v := by
    intro i hi v hv
    rw [List.getD_eq_getElem?_getD]
    by_cases h : i < trimN p
    · rw [List.getElem?_take_of_lt h, hv]; rfl
    · rw [List.getElem?_eq_none (by rw [List.length_take]; omega)]
      have := trimN_zero p i (by omega) hi
      rw [hv] at this
      simpa using (Option.some.inj this).symm
  exact ⟨key 0 (by omega) _ rfl, key 1 (by omega) _ rfl, key 2 (by omega) _ rfl, key 3 (by omega) _ rfl⟩
theorem partF_fwd {p : Part} {r : List UInt8} (hp : p.ok) (ht : 0 ≤ p.tick) : partF p.comp (clean (partB p ++ r)) = (p, clean r) := by
  have hle := trimN_le p
  have hb := byteF_fwd (n := trimN p) (r := (numsB (p.vals.take (trimN p)) ++ groupsF p.tick.toNat) ++ r) (by omega)
  have hcell : (partB p ++ r) = UInt8.ofNat (trimN p) :: ((numsB (p.vals.take (trimN p)) ++ groupsF p.tick.toNat) ++ r) := by unfold partB; simp
  have hlen : (p.vals.take (trimN p)).length = trimN p := by rw [List.length_take]; simp [Part.vals]; omega
  have hv := valsF_fwd (n := (trimN p : Int)) (zs := p.vals.take (trimN p)) (r := groupsF p.tick.toNat ++ r) (fun z hz => by
      obtain ⟨j, hj, rfl⟩ := List.mem_iff_getElem.1 (List.mem_of_mem_take hz)
      exact part_val_ok hp (List.getElem?_eq_getElem hj)) (fun j z hz => by
      have hj := (List.getElem?_eq_some_iff.1 hz).1
      rw [hlen] at hj
      by_cases h : (j : Int) < trimN p - 1
      · exact .inl h
      · right
        obtain ⟨z', h1, h2⟩ := trimN_last p j (by omega)
        rw [List.getElem?_take_of_lt hj, h1] at hz
        rw [← Option.some.inj hz]; exact h2) (trimN p) (by omega)
  have t1 : (p.vals.take (trimN p)).take (trimN p) = p.vals.take (trimN p) := List.take_of_length_le (by omega)
  have t2 : (p.vals.take (trimN p)).drop (trimN p) = [] := List.drop_of_length_le (by omega)
  rw [t1, t2] at hv
  have htk : p.tick ≤ 9223372036854775807 := hp.2.2.2.2.2.2
  have hn := numF_fwd (great := M63) (n := p.tick.toNat) (r := r) (by unfold M63; omega) (by omega)
  obtain ⟨v0, v1, v2, v3⟩ := vals_pad p
  have e1 : clean (partB p ++ r) = ⟨⟨UInt8.ofNat (trimN p) :: ((numsB (p.vals.take (trimN p)) ++ groupsF p.tick.toNat) ++ r), false⟩, false⟩ := by unfold clean; rw [hcell]
  rw [e1]
  unfold partF
  simp only [hb]
  have hmin : min (trimN p) 4 = trimN p := by omega
  rw [hmin, decide_eq_true (show ((trimN p : Nat) : Int) ≤ 4 by omega)]
  have e2 : (⟨⟨(numsB (p.vals.take (trimN p)) ++ groupsF p.tick.toNat) ++ r, false⟩, false || !true⟩ : SC) = clean (numsB (p.vals.take (trimN p)) ++ (groupsF p.tick.toNat ++ r)) := by unfold clean; simp
  rw [e2, hv]
  simp only [numsB, List.flatMap_nil, List.nil_append, clean, hn, v0, v1, v2, v3]
  have : ((p.tick.toNat : Nat) : Int) = p.tick := by omega
  rw [this]
theorem partsF_fwd : ∀ (l : List Part) (ps : List Part) (r : List UInt8), (∀ p ∈ l, p.ok ∧ 0 ≤ p.tick ∧ 0 ≤ p.comp) → (l.map fun p => p.comp.toNat).foldl partsStep (ps, clean (l.flatMap partB ++ r)) = (ps ++ l, clean r)
  | [], ps, r, _ => by simp
  | p :: l, ps, r, h => by
    obtain ⟨h1, h2, h3⟩ := h p (by simp)
    have hf := partF_fwd (r := l.flatMap partB ++ r) h1 h2
    have e : ((p.comp.toNat : Nat) : Int) = p.comp := by omega
    rw [List.map_cons, List.foldl_cons, List.flatMap_cons, List.append_assoc]
    have hs : partsStep (ps, clean (partB p ++ (l.flatMap partB ++ r))) p.comp.toNat = (ps ++ [p], clean (l.flatMap partB ++ r)) := by
      unfold partsStep
      rw [if_neg (by intro h; cases h)]
      simp only [e, hf]
    rw [hs, partsF_fwd l (ps ++ [p]) r (fun q hq => h q (by simp [hq]))]
    simp
/-- A set's numbers are the parts' components. -/
theorem listF_parts (l : List Part) (hg : partsGood (-1) l = true) : listF (hasF l) = l.map fun p => p.comp.toNat := by
  have hall := partsGood_all l (-1) hg
  have hbits := hasF_bits l (fun p hp => by have := hall p hp; omega)
  unfold listF
  have e : (fun i : Nat => (hasF l).testBit i) = fun i : Nat => l.any (fun p => decide (p.comp = (i : Int))) := funext hbits
  rw [e]
  clear hbits e hall
  have key : ∀ (l : List Part) (last : Int), -1 ≤ last → last ≤ 15 → partsGood last l = true → ((List.range' (last + 1).toNat (31 - last).toNat).filter fun i : Nat => l.any (fun p => decide (p.comp = (i : Int)))) = l.map fun p => p.comp.toNat := by
    intro l
    induction l with
    | nil => intro last _ _ _; simp
    | cons p l ih =>
      intro last h0 h1 hg
      have hall := partsGood_all (p :: l) last hg
      unfold partsGood at hg
      simp only [Bool.and_eq_true, decide_eq_true_eq] at hg
      obtain ⟨g1, g2, _, g4⟩ := hg
      have hrest := partsGood_all l p.comp g4
      have hsplit : List.range' (last + 1).toNat (31 - last).toNat = List.range' (last + 1).toNat (p.comp - last - 1).toNat ++ (p.comp.toNat :: List.range' (p.comp + 1).toNat (31 - p.comp).toNat) := by
        have := List.range'_append (s := (last + 1).toNat) (m := (p.comp - last - 1).toNat) (n := (32 - p.comp).toNat) (step := 1)
        rw [show (p.comp - last - 1).toNat + (32 - p.comp).toNat = (31 - last).toNat by omega, show (last + 1).toNat + 1 * (p.comp - last - 1).toNat = p.comp.toNat by omega,
          show (32 - p.comp).toNat = (31 - p.comp).toNat + 1 by omega, List.range'_succ, show p.comp.toNat + 1 = (p.comp + 1).toNat by omega] at this
        exact this.symm
      rw [hsplit, List.filter_append, List.filter_cons]
      have e1 : (List.range' (last + 1).toNat (p.comp - last - 1).toNat).filter (fun i : Nat => (p :: l).any (fun p => decide (p.comp = (i : Int)))) = [] := by
        rw [List.filter_eq_nil_iff]
        intro a ha
        simp only [List.mem_range'_1] at ha
        simp only [List.any_eq_true, not_exists, not_and, decide_eq_true_eq]
        intro q hq
        rcases List.mem_cons.1 hq with rfl | hq
        · omega
        · have := hrest q hq; omega
      have e2 : ((p :: l).any fun q => decide (q.comp = ((p.comp.toNat : Nat) : Int))) = true := by
        rw [List.any_cons, decide_eq_true (show p.comp = ((p.comp.toNat : Nat) : Int) by omega)]; rfl
      rw [e1, if_pos e2, List.nil_append, List.map_cons]
      congr 1
      rw [← ih p.comp (by omega) (by omega) g4]
      apply List.filter_congr
      intro a ha
      simp only [List.mem_range'_1] at ha
      rw [List.any_cons, decide_eq_false (show ¬ p.comp = (a : Int) by omega), Bool.false_or]
  have := key l (-1) (by omega) (by omega) hg
  simpa [List.range_eq_range'] using this
theorem hasF_small (l : List Part) (hg : partsGood (-1) l = true) : hasF l / 65536 = 0 := by
  have hall := partsGood_all l (-1) hg
  have hbits := hasF_bits l (fun p hp => by have := hall p hp; omega)
  have : hasF l < 2 ^ 16 := by
    apply Nat.lt_pow_two_of_testBit
    intro i hi
    rw [hbits, List.any_eq_false]
    intro p hp
    have := hall p hp
    simp only [decide_eq_true_eq]
    omega
  omega
theorem beingF_fwd {b : BM} {last : Int} {r : List UInt8} (hok : ∀ p ∈ b.parts, p.ok) (hg : partsGood (-1) b.parts = true) (h1 : last ≤ b.id) (h2 : b.id - last ≤ 1073741824) : beingF last (clean (beingB last b ++ r)) = (b, clean r) := by
  have hall := partsGood_all b.parts (-1) hg
  have hsm := hasF_small b.parts hg
  have hlt := hasF_lt b.parts
  have e0 : beingB last b ++ r = groupsF (b.id - last).toNat ++ (groupsF (hasF b.parts) ++ (b.parts.flatMap partB ++ r)) := by unfold beingB; simp
  have hc := scCount_fwd (most := 1073741824) (n := (b.id - last).toNat) (r := groupsF (hasF b.parts) ++ (b.parts.flatMap partB ++ r)) (by omega) (by unfold M63; omega)
  have hn := numF_fwd (great := M32) (n := hasF b.parts) (r := b.parts.flatMap partB ++ r) (by unfold M32; omega) (by omega)
  have hp := partsF_fwd b.parts [] r (fun p hp => ⟨hok p hp, (hall p hp).2.2.1, by have := (hall p hp).1; omega⟩)
  rw [e0]
  unfold beingF
  simp only [hc]
  have hcr : (clean (groupsF (hasF b.parts) ++ (b.parts.flatMap partB ++ r))).r = ⟨groupsF (hasF b.parts) ++ (b.parts.flatMap partB ++ r), false⟩ := rfl
  rw [hcr, hn]
  simp only
  rw [decide_eq_true hsm, listF_parts b.parts hg]
  have e2 : (⟨⟨b.parts.flatMap partB ++ r, false⟩, (clean (groupsF (hasF b.parts) ++ (b.parts.flatMap partB ++ r))).bad || !true⟩ : SC) = clean (b.parts.flatMap partB ++ r) := rfl
  rw [e2]
  unfold partsF
  rw [hp]
  have : last + (((b.id - last).toNat : Nat) : Int) = b.id := by omega
  simp only [this, List.nil_append]
theorem resF_fwd {zs : List Int} {r : List UInt8} (hok : ∀ z ∈ zs, I64 z) : ∀ i, i ≤ zs.length → resF (clean (numsB zs ++ r)) i = (zs.take i, clean (numsB (zs.drop i) ++ r))
  | 0, _ => by simp [resF]
  | i + 1, h => by
    have ih := resF_fwd (r := r) hok i (by omega)
    have hi : i < zs.length := by omega
    have hd : zs.drop i = zs[i] :: zs.drop (i + 1) := by rw [List.drop_eq_getElem_cons hi]
    have hlt := zz_lt (hok zs[i] (List.getElem_mem hi))
    have hn := numF_fwd (great := M64) (n := zz zs[i]) (r := numsB (zs.drop (i + 1)) ++ r) (by unfold M64; omega) hlt
    have hst : (resF (clean (numsB zs ++ r)) i).2.r = ⟨groupsF (zz zs[i]) ++ (numsB (zs.drop (i + 1)) ++ r), false⟩ := by rw [ih, hd, numsB_cons]; simp [clean]
    have hb : (resF (clean (numsB zs ++ r)) i).2.bad = false := by rw [ih]; rfl
    have h1 : (resF (clean (numsB zs ++ r)) i).1 = zs.take i := by rw [ih]
    show ((resF (clean (numsB zs ++ r)) i).1 ++ [unzz (numF M64 (resF (clean (numsB zs ++ r)) i).2.r).1], (⟨(numF M64 (resF (clean (numsB zs ++ r)) i).2.r).2, (resF (clean (numsB zs ++ r)) i).2.bad⟩ : SC)) = _
    rw [hst, hn, h1, hb]
    simp only [unzz_zz]
    rw [List.take_succ_eq_append_getElem hi]
    rfl
/-- What a state's numbers may be. -/
def SM.valid (m : SM) : Prop := I64 m.seed ∧ (∀ z ∈ m.res, I64 z) ∧ ∀ b ∈ m.beings, ∀ p ∈ b.parts, p.ok
theorem bgsF_fwd {next : Int} {bl : List BM} {r : List UInt8} (hn : next ≤ 1073741825) (hok : ∀ b ∈ bl, ∀ p ∈ b.parts, p.ok) (hg : beingsGood next 0 bl = true) : ∀ i, i ≤ bl.length →
    bgsF (clean (beingsB 0 bl ++ r)) i = ((bl.take i, lastId 0 (bl.take i)), clean (beingsB (lastId 0 (bl.take i)) (bl.drop i) ++ r))
  | 0, _ => by simp [bgsF, lastId]
  | i + 1, h => by
    have ih := bgsF_fwd (r := r) hn hok hg i (by omega)
    have hi : i < bl.length := by omega
    have hd : bl.drop i = bl[i] :: bl.drop (i + 1) := by rw [List.drop_eq_getElem_cons hi]
    obtain ⟨k1, k2, k3, k4⟩ := beingsGood_at next bl 0 i hi (by omega) hg
    have hf := beingF_fwd (b := bl[i]) (last := lastId 0 (bl.take i)) (r := beingsB bl[i].id (bl.drop (i + 1)) ++ r) (hok _ (List.getElem_mem hi)) k3 (by omega) (by omega)
    have e2 : (bgsF (clean (beingsB 0 bl ++ r)) i).2 = clean (beingB (lastId 0 (bl.take i)) bl[i] ++ (beingsB bl[i].id (bl.drop (i + 1)) ++ r)) := by rw [ih, hd]; simp [beingsB]
    have e1 : (bgsF (clean (beingsB 0 bl ++ r)) i).1 = (bl.take i, lastId 0 (bl.take i)) := by rw [ih]
    show (((bgsF (clean (beingsB 0 bl ++ r)) i).1.1 ++ [(beingF (bgsF (clean (beingsB 0 bl ++ r)) i).1.2 (bgsF (clean (beingsB 0 bl ++ r)) i).2).1], (beingF (bgsF (clean (beingsB 0 bl ++ r)) i).1.2 (bgsF (clean (beingsB 0 bl ++ r)) i).2).1.id), (beingF (bgsF (clean (beingsB 0 bl ++ r)) i).1.2 (bgsF (clean (beingsB 0 bl ++ r)) i).2).2) = _
    rw [e1, e2]
    simp only [hf]
    rw [List.take_succ_eq_append_getElem hi, lastId_snoc]
theorem readF_fwd {m : SM} (hv : m.valid) (hg : goodF m = true) (r : List UInt8) (hlen : (bytesF m ++ r).length ≤ 32768) : readF (bytesF m ++ r) = (m, clean r) := by
  obtain ⟨g1, g2, g3, g4, g5, g6, g7⟩ := goodF_of hg
  obtain ⟨v1, v2, v3⟩ := hv
  have a := numF_fwd (great := M63) (n := m.frame.toNat) (r := groupsF m.next.toNat ++ (groupsF (zz m.seed) ++ (groupsF m.res.length ++ (numsB m.res ++ (groupsF m.beings.length ++ (beingsB 0 m.beings ++ r)))))) (by unfold M63; omega) (by omega)
  have b := numF_fwd (great := M63) (n := m.next.toNat) (r := groupsF (zz m.seed) ++ (groupsF m.res.length ++ (numsB m.res ++ (groupsF m.beings.length ++ (beingsB 0 m.beings ++ r))))) (by unfold M63; omega) (by omega)
  have c := numF_fwd (great := M64) (n := zz m.seed) (r := groupsF m.res.length ++ (numsB m.res ++ (groupsF m.beings.length ++ (beingsB 0 m.beings ++ r)))) (by have := zz_lt v1; unfold M64; omega) (zz_lt v1)
  have k := scCount_fwd (most := 8) (n := m.res.length) (r := numsB m.res ++ (groupsF m.beings.length ++ (beingsB 0 m.beings ++ r))) (by omega) (by unfold M63; omega)
  have p := resF_fwd (r := groupsF m.beings.length ++ (beingsB 0 m.beings ++ r)) v2 m.res.length (Nat.le_refl _)
  rw [List.take_length, List.drop_length] at p
  have n := scCount_fwd (most := 64) (n := m.beings.length) (r := beingsB 0 m.beings ++ r) (by omega) (by unfold M63; omega)
  have q := bgsF_fwd (r := r) g4 v3 g7 m.beings.length (Nat.le_refl _)
  rw [List.take_length, List.drop_length] at q
  have e0 : bytesF m ++ r = groupsF m.frame.toNat ++ (groupsF m.next.toNat ++ (groupsF (zz m.seed) ++ (groupsF m.res.length ++ (numsB m.res ++ (groupsF m.beings.length ++ (beingsB 0 m.beings ++ r)))))) := by unfold bytesF; simp
  have hdec : decide ((bytesF m ++ r).length ≤ 32768) = true := decide_eq_true hlen
  rw [e0] at hdec ⊢
  unfold readF head3
  simp only [a, b, c, hdec]
  have e1 : (⟨⟨groupsF m.res.length ++ (numsB m.res ++ (groupsF m.beings.length ++ (beingsB 0 m.beings ++ r))), false⟩, !true⟩ : SC) = clean (groupsF m.res.length ++ (numsB m.res ++ (groupsF m.beings.length ++ (beingsB 0 m.beings ++ r)))) := rfl
  rw [e1]
  unfold tailF
  have nb : numsB [] = [] := rfl
  have bb : ∀ x : Int, beingsB x [] = [] := fun _ => rfl
  simp only [k]
  simp only [p, nb, List.nil_append]
  simp only [n]
  simp only [q, bb, List.nil_append, unzz_zz]
  have f1 : ((m.frame.toNat : Nat) : Int) = m.frame := by omega
  have f2 : ((m.next.toNat : Nat) : Int) = m.next := by omega
  rw [f1, f2]
theorem okEnd_clean {m : SM} {r : List UInt8} (hg : goodF m = true) : okEnd m (clean r) = decide (r = []) := by
  unfold okEnd clean
  rw [hg]; simp
/-- A state that was read is one that may be. -/
theorem read_valid (l : List UInt8) : (readF l).1.valid := by
  refine ⟨?_, ?_, ?_⟩
  · have := numF_le M64 (numF M63 (numF M63 ⟨l, false⟩).2).2
    exact unzz_i64 (by unfold M64 at *; omega)
  · exact resF_ok _ _
  · have key : ∀ (s : SC) (i : Nat), ∀ b ∈ (bgsF s i).1.1, ∀ p ∈ b.parts, p.ok := by
      intro s i
      induction i with
      | zero => intro b hb; cases hb
      | succ i ih =>
        intro b hb
        rcases List.mem_append.1 hb with hb | hb
        · exact ih b hb
        · rw [List.mem_singleton.1 hb]
          exact (partsF_ok _ _ (listF_lt _)).1
    exact key _ _
theorem ok_len {l : List UInt8} (h : okEnd (readF l).1 (readF l).2 = true) : l.length ≤ 32768 := by
  unfold okEnd at h
  simp only [Bool.and_eq_true, Bool.not_eq_true', decide_eq_true_eq] at h
  obtain ⟨h1, h2, h3, h4⟩ := h
  have hq := bgsF_back (scCount 64 (resF (scCount 8 (head3 l).2).2 (scCount 8 (head3 l).2).1).2).2 (scCount 64 (resF (scCount 8 (head3 l).2).2 (scCount 8 (head3 l).2).1).2).1 ⟨h1, h2⟩
  obtain ⟨n1, _, _⟩ := scCount_back hq.1
  obtain ⟨p1, _⟩ := resF_back _ _ n1
  obtain ⟨k1, _, _⟩ := scCount_back p1
  have : (!decide (l.length ≤ 32768)) = false := k1.1
  simpa using this
/-- Bytes that go on are no state's. -/
theorem more_law {m : SM} (hv : m.valid) (hg : goodF m = true) (r : List UInt8) (hlen : (bytesF m).length ≤ 32768) : okEnd (readF (bytesF m ++ r)).1 (readF (bytesF m ++ r)).2 = decide (r = []) := by
  by_cases h : (bytesF m ++ r).length ≤ 32768
  · rw [readF_fwd hv hg r h]; exact okEnd_clean hg
  · have hr : r ≠ [] := by rintro rfl; simp at h; omega
    rw [decide_eq_false hr]
    cases hx : okEnd (readF (bytesF m ++ r)).1 (readF (bytesF m ++ r)).2 with
    | false => rfl
    | true => exact absurd (ok_len hx) h
/-- Bytes that are cut off are no state's. -/
theorem cut_law {m : SM} (hv : m.valid) (hg : goodF m = true) (hlen : (bytesF m).length ≤ 32768) (k : Nat) (hk : k < (bytesF m).length) : okEnd (readF ((bytesF m).take k)).1 (readF ((bytesF m).take k)).2 = false := by
  cases hx : okEnd (readF ((bytesF m).take k)).1 (readF ((bytesF m).take k)).2 with
  | false => rfl
  | true =>
    exfalso
    obtain ⟨h1, h2⟩ := read_law _ hx
    have hsplit : bytesF m = bytesF (readF ((bytesF m).take k)).1 ++ (bytesF m).drop k := by rw [h1, List.take_append_drop]
    have e1 := readF_fwd (read_valid ((bytesF m).take k)) h2 ((bytesF m).drop k) (by rw [← hsplit]; exact hlen)
    have e2 := readF_fwd hv hg [] (by simpa using hlen)
    rw [List.append_nil] at e2
    rw [← hsplit, e2] at e1
    have : ([] : List UInt8) = (bytesF m).drop k := congrArg (fun x : SM × SC => x.2.r.rest) e1
    have hl := congrArg List.length this
    rw [List.length_drop] at hl
    simp at hl; omega
end Go.Proofs.YtcabkicjboedaaaDoor
end
section
namespace Go.Proofs.YtcabkicjboedaaaDoor
open Go Go.Ev
set_option linter.unusedVariables false
set_option linter.unusedSimpArgs false
set_option maxRecDepth 100000

def GrtInv (s : SV) (w : World) (b1 : Nat) (x : Value) (wr : World) : Prop := ∃ i : Nat, i ≤ s.bl.length ∧ x = .int .i64 i ∧ (∀ j (h : j < s.bl.length), j < i → s.bl[j].parts.length ≤ 20 ∧ s.bl[j].id ≠ -9223372036854775808) ∧ wr = w
def greatNot (s : SV) : Prop := s.bl.length ≤ 80 ∧ s.rl.length ≤ 40 ∧ ∀ b ∈ s.bl, b.parts.length ≤ 20 ∧ b.id ≠ -9223372036854775808
theorem great_spec {w : World} (s : SV) (hs : s.ok w) : Meets Tryd.prog 21 #[s.val] w fun v w' => (∃ g : Bool, v = .bool g ∧ (g = false → greatNot s)) ∧ Same w w' := by
  obtain ⟨hfr, hnx, hsd, hrl, hbl, hba, hra⟩ := hs
  refine f21_ok ?_
  unfold f21
  refine knew_of fun w2 h2 hs2 hb1 => ?_
  have hb1 : blk w2 w.heap.size = some (.cells s.cells.toArray 55) := hb1
  have big : ∀ x : Value, f21_0 (.pointer (some ⟨w.heap.size, 0, none⟩)) (.bool true) (fun v w' => (∃ g : Bool, v = .bool g ∧ (g = false → greatNot s)) ∧ Same w w') w2 := by
    intro _
    unfold f21_0
    rw [kB_bool, kIf_true]
    exact ⟨⟨true, rfl, fun h => by cases h⟩, h2⟩
  refine kfld_of ?_
  refine kld_of (v := .slice s.ba s.bl.length s.bc) hb1 rfl ?_
  rw [klen_slice, kint_gtr, kB_bool]
  refine kIf_of (fun h80 => ?_) (fun _ => big .nilIface)
  have h80 : s.bl.length ≤ 80 := by simp at h80; omega
  refine kfld_of ?_
  refine kld_of (v := .slice s.ra s.rl.length s.rc) hb1 rfl ?_
  rw [klen_slice, kint_gtr]
  by_cases h40 : (40 : Int) < s.rl.length
  · rw [decide_eq_true h40]; exact big .nilIface
  rw [decide_eq_false h40]
  unfold f21_0
  rw [kB_bool, kIf_false]
  unfold f21_1
  refine kL_of (GrtInv s w2 w.heap.size) (fun x _ => s.bl.length - (RowKit.intOf x).toNat) ⟨⟨0, by omega, rfl, fun j h hj => by omega, rfl⟩, ?_⟩
  rintro x wr ⟨i, hi, rfl, hall, rfl⟩
  unfold f21_2
  refine kfld_of ?_
  refine kld_of (v := .slice s.ba s.bl.length s.bc) hb1 rfl ?_
  rw [klen_slice, kint_lss, kB_bool]
  refine kIf_dec (fun hlt => ?_) (fun hge => ?_)
  · have hlt : i < s.bl.length := by omega
    have big2 : f21_4 (.pointer (some ⟨w.heap.size, 0, none⟩)) (.int .i64 i) (.bool true) (fun y3 w2 => GrtInv s wr w.heap.size y3 w2 ∧ s.bl.length - (RowKit.intOf y3).toNat < s.bl.length - (RowKit.intOf (Value.int .i64 i)).toNat) (fun v w' => (∃ g : Bool, v = .bool g ∧ (g = false → greatNot s)) ∧ Same w w') wr := by
      unfold f21_4
      rw [kB_bool, kIf_true]
      exact ⟨⟨true, rfl, fun h => by cases h⟩, h2⟩
    unfold f21_3
    refine kfld_of ?_
    refine kld_of (v := .slice s.ba s.bl.length s.bc) hb1 rfl ?_
    refine kixfld_of (F := BV.cells) (fun _ => rfl) (hba.same h2) hlt (v := .slice s.bl[i].pa s.bl[i].parts.length s.bl[i].pc) rfl rfl ?_
    rw [klen_slice, kint_gtr, kB_bool]
    refine kIf_of (fun h20 => ?_) (fun _ => big2)
    have h20 : s.bl[i].parts.length ≤ 20 := by simp at h20; omega
    refine kfld_of ?_
    refine kld_of (v := .slice s.ba s.bl.length s.bc) hb1 rfl ?_
    refine kixfld_of (F := BV.cells) (fun _ => rfl) (hba.same h2) hlt (v := .int .i64 s.bl[i].id) rfl rfl ?_
    rw [kint_eql]
    by_cases hid : s.bl[i].id = -9223372036854775808
    · rw [decide_eq_true hid]; exact big2
    · rw [decide_eq_false hid]
      unfold f21_4
      rw [kB_bool, kIf_false]
      unfold f21_5
      rw [kint_add, i64_succ (by omega)]
      refine ⟨⟨i + 1, by omega, rfl, fun j h hj => ?_, rfl⟩, by simp [RowKit.intOf]; omega⟩
      by_cases e : j = i
      · subst e; exact ⟨h20, hid⟩
      · exact hall j h (by omega)
  · have : i = s.bl.length := by omega
    subst this
    unfold f21_6
    refine ⟨⟨false, rfl, fun _ => ⟨h80, by omega, fun b hb => ?_⟩⟩, h2⟩
    obtain ⟨j, hj, rfl⟩ := List.mem_iff_getElem.1 hb
    exact hall j hj hj
theorem valid_of {w : World} {s : SV} (hs : s.ok w) : s.m.valid := by
  obtain ⟨_, _, h3, h4, h5, _, _⟩ := hs
  refine ⟨h3, h4, ?_⟩
  intro b hb
  obtain ⟨q, hq, rfl⟩ := List.mem_map.1 hb
  exact (h5 q hq).2.1
theorem bytesF_pos (m : SM) : 0 < (bytesF m).length := by
  have : 0 < (groupsF m.frame.toNat).length := by rw [groupsF]; split <;> simp
  unfold bytesF
  rw [List.length_append]; omega
set_option maxHeartbeats 1000000 in
theorem SealCuts_spec {S : Nat → Addr} {w : World} (hL : LaidN 4 S w) (hd : DeAt w) (s : SV) (hs : s.ok w) (at_ : Int) (more : ByteArray) :
    Meets Tryd.prog 6 #[s.val, .int .i64 at_, .string more] w fun v w' => v = .bool true ∧ Same w w' := by
  rw [← bs_of more]
  generalize more.data.toList = r
  refine f6_ok ?_
  unfold f6
  refine knew_of fun w2 h2 hs2 hb1 => ?_
  have hb1 : blk w2 w.heap.size = some (.cells s.cells.toArray 55) := hb1
  refine kcall_of (awake22_spec (hL.same h2) (hd.same h2)) ?_
  rintro v w4 ⟨rfl, h4⟩
  have hb1 := h4.get hb1 (fun h => h)
  have m4 := h2.trans h4
  rw [kun_not, kB_bool]
  refine kIf_of (fun h => by cases h) (fun _ => ?_)
  unfold f6_0
  refine kldN_of (cs := s.cells) hb1 (by simp [SV.cells]) rfl (by omega) ?_
  refine kcall_of (great_spec s (hs.same m4)) ?_
  rintro v w8 ⟨⟨g, rfl, hg⟩, h8⟩
  have hb1 := h8.get hb1 (fun h => h)
  have m8 := m4.trans h8
  have out : f6_1 (.int .i64 at_) (.string (bs r)) (.pointer (some ⟨w.heap.size, 0, none⟩)) (.bool true) (fun v w' => v = .bool true ∧ Same w w') w8 := by
    unfold f6_1
    rw [kB_bool, kIf_true]
    exact ⟨rfl, m8⟩
  rw [kB_bool]
  refine kIf_of (fun hgf => ?_) (fun _ => out)
  obtain ⟨g1, g2, g3⟩ := hg (by simpa using hgf)
  rw [klenStr_string, bs_size, kint_gtr]
  by_cases h100 : (100 : Int) < r.length
  · rw [decide_eq_true h100]; exact out
  rw [decide_eq_false h100]
  unfold f6_1
  rw [kB_bool, kIf_false]
  unfold f6_2
  refine kldN_of (cs := s.cells) hb1 (by simp [SV.cells]) rfl (by omega) ?_
  refine kcall_of (Bytes_spec (hL.same m8) s (hs.same m8) (fun b hb => by have := (g3 b hb).1; omega)) ?_
  rintro v w15 ⟨h15, hv⟩
  have m15 := m8.trans h15
  rcases hv with ⟨hgood, hlen, rfl⟩ | ⟨_, t, x, rfl⟩
  rotate_left
  · refine kext_of (v := .string (bs [])) rfl ?_
    refine kext_of (v := .iface t x) rfl ?_
    rw [keq_if_nil' ifErr, kB_bool, kIf_true]
    exact ⟨rfl, m15⟩
  have hval := valid_of hs
  have hpos := bytesF_pos s.m
  have hcut := cut_law hval hgood hlen
  have hmore := more_law hval hgood r hlen
  generalize bytesF s.m = l at *
  refine kext_of (v := .string (bs l)) rfl ?_
  refine kext_of (v := .nilIface) rfl ?_
  rw [keq_nil_nil' ifErr, kB_bool, kIf_false]
  unfold f6_3
  have hu : 0 ≤ IntKind.u64.wrap at_ := by
    show 0 ≤ at_ % 18446744073709551616
    omega
  have hl64 : IntKind.u64.wrap (l.length : Int) = (l.length : Int) := wrap_u64 (by omega) (by omega)
  rw [kcnv_int, klenStr_string, bs_size, kcnv_int, hl64, kint_rem]
  refine kG_of (by omega) ?_
  obtain ⟨u, hue⟩ : ∃ u : Nat, IntKind.u64.wrap at_ = (u : Int) := ⟨_, (Int.toNat_of_nonneg hu).symm⟩
  rw [hue, tmod_nat]
  have hk : u % l.length < l.length := Nat.mod_lt _ hpos
  rw [kcnv_int, wrap_i64 (by omega) (by omega), ksl_string rfl rfl]
  refine kG_of (by simp only [loV_none, hiV_int, bs_size]; omega) ?_
  have hext : (bs l).extract (loV none).toNat (hiV (bs l).size (some (Value.int .i64 ((u % l.length : Nat) : Int)))).toNat = bs (l.take (u % l.length)) := by
    simp only [loV_none, hiV_int]
    rw [bs_extract]
    congr 1
  rw [hext]
  have hcut := hcut (u % l.length) hk
  refine kcall_of (Read_spec (hL.same m15) (hd.same m15) (l.take (u % l.length)) (by rw [List.length_take]; omega)) ?_
  rintro v w28 ⟨h28, hv⟩
  rcases hv with ⟨hb, _⟩ | ⟨_, bE, wh, rfl, _⟩
  · rw [hcut] at hb; cases hb
  have m28 := m15.trans h28
  refine kext_of (v := .agg #[.int .i64 0, .int .i64 0, .int .i64 0, .slice none 0 0, .slice none 0 0]) rfl ?_
  refine kext_of (v := .iface 120 (.pointer (some ⟨bE, 0, none⟩))) rfl ?_
  refine knew_of fun w32 h32 hs32 hb32 => ?_
  refine kst_of (vs := [.int .i64 0, .int .i64 0, .int .i64 0, .slice none 0 0, .slice none 0 0]) hb32 rfl rfl rfl (by simp) (by simp) fun w33 h33 hs33 hb33 => ?_
  have m33 := m28.trans (Mod.after h32 h33 (fun b hb => by omega))
  rw [kstr_add, bs_size, bs_size, bs_append]
  refine kG_of (by omega) ?_
  refine kcall_of (Read_spec (hL.same m33) (hd.same m33) (l ++ r) (by rw [List.length_append]; omega)) ?_
  rintro v w36 ⟨h36, hv⟩
  have m36 := m33.trans h36
  have fin : ∀ (u e : Value) (w' : World), Same w w' → u.cells.toList.length = 5 → oneCells u.cells.toList = true → ((e = .nilIface ∧ r = []) ∨ (r ≠ [] ∧ ∃ t x, e = .iface t x)) →
      (knew #[(.int .i64 0), (.int .i64 0), (.int .i64 0), (.slice none 0 0), (.slice none 0 0)] 55 w' fun v39 w40 => kst 5 v39 u w40 fun w41 =>
        keq Tryd.prog .neq 36 false true (.iface 120 (.pointer (some ⟨bE, 0, none⟩))) .nilIface w41 fun v42 w43 => kB v42 fun b44 => kIf b44
        (keq Tryd.prog .eql 36 false true e .nilIface w43 fun v45 w46 => kstr .eql (.string (bs r)) (.string ⟨#[]⟩) fun v47 => kbool .eql v45 v47 fun v48 => (fun (v : Value) (w' : World) => v = .bool true ∧ Same w w') v48 w46)
        ((fun (v : Value) (w' : World) => v = .bool true ∧ Same w w') (.bool false) w43)) := by
    intro u e w' hw hu5 hu1 he
    refine knew_of fun w40 h40 hs40 hb40 => ?_
    refine kst_of (vs := u.cells.toList) hb40 rfl hu5 hu1 (by simp) (by intro h; rw [h] at hu5; cases hu5) fun w41 h41 hs41 hb41 => ?_
    have m41 := hw.trans (Mod.after h40 h41 (fun b hb => by omega))
    rw [keq_if_nil' ifErr, kB_bool, kIf_true]
    rcases he with ⟨rfl, rfl⟩ | ⟨hr, t, x, rfl⟩
    · rw [keq_nil_nil ifErr, kstr_eql, decide_eq_true (show bs [] = (⟨#[]⟩ : ByteArray) from rfl), kbool_eql]
      exact ⟨rfl, m41⟩
    · rw [keq_if_nil ifErr, bs_nil, kstr_eql, decide_eq_false (by rw [bs_inj]; exact hr), kbool_eql]
      exact ⟨rfl, m41⟩
  rcases hv with ⟨hok, sv, rfl, _, _, _⟩ | ⟨hbad, bF, wh2, rfl, _⟩
  · rw [hmore, decide_eq_true_eq] at hok
    refine kext_of (v := sv.val) rfl ?_
    refine kext_of (v := .nilIface) rfl ?_
    exact fin sv.val .nilIface w36 m36 rfl rfl (.inl ⟨rfl, hok⟩)
  · rw [hmore, decide_eq_false_iff_not] at hbad
    refine kext_of (v := .agg #[.int .i64 0, .int .i64 0, .int .i64 0, .slice none 0 0, .slice none 0 0]) rfl ?_
    refine kext_of (v := .iface 120 (.pointer (some ⟨bF, 0, none⟩))) rfl ?_
    exact fin _ _ w36 m36 rfl rfl (.inr ⟨hbad, _, _, rfl⟩)
end Go.Proofs.YtcabkicjboedaaaDoor
end
section
namespace Go.Proofs.YtcabkicjboedaaaDoor
open Go Go.Ev Go.RowKit Go.ChangeShapes
set_option linter.unusedVariables false
set_option maxRecDepth 100000

theorem own : ownKnob Tryd.prog.godebug = none := by kernel_rfl
theorem laidOut : laidOutB Tryd.prog = true := by kernel_rfl
theorem star : "*" ++ "errors.errorString" = "*errors.errorString" := by decide
theorem rowSen (u : TypeId) (h : Tryd.prog.typeName? 3 u = some "*errors.errorString") : u = 192 :=
  typeName_ptr_named (nm := "errors.errorString") (by rw [star]; kernel_rfl) (by kernel_rfl) (by decide) u (by rw [star]; exact h)
theorem cSen : Tryd.prog.cellsOf 216 = 1 := by kernel_rfl
theorem cStr : Tryd.prog.cellsOf 9 = 1 := by kernel_rfl
/-- The name and the text of a laid sentinel. -/
def sentOf : String × DataW Unit → String × List UInt8
  | (n, .iface _ (.ptr (.agg [.lit (.string s)]))) => (n, s)
  | (n, _) => (n, [])
/-- The sentinels' variables, in the order of their numbers. -/
def errG : Nat → String
  | 1 => "pasodoble/api.ErrArg" | 2 => "pasodoble/api.ErrNil" | 3 => "pasodoble/api.ErrForm" | 4 => "pasodoble/api.ErrLong" | 5 => "pasodoble/api.ErrSum" | 6 => "pasodoble/api.ErrFull" | 7 => "pasodoble/api.ErrNone" | 8 => "pasodoble/api.ErrState" | 9 => "pasodoble/api.ErrTwice"
  | 10 => "pasodoble/api.ErrName" | 11 => "pasodoble/api.ErrCycle" | 12 => "pasodoble/api.ErrStack" | 13 => "pasodoble/api.ErrJump" | 14 => "pasodoble/api.ErrOp" | 15 => "pasodoble/api.ErrFuel" | 16 => "pasodoble/api.ErrRange" | 17 => "pasodoble/api.ErrDead" | _ => "pasodoble/api.ErrWord"
def sentL : List (String × List UInt8) := Rows.queryPartsRow.laid.map sentOf
theorem sentL_laid : Rows.queryPartsRow.laid = sentL.map (sentD "*errors.errorString") := by rfl
theorem sentL_at (k : Nat) (h1 : 1 ≤ k) (h2 : k ≤ 18) : ∃ t, sentL[k - 1]? = some (errG k, t) ∧ Tryd.prog.globalNamed (errG k) = some (gErr k) ∧ (Tryd.prog.globals[gErr k]?).map (·.type) = some 36 := by
  have hk : k = 1 ∨ k = 2 ∨ k = 3 ∨ k = 4 ∨ k = 5 ∨ k = 6 ∨ k = 7 ∨ k = 8 ∨ k = 9 ∨ k = 10 ∨ k = 11 ∨ k = 12 ∨ k = 13 ∨ k = 14 ∨ k = 15 ∨ k = 16 ∨ k = 17 ∨ k = 18 := by omega
  rcases hk with rfl | rfl | rfl | rfl | rfl | rfl | rfl | rfl | rfl | rfl | rfl | rfl | rfl | rfl | rfl | rfl | rfl | rfl <;>
    exact ⟨_, rfl, by kernel_rfl, by kernel_rfl⟩
theorem sentL_len : sentL.length = 18 := rfl

theorem laidE_of {W : World} (h : laidMetH Tryd.prog Rows.queryPartsRow.laid W) : ∃ S, LaidE S W := by
  rw [MakeChecks.laidMetH_plain _ _ _ (by kernel_rfl), sentL_laid] at h
  obtain ⟨ps, hv, hnd, hrows⟩ := h
  obtain ⟨zs, h1, h2, h3⟩ := sent_list Tryd.underlying36 rowSen Tryd.underlying192 Tryd.underlying216 rfl rfl Tryd.underlying9 cSen cStr sentL ps hv
    (fun x hx => by
      obtain ⟨i, hi, rfl⟩ := List.mem_iff_getElem.1 hx
      rw [sentL_len] at hi
      obtain ⟨t, e1, e2, e3⟩ := sentL_at (i + 1) (by omega) (by omega)
      rw [Nat.add_sub_cancel, List.getElem?_eq_getElem (by rw [sentL_len]; exact hi), Option.some.injEq] at e1
      rw [e1]
      exact ⟨_, e2, e3⟩) hrows
  have key : ∀ k, 1 ≤ k → k ≤ 18 → ∃ a, zs[k - 1]? = some a ∧ W.var? Tryd.prog (errG k) = some #[.iface 192 (.pointer (some a))] ∧ ∃ c t, W.heap[a.block]? = some (.cells c t (0, 0)) := by
    intro k k1 k2
    obtain ⟨t, e1, _, _⟩ := sentL_at k k1 k2
    obtain ⟨a, s, g1, g2, _, _, _, g3⟩ := h3 _ _ e1
    exact ⟨a, g1, g2, g3⟩
  refine ⟨fun k => (zs[k - 1]?).getD ⟨0, 0, none⟩, ?_, ?_, ?_⟩
  · intro k k1 k2
    obtain ⟨a, g1, g2, _⟩ := key k k1 k2
    obtain ⟨t, _, e2, _⟩ := sentL_at k k1 k2
    obtain ⟨t, f, hb⟩ := blk_of_var e2 g2
    refine ⟨_, t, f, hb, ?_⟩
    simp [errV, g1]
  · intro j k j1 j2 k1 k2 hne
    obtain ⟨a, g1, _⟩ := key j j1 j2
    obtain ⟨b, g2, _⟩ := key k k1 k2
    simp only [g1, g2, Option.getD_some]
    exact sent_ne h2 hnd g1 g2 (by omega)
  · intro k k1 k2
    obtain ⟨a, g1, _, c, t, g2⟩ := key k k1 k2
    simp only [g1, Option.getD_some]
    exact ⟨c, t, g2⟩
end Go.Proofs.YtcabkicjboedaaaDoor
end
section
namespace Go.Proofs.YtcabkicjboedaaaDoor
open Go Go.Ev Go.RowKit Go.ChangeShapes
set_option linter.unusedVariables false
set_option maxRecDepth 100000
namespace SL
def sentL : List (String × List UInt8) := (Rows.sealReadsRow.laid.drop 3).map sentOf
theorem laid_eq : Rows.sealReadsRow.laid = ("math/bits.deBruijn32tab", Rows.laid_math_bits_deBruijn32tab) :: ("math/bits.deBruijn64tab", Rows.laid_math_bits_deBruijn64tab) :: ("internal/strconv.uint64pow10", Rows.laid_internal_strconv_uint64pow10) :: sentL.map (sentD "*errors.errorString") := by rfl
theorem sentL_at (k : Nat) (h1 : 1 ≤ k) (h2 : k ≤ 4) : ∃ t, sentL[k - 1]? = some (errG k, t) ∧ Tryd.prog.globalNamed (errG k) = some (gErr k) ∧ (Tryd.prog.globals[gErr k]?).map (·.type) = some 36 := by
  have hk : k = 1 ∨ k = 2 ∨ k = 3 ∨ k = 4 := by omega
  rcases hk with rfl | rfl | rfl | rfl <;> exact ⟨_, rfl, by kernel_rfl, by kernel_rfl⟩
theorem sentL_len : sentL.length = 4 := rfl
theorem cU8 : Tryd.prog.cellsOf 5 = 1 := by kernel_rfl
theorem gDe : Tryd.prog.globalNamed "math/bits.deBruijn32tab" = some 6 := by kernel_rfl
theorem tDe : (Tryd.prog.globals[6]?).map (·.type) = some 177 := by kernel_rfl
theorem cDe : Tryd.prog.cellsOf 177 = 32 := by kernel_rfl
theorem deTab_lits : Rows.laid_math_bits_deBruijn32tab (H := Unit) = .agg (deTab.map fun n : Nat => .lit (.int .u8 (n : Int))) := by rfl
theorem laid_of {W : World} (h : laidMetH Tryd.prog Rows.sealReadsRow.laid W) : (∃ S, LaidN 4 S W) ∧ DeAt W := by
  rw [MakeChecks.laidMetH_plain _ _ _ (by kernel_rfl), laid_eq] at h
  obtain ⟨ps, hv, hnd, hrows⟩ := h
  obtain ⟨g0, t0, cs0, f0, p0, q0, hg0, ht0, hv0, hd0, ⟨g1, t1, cs1, f1, p1, q1, _, _, _, _, ⟨g2, t2, cs2, f2, p2, q2, _, _, _, _, hq, e2⟩, e1⟩, e0⟩ := hv
  subst e2
  subst e1
  have hsub : q2.Sublist ps := by
    rw [e0]
    exact ((List.sublist_append_right _ _).trans (List.sublist_append_right _ _)).trans (List.sublist_append_right _ _)
  refine ⟨?_, ?_⟩
  · obtain ⟨as', h1, h2, h3⟩ := sent_list Tryd.underlying36 rowSen Tryd.underlying192 Tryd.underlying216 rfl rfl Tryd.underlying9 cSen cStr sentL q2 hq
      (fun x hx => by
        obtain ⟨i, hi, rfl⟩ := List.mem_iff_getElem.1 hx
        rw [sentL_len] at hi
        obtain ⟨t, e1, e2, e3⟩ := sentL_at (i + 1) (by omega) (by omega)
        rw [Nat.add_sub_cancel, List.getElem?_eq_getElem (by rw [sentL_len]; exact hi), Option.some.injEq] at e1
        rw [e1]
        exact ⟨_, e2, e3⟩) (fun b off hm => hrows b off (hsub.subset hm))
    have key : ∀ k, 1 ≤ k → k ≤ 4 → ∃ a, as'[k - 1]? = some a ∧ W.var? Tryd.prog (errG k) = some #[.iface 192 (.pointer (some a))] ∧ ∃ c t, W.heap[a.block]? = some (.cells c t (0, 0)) := by
      intro k k1 k2
      obtain ⟨t, e1, _, _⟩ := sentL_at k k1 k2
      obtain ⟨a, s, g1, g2, _, _, _, g3⟩ := h3 _ _ e1
      exact ⟨a, g1, g2, g3⟩
    refine ⟨fun k => (as'[k - 1]?).getD ⟨0, 0, none⟩, ?_, ?_, ?_⟩
    · intro k k1 k2
      obtain ⟨a, g1, g2, _⟩ := key k k1 k2
      obtain ⟨t, _, e2, _⟩ := sentL_at k k1 k2
      obtain ⟨t, f, hb⟩ := blk_of_var e2 g2
      refine ⟨_, t, f, hb, ?_⟩
      simp [errV, g1]
    · intro j k j1 j2 k1 k2 hne
      obtain ⟨a, g1, _⟩ := key j j1 j2
      obtain ⟨b, g2, _⟩ := key k k1 k2
      simp only [g1, g2, Option.getD_some]
      exact sent_ne h2 (List.Nodup.sublist hsub hnd) g1 g2 (by omega)
    · intro k k1 k2
      obtain ⟨a, g1, _, c, t, g2⟩ := key k k1 k2
      simp only [g1, Option.getD_some]
      exact ⟨c, t, g2⟩
  · obtain rfl := Option.some.inj (gDe.symm.trans hg0)
    obtain rfl := Option.some.inj (tDe.symm.trans ht0)
    obtain ⟨xs, m, _, hx, hl, hxl, hel⟩ := DataW.trod_array Tryd.underlying177 hd0
    rw [cDe] at hl
    rw [deTab_lits] at hx
    simp only [Prod.mk.injEq, DataW.agg.injEq] at hx
    obtain ⟨t, f, hb⟩ := blk_of_var gDe hv0
    refine ⟨t, f, ?_⟩
    rw [hb]
    congr 2
    apply Array.ext'
    apply List.ext_getElem?
    intro i
    simp only [List.getElem?_map]
    by_cases hi : i < 32
    · have h1 := hel i hi
      rw [cU8, Nat.mul_one, List.getElem?_eq_getElem (show i < xs.length by omega)] at h1
      obtain ⟨n, e1, e2, _⟩ := DataW.trod_int Tryd.underlying5 h1
      have h2 := congrArg (fun l : List (DataW Unit) => l[i]?) hx.1
      simp only [List.getElem?_map, List.getElem?_eq_getElem (show i < xs.length by omega), Option.map_some] at h2
      have hdl : i < deTab.length := hi
      rw [List.getElem?_eq_getElem hdl, Option.map_some] at h2 ⊢
      rw [e2] at h2
      simp only [Option.some.injEq, DataW.lit.injEq, Lit.int.injEq] at h2
      have h3 : cs0.toList[i]? = some (.int .u8 n) := by
        have := congrArg (fun l : List Value => l[0]?) e1
        simpa [List.getElem?_take, List.getElem?_drop] using this
      rw [h3, ← h2.2]
    · rw [List.getElem?_eq_none (by omega), List.getElem?_eq_none (show deTab.length ≤ i by show 32 ≤ i; omega)]; rfl
end SL
end Go.Proofs.YtcabkicjboedaaaDoor
end
