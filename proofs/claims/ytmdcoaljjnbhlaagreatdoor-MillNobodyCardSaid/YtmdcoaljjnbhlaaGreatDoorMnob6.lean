/-
Lemmas for the statements of this seat: no statement of the seat is proved in this part (6 of 6); the conditions stand in each theorem.
-/
import Derived.Test.YtmdcoaljjnbhlaaGreatDoorMnob5
import Derived.Test.YtmdcoaljjnbhlaaGreatDoorProg
import Derived.Test.YtmdcoaljjnbhlaaGreatDoorChecked
set_option linter.unusedSimpArgs false
set_option linter.unusedVariables false
set_option maxRecDepth 100000
namespace Go.Proofs.YtmdcoaljjnbhlaaGreatDoor
open Go Go.Ev
section
def f35_4 (x3 x7 x8 : Value) (J5 : Value → World → Prop) (Q : PQ) (w : World) : Prop :=
 kint .i64 .add x8 (.int .i64 1) fun v35 =>
 J5 v35 w
def f35_3 (x3 x7 x8 : Value) (J5 : Value → World → Prop) (Q : PQ) (w : World) : Prop :=
 kN x7 <|
 kfld 7 x7 fun v22 =>
 kld v22 w.drew fun v23 =>
 kG (w.drew = w.drew) <|
 kfld 1 x3 fun v24 =>
 kld v24 w.drew fun v25 =>
 kG (w.drew = w.drew) <|
 kix (some (.slice 150)) (some 2) v25 x8 fun v26 =>
 kfld 1 v26 fun v27 =>
 kld v27 w.drew fun v28 =>
 kG (w.drew = w.drew) <|
 kbldS [.int .i64 0] 1 [(0, 1, v28)] 3 w.drew fun v29 w30 =>
 kG (kld v22 w30 fun v36 =>
 v36 = v23 ∧ w30 = w30) <|
 ksem Tryz.prog (Builtin.append_ #[55, 55] 0 #[v23, v29]) w30 fun v31 w32 =>
 kN x7 <|
 kfld 7 x7 fun v33 =>
 kst 1 v33 v31 w32 fun w34 =>
 f35_4 x3 x7 x8 J5 Q w34
def f35_5 (x7 : Value) (Q : PQ) (w : World) : Prop :=
 Q x7 w
def f35_2 (x8 x3 x7 : Value) (J5 : Value → World → Prop) (Q : PQ) (w : World) : Prop :=
 kfld 1 x3 fun v17 =>
 kld v17 w fun v18 =>
 klen v18 fun v19 =>
 kint .i64 .lss x8 v19 fun v21 =>
 kB v21 fun b37 => kIf b37
 (f35_3 x3 x7 x8 J5 Q w)
 (f35_5 x7 Q w)
def f35_1 (x1 x2 x3 : Value) (Q : PQ) (w : World) : Prop :=
 kldN 2 x3 w fun v13 =>
 kbld [.slice none 0 0, .slice none 0 0, .int .i64 0, .slice none 0 0, .int .i64 0, .int .i64 0, .int .i64 0, .slice none 0 0, .slice none 0 0, .bool false] [(0, 2, v13), (2, 1, x1), (5, 1, (.int .i64 1)), (6, 1, x2)] fun v14 =>
 knew (Value.cells v14) 81 w fun v15 w16 =>
 kL fun (I : Value → World → Prop) (μ : Value → World → Nat) => I (.int .i64 0) w16 ∧ ∀ (x8 : Value) (w1 : World), I x8 w1 →
 f35_2 x8 x3 v15 (fun y8 w2 => I y8 w2 ∧ μ y8 w2 < μ x8 w1) Q w1
def f35_0 (x1 x2 x3 x20 : Value) (Q : PQ) (w : World) : Prop :=
 kB x20 fun b38 => kIf b38
 (Q (.pointer none) w)
 (f35_1 x1 x2 x3 Q w)
def f35 (x0 x1 x2 : Value) (Q : PQ) (w : World) : Prop :=
 knew (Value.cells x0) 78 w fun v1 w2 =>
 kldN 2 v1 w2 fun v3 =>
 kcall Tryz.prog 76 #[v3] w2 fun v4 w5 =>
 klen v4 fun v6 =>
 kint .i64 .gtr v6 (.int .i64 0) fun v8 =>
 kB v8 fun b9 => kIf (!b9)
 (kint .i64 .lss x1 (.int .i64 0) fun v10 =>
 kB v10 fun b11 => kIf (!b11)
 (kint .i64 .gtr x1 (.int .i64 64) fun v12 =>
 f35_0 x1 x2 v1 v12 Q w5)
 (f35_0 x1 x2 v1 (.bool true) Q w5))
 (f35_0 x1 x2 v1 (.bool true) Q w5)
theorem f35_ok {x0 x1 x2 : Value} {Q : PQ} {w : World} (h : f35 x0 x1 x2 Q w) : Meets Tryz.prog 35 #[x0, x1, x2] w Q :=
 sound' (c := Tryz.f35.body.get rfl) [(5, [8])] Tryz.func35 rfl rfl (args := [x0, x1, x2]) rfl (by kernel_rfl) h
def f38_0 (x0 : Value) (Q : PQ) (w : World) : Prop :=
 kN x0 <|
 kfld 4 x0 fun v4 =>
 kld v4 w fun v5 =>
 kbld [.int .i64 0, .int .i64 0, .int .i64 0, .int .i64 0, .int .i64 0, .int .i64 0, .int .i64 0, .int .i64 0, .slice none 0 0, .int .i64 0, .int .i64 0] [(0, 1, (.int .i64 9)), (10, 1, v5)] fun v6 =>
 kcall Tryz.prog 78 #[x0, v6] w fun v7 w8 =>
 kN x0 <|
 kfld 4 x0 fun v9 =>
 kld v9 w8 fun v10 =>
 kint .i64 .add v10 (.int .i64 1) fun v11 =>
 kN x0 <|
 kfld 4 x0 fun v12 =>
 kst 1 v12 v11 w8 fun w13 =>
 Q (.int .i64 0) w13
def f38 (x0 : Value) (Q : PQ) (w : World) : Prop :=
 kN x0 <|
 kfld 4 x0 fun v1 =>
 kld v1 w fun v2 =>
 kint .i64 .geq v2 (.int .i64 1073741824) fun v3 =>
 kB v3 fun b14 => kIf b14
 (Q (.int .i64 6) w)
 (f38_0 x0 Q w)
theorem f38_ok {x0 : Value} {Q : PQ} {w : World} (h : f38 x0 Q w) : Meets Tryz.prog 38 #[x0] w Q :=
 sound' (c := Tryz.f38.body.get rfl) [] Tryz.func38 rfl rfl (args := [x0]) rfl (by kernel_rfl) h
def f40_2 (x0 x6 : Value) (Q : PQ) (w : World) : Prop :=
 kN x0 <|
 kfld 5 x0 fun v17 =>
 kld v17 w fun v18 =>
 kN x0 <|
 kfld 5 x0 fun v19 =>
 kld v19 w fun v20 =>
 kbld [.int .i64 0, .int .i64 0, .int .i64 0, .int .i64 0, .int .i64 0, .int .i64 0, .int .i64 0, .int .i64 0, .slice none 0 0, .int .i64 0, .int .i64 0] [(0, 1, (.int .i64 7)), (10, 1, v20)] fun v21 =>
 kcall Tryz.prog 78 #[x0, v21] w fun v22 w23 =>
 kbld [.int .i64 0, .int .i64 0, .int .i64 0, .int .i64 0, .int .i64 0, .int .i64 0, .int .i64 0, .int .i64 0, .slice none 0 0, .int .i64 0, .int .i64 0] [(0, 1, (.int .i64 2)), (1, 1, v18)] fun v24 =>
 kcall Tryz.prog 78 #[x0, v24] w23 fun v25 w26 =>
 kN x0 <|
 kfld 5 x0 fun v27 =>
 kld v27 w26 fun v28 =>
 kint .i64 .add v28 (.int .i64 1) fun v29 =>
 kN x0 <|
 kfld 5 x0 fun v30 =>
 kst 1 v30 v29 w26 fun w31 =>
 kcall Tryz.prog 83 #[x0, v18, x6] w31 fun v32 w33 =>
 Q (.tuple #[v18, .int .i64 0]) w33
def f40_1 (x0 x6 x34 : Value) (Q : PQ) (w : World) : Prop :=
 kB x34 fun b34 => kIf b34
 (Q (.tuple #[.int .i64 0, .int .i64 6]) w)
 (f40_2 x0 x6 Q w)
def f40_0 (x0 x6 : Value) (Q : PQ) (w : World) : Prop :=
 kN x0 <|
 kfld 3 x0 fun v6 =>
 kld v6 w.drew fun v7 =>
 kG (w.drew = w.drew) <|
 klen v7 fun v8 =>
 kN x0 <|
 kfld 2 x0 fun v10 =>
 kld v10 w.drew fun v11 =>
 kG (w.drew = w.drew) <|
 kint .i64 .geq v8 v11 fun v12 =>
 kB v12 fun b13 => kIf (!b13)
 (kN x0 <|
 kfld 5 x0 fun v14 =>
 kld v14 w.drew fun v15 =>
 kG (w.drew = w.drew) <|
 kint .i64 .gtr v15 (.int .i64 1073741824) fun v16 =>
 f40_1 x0 x6 v16 Q w.drew)
 (f40_1 x0 x6 (.bool true) Q w.drew)
def f40 (x0 x1 : Value) (Q : PQ) (w : World) : Prop :=
 kcall Tryz.prog 82 #[x0, x1] w fun v1 w2 =>
 kext v1 0 fun v3 =>
 kext v1 1 fun v4 =>
 kint .i64 .neq v4 (.int .i64 0) fun v5 =>
 kB v5 fun b35 => kIf b35
 (Q (.tuple #[.int .i64 0, v4]) w2)
 (f40_0 x0 v3 Q w2)
theorem f40_ok {x0 x1 : Value} {Q : PQ} {w : World} (h : f40 x0 x1 Q w) : Meets Tryz.prog 40 #[x0, x1] w Q :=
 sound' (c := Tryz.f40.body.get rfl) [] Tryz.func40 rfl rfl (args := [x0, x1]) rfl (by kernel_rfl) h
def f82_4 (x0 x1 x6 x7 x8 : Value) (J4 : Value → Value → Value → World → Prop) (Q : PQ) (w : World) : Prop :=
 kint .i64 .add x8 (.int .i64 1) fun v24 =>
 J4 x6 x7 v24 w
def f82_3 (x0 x1 x6 x7 x8 : Value) (J4 : Value → Value → Value → World → Prop) (Q : PQ) (w : World) : Prop :=
 kix (some (.slice 49)) (some 6) x1 x8 fun v20 =>
 kldN 6 v20 w fun v21 =>
 kcall Tryz.prog 133 #[x6, v21] w fun v22 w23 =>
 f82_4 x0 x1 v22 x7 x8 J4 Q w23
def f82_2 (x0 x1 x6 x7 x8 : Value) (J4 : Value → Value → Value → World → Prop) (Q : PQ) (w : World) : Prop :=
 kB x7 fun b13 => kIf (!b13)
 (kix (some (.slice 49)) (some 6) x1 x8 fun v14 =>
 kfld 0 v14 fun v15 =>
 kld v15 w fun v16 =>
 kcall Tryz.prog 132 #[x6, v16] w fun v17 w18 =>
 kint .i64 .geq v17 (.int .i64 0) fun v19 =>
 f82_3 x0 x1 x6 v19 x8 J4 Q w18)
 (f82_3 x0 x1 x6 (.bool true) x8 J4 Q w)
def f82_1 (x0 x1 x6 x7 x8 : Value) (J4 : Value → Value → Value → World → Prop) (Q : PQ) (w : World) : Prop :=
 kN x0 <|
 kfld 0 x0 fun v6 =>
 kldN 2 v6 w.drew fun v7 =>
 kG (w.drew = w.drew) <|
 kix (some (.slice 49)) (some 6) x1 x8 fun v8 =>
 kldN 6 v8 w.drew fun v9 =>
 kG (w.drew = w.drew) <|
 kcall Tryz.prog 131 #[v7, v9] w.drew fun v10 w11 =>
 kun .not (some .bool) v10 fun v12 =>
 kB v12 fun b25 => kIf b25
 (Q (.tuple #[.slice none 0 0, .int .i64 1]) w11)
 (f82_2 x0 x1 x6 x7 x8 J4 Q w11)
def f82_6 (x6 : Value) (Q : PQ) (w : World) : Prop :=
 Q (.tuple #[x6, .int .i64 0]) w
def f82_5 (x6 x7 : Value) (Q : PQ) (w : World) : Prop :=
 kB x7 fun b26 => kIf b26
 (Q (.tuple #[.slice none 0 0, .int .i64 9]) w)
 (f82_6 x6 Q w)
def f82_0 (x6 x7 x8 x0 x1 : Value) (J4 : Value → Value → Value → World → Prop) (Q : PQ) (w : World) : Prop :=
 klen x1 fun v3 =>
 kint .i64 .lss x8 v3 fun v5 =>
 kB v5 fun b27 => kIf b27
 (f82_1 x0 x1 x6 x7 x8 J4 Q w)
 (f82_5 x6 x7 Q w)
def f82 (x0 x1 : Value) (Q : PQ) (w : World) : Prop :=
 kbldS [.int .i64 0, .int .i64 0, .int .i64 0, .int .i64 0, .int .i64 0, .int .i64 0] 0 [] 49 w fun v1 w2 =>
 kL fun (I : Value → Value → Value → World → Prop) (μ : Value → Value → Value → World → Nat) => I v1 (.bool false) (.int .i64 0) w2 ∧ ∀ (x6 x7 x8 : Value) (w1 : World), I x6 x7 x8 w1 →
 f82_0 x6 x7 x8 x0 x1 (fun y6 y7 y8 w2 => I y6 y7 y8 w2 ∧ μ y6 y7 y8 w2 < μ x6 x7 x8 w1) Q w1
theorem f82_ok {x0 x1 : Value} {Q : PQ} {w : World} (h : f82 x0 x1 Q w) : Meets Tryz.prog 82 #[x0, x1] w Q :=
 sound' (c := Tryz.f82.body.get rfl) [(4, [6, 7, 8])] Tryz.func82 rfl rfl (args := [x0, x1]) rfl (by kernel_rfl) h
def f83_4 (x0 x1 x2 x6 x7 x8 : Value) (J3 : Value → Value → Value → World → Prop) (Q : PQ) (w : World) : Prop :=
 kint .i64 .add x8 (.int .i64 1) fun v29 =>
 J3 x6 x7 v29 w
def f83_3 (x0 x1 x2 x6 x7 x8 : Value) (J3 : Value → Value → Value → World → Prop) (Q : PQ) (w : World) : Prop :=
 kN x0 <|
 kfld 3 x0 fun v21 =>
 kld v21 w fun v22 =>
 kix (some (.slice 46)) (some 2) v22 x8 fun v23 =>
 kldN 2 v23 w fun v24 =>
 kbldS [.int .i64 0, .slice none 0 0] 1 [(0, 2, v24)] 46 w fun v25 w26 =>
 ksem Tryz.prog (Builtin.append_ #[34, 34] 0 #[x6, v25]) w26 fun v27 w28 =>
 f83_4 x0 x1 x2 v27 x7 x8 J3 Q w28
def f83_2 (x0 x1 x2 x6 x7 x8 x32 : Value) (J3 : Value → Value → Value → World → Prop) (Q : PQ) (w : World) : Prop :=
 kB x32 fun b30 => kIf b30
 (kbld [.int .i64 0, .slice none 0 0] [(0, 1, x1), (1, 1, x2)] fun v16 =>
 kbldS [.int .i64 0, .slice none 0 0] 1 [(0, 2, v16)] 46 w fun v17 w18 =>
 ksem Tryz.prog (Builtin.append_ #[34, 34] 0 #[x6, v17]) w18 fun v19 w20 =>
 f83_3 x0 x1 x2 v19 (.bool true) x8 J3 Q w20)
 (f83_3 x0 x1 x2 x6 x7 x8 J3 Q w)
def f83_1 (x0 x1 x2 x6 x7 x8 : Value) (J3 : Value → Value → Value → World → Prop) (Q : PQ) (w : World) : Prop :=
 kun .not (some .bool) x7 fun v8 =>
 kB v8 fun b9 => kIf b9
 (kN x0 <|
 kfld 3 x0 fun v10 =>
 kld v10 w fun v11 =>
 kix (some (.slice 46)) (some 2) v11 x8 fun v12 =>
 kfld 0 v12 fun v13 =>
 kld v13 w fun v14 =>
 kint .i64 .gtr v14 x1 fun v15 =>
 f83_2 x0 x1 x2 x6 x7 x8 v15 J3 Q w)
 (f83_2 x0 x1 x2 x6 x7 x8 (.bool false) J3 Q w)
def f83_6 (x0 x6 : Value) (Q : PQ) (w : World) : Prop :=
 kN x0 <|
 kfld 3 x0 fun v37 =>
 kst 1 v37 x6 w fun w38 =>
 Q (.tuple #[]) w38
def f83_5 (x0 x1 x2 x6 x7 : Value) (Q : PQ) (w : World) : Prop :=
 kun .not (some .bool) x7 fun v31 =>
 kB v31 fun b39 => kIf b39
 (kbld [.int .i64 0, .slice none 0 0] [(0, 1, x1), (1, 1, x2)] fun v32 =>
 kbldS [.int .i64 0, .slice none 0 0] 1 [(0, 2, v32)] 46 w fun v33 w34 =>
 ksem Tryz.prog (Builtin.append_ #[34, 34] 0 #[x6, v33]) w34 fun v35 w36 =>
 f83_6 x0 v35 Q w36)
 (f83_6 x0 x6 Q w)
def f83_0 (x6 x7 x8 x0 x1 x2 : Value) (J3 : Value → Value → Value → World → Prop) (Q : PQ) (w : World) : Prop :=
 kN x0 <|
 kfld 3 x0 fun v3 =>
 kld v3 w fun v4 =>
 klen v4 fun v5 =>
 kint .i64 .lss x8 v5 fun v7 =>
 kB v7 fun b40 => kIf b40
 (f83_1 x0 x1 x2 x6 x7 x8 J3 Q w)
 (f83_5 x0 x1 x2 x6 x7 Q w)
def f83 (x0 x1 x2 : Value) (Q : PQ) (w : World) : Prop :=
 kbldS [.int .i64 0, .slice none 0 0] 0 [] 46 w fun v1 w2 =>
 kL fun (I : Value → Value → Value → World → Prop) (μ : Value → Value → Value → World → Nat) => I v1 (.bool false) (.int .i64 0) w2 ∧ ∀ (x6 x7 x8 : Value) (w1 : World), I x6 x7 x8 w1 →
 f83_0 x6 x7 x8 x0 x1 x2 (fun y6 y7 y8 w2 => I y6 y7 y8 w2 ∧ μ y6 y7 y8 w2 < μ x6 x7 x8 w1) Q w1
theorem f83_ok {x0 x1 x2 : Value} {Q : PQ} {w : World} (h : f83 x0 x1 x2 Q w) : Meets Tryz.prog 83 #[x0, x1, x2] w Q :=
 sound' (c := Tryz.f83.body.get rfl) [(3, [6, 7, 8])] Tryz.func83 rfl rfl (args := [x0, x1, x2]) rfl (by kernel_rfl) h
def f78 (x0 x1 : Value) (Q : PQ) (w : World) : Prop :=
 knew (Value.cells x1) 158 w fun v1 w2 =>
 kN x0 <|
 kfld 9 x0 fun v3 =>
 kld v3 w2 fun v4 =>
 kB v4 fun b54 => kIf b54
 ((kbldS [.int .i64 0, .int .i64 0, .int .i64 0, .int .i64 0, .int .i64 0, .int .i64 0, .int .i64 0, .int .i64 0, .slice none 0 0, .int .i64 0, .int .i64 0] 0 [] 158 w2.drew fun v5 w6 =>
 (kN x0 <|
 kfld 8 x0 fun v7 =>
 kld v7 w6 fun v8 =>
 kG (w6 = w6) <|
 kG (kld v7 w2.drew fun v21 =>
 v21 = v8 ∧ w2.drew = w2.drew) <|
 ksem Tryz.prog (Builtin.append_ #[79, 79] 0 #[v5, v8]) w6 fun v9 w10 =>
 kldN 11 v1 w10 fun v11 =>
 kG (w10 = w10) <|
 kG (kldN 11 v1 w6 fun v20 =>
 v20 = v11 ∧ w6 = w6) <|
 kG (kldN 11 v1 w2.drew fun v19 =>
 v19 = v11 ∧ w2.drew = w2.drew) <|
 kbldS [.int .i64 0, .int .i64 0, .int .i64 0, .int .i64 0, .int .i64 0, .int .i64 0, .int .i64 0, .int .i64 0, .slice none 0 0, .int .i64 0, .int .i64 0] 1 [(0, 11, v11)] 158 w10 fun v12 w13 =>
 kG (kld v7 w13 fun v18 =>
 v18 = v8 ∧ w13 = w13) <|
 ksem Tryz.prog (Builtin.append_ #[79, 79] 0 #[v9, v12]) w13 fun v14 w15 =>
 kN x0 <|
 kfld 8 x0 fun v16 =>
 kst 1 v16 v14 w15 fun w17 =>
 Q (.tuple #[]) w17) ∧
 (kldN 11 v1 w6 fun v22 =>
 kG (w6 = w6) <|
 kG (kldN 11 v1 w2.drew fun v36 =>
 v36 = v22 ∧ w2.drew = w2.drew) <|
 kbldS [.int .i64 0, .int .i64 0, .int .i64 0, .int .i64 0, .int .i64 0, .int .i64 0, .int .i64 0, .int .i64 0, .slice none 0 0, .int .i64 0, .int .i64 0] 1 [(0, 11, v22)] 158 w6 fun v23 w24 =>
 kN x0 <|
 kfld 8 x0 fun v25 =>
 kld v25 w24 fun v26 =>
 kG (w24 = w24) <|
 kG (kld v25 w6 fun v35 =>
 v35 = v26 ∧ w6 = w6) <|
 kG (kld v25 w2.drew fun v34 =>
 v34 = v26 ∧ w2.drew = w2.drew) <|
 ksem Tryz.prog (Builtin.append_ #[79, 79] 0 #[v5, v26]) w24 fun v27 w28 =>
 kG (kldN 11 v1 w28 fun v33 =>
 v33 = v22 ∧ w28 = w28) <|
 ksem Tryz.prog (Builtin.append_ #[79, 79] 0 #[v27, v23]) w28 fun v29 w30 =>
 kN x0 <|
 kfld 8 x0 fun v31 =>
 kst 1 v31 v29 w30 fun w32 =>
 Q (.tuple #[]) w32)) ∧
 (kldN 11 v1 w2.drew fun v37 =>
 kG (w2.drew = w2.drew) <|
 kbldS [.int .i64 0, .int .i64 0, .int .i64 0, .int .i64 0, .int .i64 0, .int .i64 0, .int .i64 0, .int .i64 0, .slice none 0 0, .int .i64 0, .int .i64 0] 1 [(0, 11, v37)] 158 w2.drew fun v38 w39 =>
 kbldS [.int .i64 0, .int .i64 0, .int .i64 0, .int .i64 0, .int .i64 0, .int .i64 0, .int .i64 0, .int .i64 0, .slice none 0 0, .int .i64 0, .int .i64 0] 0 [] 158 w39 fun v40 w41 =>
 kG (kldN 11 v1 w41 fun v53 =>
 v53 = v37 ∧ w41 = w41) <|
 kN x0 <|
 kfld 8 x0 fun v42 =>
 kld v42 w41 fun v43 =>
 kG (w41 = w41) <|
 kG (kld v42 w39 fun v52 =>
 v52 = v43 ∧ w39 = w39) <|
 kG (kld v42 w2.drew fun v51 =>
 v51 = v43 ∧ w2.drew = w2.drew) <|
 ksem Tryz.prog (Builtin.append_ #[79, 79] 0 #[v40, v43]) w41 fun v44 w45 =>
 kG (kldN 11 v1 w45 fun v50 =>
 v50 = v37 ∧ w45 = w45) <|
 ksem Tryz.prog (Builtin.append_ #[79, 79] 0 #[v44, v38]) w45 fun v46 w47 =>
 kN x0 <|
 kfld 8 x0 fun v48 =>
 kst 1 v48 v46 w47 fun w49 =>
 Q (.tuple #[]) w49))
 (Q (.tuple #[]) w2)
theorem f78_ok {x0 x1 : Value} {Q : PQ} {w : World} (h : f78 x0 x1 Q w) : Meets Tryz.prog 78 #[x0, x1] w Q :=
 sound' (c := Tryz.f78.body.get rfl) [] Tryz.func78 rfl rfl (args := [x0, x1]) rfl (by kernel_rfl) h
def f132_2 (x0 x1 x5 : Value) (J2 : Value → World → Prop) (Q : PQ) (w : World) : Prop :=
 kint .i64 .add x5 (.int .i64 1) fun v8 =>
 J2 v8 w
def f132_1 (x0 x1 x5 : Value) (J2 : Value → World → Prop) (Q : PQ) (w : World) : Prop :=
 kix (some (.slice 49)) (some 6) x0 x5 fun v4 =>
 kfld 0 v4 fun v5 =>
 kld v5 w fun v6 =>
 kint .i64 .eql v6 x1 fun v7 =>
 kB v7 fun b9 => kIf b9
 (Q x5 w)
 (f132_2 x0 x1 x5 J2 Q w)
def f132_3 (Q : PQ) (w : World) : Prop :=
 Q (.int .i64 (-1)) w
def f132_0 (x5 x0 x1 : Value) (J2 : Value → World → Prop) (Q : PQ) (w : World) : Prop :=
 klen x0 fun v1 =>
 kint .i64 .lss x5 v1 fun v3 =>
 kB v3 fun b10 => kIf b10
 (f132_1 x0 x1 x5 J2 Q w)
 (f132_3 Q w)
def f132 (x0 x1 : Value) (Q : PQ) (w : World) : Prop :=
 kL fun (I : Value → World → Prop) (μ : Value → World → Nat) => I (.int .i64 0) w ∧ ∀ (x5 : Value) (w1 : World), I x5 w1 →
 f132_0 x5 x0 x1 (fun y5 w2 => I y5 w2 ∧ μ y5 w2 < μ x5 w1) Q w1
theorem f132_ok {x0 x1 : Value} {Q : PQ} {w : World} (h : f132 x0 x1 Q w) : Meets Tryz.prog 132 #[x0, x1] w Q :=
 sound' (c := Tryz.f132.body.get rfl) [(2, [5])] Tryz.func132 rfl rfl (args := [x0, x1]) rfl (by kernel_rfl) h
def f131_4 (x3 x5 : Value) (J4 : Value → World → Prop) (Q : PQ) (w : World) : Prop :=
 kint .i64 .add x5 (.int .i64 1) fun v28 =>
 J4 v28 w
def f131_3 (x3 x5 : Value) (J4 : Value → World → Prop) (Q : PQ) (w : World) : Prop :=
 kfld 1 x3 fun v24 =>
 kix (some (.array 4 3)) (some 1) v24 x5 fun v25 =>
 kld v25 w fun v26 =>
 kint .i64 .neq v26 (.int .i64 0) fun v27 =>
 kB v27 fun b29 => kIf b29
 (Q (.bool false) w)
 (f131_4 x3 x5 J4 Q w)
def f131_5 (Q : PQ) (w : World) : Prop :=
 Q (.bool true) w
def f131_2 (x5 x3 : Value) (J4 : Value → World → Prop) (Q : PQ) (w : World) : Prop :=
 kint .i64 .lss x5 (.int .i64 4) fun v23 =>
 kB v23 fun b30 => kIf b30
 (f131_3 x3 x5 J4 Q w)
 (f131_5 Q w)
def f131_1 (x2 x3 : Value) (Q : PQ) (w : World) : Prop :=
 kfld 0 x2 fun v16 =>
 kld v16 w fun v17 =>
 kfld 0 x3 fun v18 =>
 kld v18 w fun v19 =>
 kix (some (.slice 147)) (some 7) v17 v19 fun v20 =>
 kfld 1 v20 fun v21 =>
 kld v21 w fun v22 =>
 kL fun (I : Value → World → Prop) (μ : Value → World → Nat) => I v22 w ∧ ∀ (x5 : Value) (w1 : World), I x5 w1 →
 f131_2 x5 x3 (fun y5 w2 => I y5 w2 ∧ μ y5 w2 < μ x5 w1) Q w1
def f131_0 (x2 x3 x16 : Value) (Q : PQ) (w : World) : Prop :=
 kB x16 fun b31 => kIf b31
 (Q (.bool false) w)
 (f131_1 x2 x3 Q w)
def f131 (x0 x1 : Value) (Q : PQ) (w : World) : Prop :=
 knew (Value.cells x0) 78 w fun v1 w2 =>
 knew (Value.cells x1) 49 w2 fun v3 w4 =>
 kfld 0 v3 fun v5 =>
 kld v5 w4 fun v6 =>
 kint .i64 .lss v6 (.int .i64 0) fun v7 =>
 kB v7 fun b8 => kIf (!b8)
 (kfld 0 v3 fun v9 =>
 kld v9 w4 fun v10 =>
 kfld 0 v1 fun v11 =>
 kld v11 w4 fun v12 =>
 klen v12 fun v13 =>
 kint .i64 .geq v10 v13 fun v15 =>
 f131_0 v1 v3 v15 Q w4)
 (f131_0 v1 v3 (.bool true) Q w4)
theorem f131_ok {x0 x1 : Value} {Q : PQ} {w : World} (h : f131 x0 x1 Q w) : Meets Tryz.prog 131 #[x0, x1] w Q :=
 sound' (c := Tryz.f131.body.get rfl) [(4, [5])] Tryz.func131 rfl rfl (args := [x0, x1]) rfl (by kernel_rfl) h
def f133_4 (x0 x3 x5 x6 x7 : Value) (J4 : Value → Value → Value → World → Prop) (Q : PQ) (w : World) : Prop :=
 kint .i64 .add x7 (.int .i64 1) fun v27 =>
 J4 x5 x6 v27 w
def f133_3 (x0 x3 x5 x6 x7 : Value) (J4 : Value → Value → Value → World → Prop) (Q : PQ) (w : World) : Prop :=
 kix (some (.slice 49)) (some 6) x0 x7 fun v21 =>
 kldN 6 v21 w fun v22 =>
 kbldS [.int .i64 0, .int .i64 0, .int .i64 0, .int .i64 0, .int .i64 0, .int .i64 0] 1 [(0, 6, v22)] 49 w fun v23 w24 =>
 ksem Tryz.prog (Builtin.append_ #[44, 44] 0 #[x5, v23]) w24 fun v25 w26 =>
 f133_4 x0 x3 v25 x6 x7 J4 Q w26
def f133_2 (x0 x3 x5 x6 x7 x26 : Value) (J4 : Value → Value → Value → World → Prop) (Q : PQ) (w : World) : Prop :=
 kB x26 fun b28 => kIf b28
 (kldN 6 x3 w fun v16 =>
 kbldS [.int .i64 0, .int .i64 0, .int .i64 0, .int .i64 0, .int .i64 0, .int .i64 0] 1 [(0, 6, v16)] 49 w fun v17 w18 =>
 ksem Tryz.prog (Builtin.append_ #[44, 44] 0 #[x5, v17]) w18 fun v19 w20 =>
 f133_3 x0 x3 v19 (.bool true) x7 J4 Q w20)
 (f133_3 x0 x3 x5 x6 x7 J4 Q w)
def f133_1 (x0 x3 x5 x6 x7 : Value) (J4 : Value → Value → Value → World → Prop) (Q : PQ) (w : World) : Prop :=
 kun .not (some .bool) x6 fun v8 =>
 kB v8 fun b9 => kIf b9
 (kix (some (.slice 49)) (some 6) x0 x7 fun v10 =>
 kfld 0 v10 fun v11 =>
 kld v11 w.drew fun v12 =>
 kG (w.drew = w.drew) <|
 kfld 0 x3 fun v13 =>
 kld v13 w.drew fun v14 =>
 kG (w.drew = w.drew) <|
 kint .i64 .gtr v12 v14 fun v15 =>
 f133_2 x0 x3 x5 x6 x7 v15 J4 Q w.drew)
 (f133_2 x0 x3 x5 x6 x7 (.bool false) J4 Q w.drew)
def f133_6 (x5 : Value) (Q : PQ) (w : World) : Prop :=
 Q x5 w
def f133_5 (x3 x5 x6 : Value) (Q : PQ) (w : World) : Prop :=
 kun .not (some .bool) x6 fun v29 =>
 kB v29 fun b35 => kIf b35
 (kldN 6 x3 w fun v30 =>
 kbldS [.int .i64 0, .int .i64 0, .int .i64 0, .int .i64 0, .int .i64 0, .int .i64 0] 1 [(0, 6, v30)] 49 w fun v31 w32 =>
 ksem Tryz.prog (Builtin.append_ #[44, 44] 0 #[x5, v31]) w32 fun v33 w34 =>
 f133_6 v33 Q w34)
 (f133_6 x5 Q w)
def f133_0 (x5 x6 x7 x0 x3 : Value) (J4 : Value → Value → Value → World → Prop) (Q : PQ) (w : World) : Prop :=
 klen x0 fun v5 =>
 kint .i64 .lss x7 v5 fun v7 =>
 kB v7 fun b36 => kIf b36
 (f133_1 x0 x3 x5 x6 x7 J4 Q w)
 (f133_5 x3 x5 x6 Q w)
def f133 (x0 x1 : Value) (Q : PQ) (w : World) : Prop :=
 knew (Value.cells x1) 49 w fun v1 w2 =>
 kbldS [.int .i64 0, .int .i64 0, .int .i64 0, .int .i64 0, .int .i64 0, .int .i64 0] 0 [] 49 w2 fun v3 w4 =>
 kL fun (I : Value → Value → Value → World → Prop) (μ : Value → Value → Value → World → Nat) => I v3 (.bool false) (.int .i64 0) w4 ∧ ∀ (x5 x6 x7 : Value) (w1 : World), I x5 x6 x7 w1 →
 f133_0 x5 x6 x7 x0 v1 (fun y5 y6 y7 w2 => I y5 y6 y7 w2 ∧ μ y5 y6 y7 w2 < μ x5 x6 x7 w1) Q w1
theorem f133_ok {x0 x1 : Value} {Q : PQ} {w : World} (h : f133 x0 x1 Q w) : Meets Tryz.prog 133 #[x0, x1] w Q :=
 sound' (c := Tryz.f133.body.get rfl) [(4, [5, 6, 7])] Tryz.func133 rfl rfl (args := [x0, x1]) rfl (by kernel_rfl) h
def f76_5 (x1 x3 x4 : Value) (J5 : Value → Value → World → Prop) (Q : PQ) (w : World) : Prop :=
 kint .i64 .add x4 (.int .i64 1) fun v55 =>
 J5 x3 v55 w
def f76_9 (x1 x3 x4 x5 x6 x9 x10 : Value) (J18 : Value → Value → World → Prop) (J5 : Value → Value → World → Prop) (Q : PQ) (w : World) : Prop :=
 kint .i64 .add x10 (.int .i64 1) fun v64 =>
 J18 x9 v64 w
def f76_8 (x1 x3 x4 x5 x6 x9 x10 : Value) (J18 : Value → Value → World → Prop) (J5 : Value → Value → World → Prop) (Q : PQ) (w : World) : Prop :=
 kB x9 fun b59 => kIf b59
 (kfld 3 x5 fun v60 =>
 kix (some (.array 4 3)) (some 1) v60 x10 fun v61 =>
 kld v61 w fun v62 =>
 kint .i64 .eql v62 (.int .i64 0) fun v63 =>
 f76_9 x1 x3 x4 x5 x6 v63 x10 J18 J5 Q w)
 (f76_9 x1 x3 x4 x5 x6 (.bool false) x10 J18 J5 Q w)
def f76_10 (x1 x3 x4 x6 x9 : Value) (J5 : Value → Value → World → Prop) (Q : PQ) (w : World) : Prop :=
 kun .not (some .bool) x9 fun v65 =>
 kB v65 fun b72 => kIf b72
 (kstr .add x6 (.string ⟨#[100, 101, 102, 97, 117, 108, 116]⟩) fun v66 =>
 kbld [(.string ⟨#[]⟩), .int .i64 0] [(0, 1, v66), (1, 1, (.int .i64 1))] fun v67 =>
 kbldS [(.string ⟨#[]⟩), .int .i64 0] 1 [(0, 2, v67)] 228 w fun v68 w69 =>
 ksem Tryz.prog (Builtin.append_ #[154, 154] 0 #[x3, v68]) w69 fun v70 w71 =>
 f76_5 x1 v70 x4 J5 Q w71)
 (f76_5 x1 x3 x4 J5 Q w)
def f76_7 (x9 x10 x1 x3 x4 x5 x6 : Value) (J18 : Value → Value → World → Prop) (J5 : Value → Value → World → Prop) (Q : PQ) (w : World) : Prop :=
 kint .i64 .lss x10 (.int .i64 4) fun v58 =>
 kB v58 fun b73 => kIf b73
 (f76_8 x1 x3 x4 x5 x6 x9 x10 J18 J5 Q w)
 (f76_10 x1 x3 x4 x6 x9 J5 Q w)
def f76_6 (x1 x3 x4 x5 x6 : Value) (J5 : Value → Value → World → Prop) (Q : PQ) (w : World) : Prop :=
 kfld 1 x5 fun v56 =>
 kld v56 w fun v57 =>
 kL fun (I : Value → Value → World → Prop) (μ : Value → Value → World → Nat) => I (.bool true) v57 w ∧ ∀ (x9 x10 : Value) (w1 : World), I x9 x10 w1 →
 f76_7 x9 x10 x1 x3 x4 x5 x6 (fun y9 y10 w2 => I y9 y10 w2 ∧ μ y9 y10 w2 < μ x9 x10 w1) J5 Q w1
def f76_4 (x1 x3 x4 x5 x6 x79 : Value) (J5 : Value → Value → World → Prop) (Q : PQ) (w : World) : Prop :=
 kB x79 fun b74 => kIf b74
 (kstr .add x6 (.string ⟨#[119, 105, 100, 116, 104]⟩) fun v49 =>
 kbld [(.string ⟨#[]⟩), .int .i64 0] [(0, 1, v49), (1, 1, (.int .i64 1))] fun v50 =>
 kbldS [(.string ⟨#[]⟩), .int .i64 0] 1 [(0, 2, v50)] 228 w fun v51 w52 =>
 ksem Tryz.prog (Builtin.append_ #[154, 154] 0 #[x3, v51]) w52 fun v53 w54 =>
 f76_5 x1 v53 x4 J5 Q w54)
 (f76_6 x1 x3 x4 x5 x6 J5 Q w)
def f76_3 (x1 x3 x4 x5 x6 : Value) (J5 : Value → Value → World → Prop) (Q : PQ) (w : World) : Prop :=
 kfld 1 x5 fun v42 =>
 kld v42 w fun v43 =>
 kint .i64 .lss v43 (.int .i64 1) fun v44 =>
 kB v44 fun b45 => kIf (!b45)
 (kfld 1 x5 fun v46 =>
 kld v46 w fun v47 =>
 kint .i64 .gtr v47 (.int .i64 4) fun v48 =>
 f76_4 x1 x3 x4 x5 x6 v48 J5 Q w)
 (f76_4 x1 x3 x4 x5 x6 (.bool true) J5 Q w)
def f76_11 (x1 x3 x4 x5 x6 x65 : Value) (J5 : Value → Value → World → Prop) (Q : PQ) (w : World) : Prop :=
 kB x65 fun b90 => kIf b90
 (kstr .add x6 (.string ⟨#[110, 97, 109, 101]⟩) fun v84 =>
 kbld [(.string ⟨#[]⟩), .int .i64 0] [(0, 1, v84), (1, 1, (.int .i64 9))] fun v85 =>
 kbldS [(.string ⟨#[]⟩), .int .i64 0] 1 [(0, 2, v85)] 228 w fun v86 w87 =>
 ksem Tryz.prog (Builtin.append_ #[154, 154] 0 #[x3, v86]) w87 fun v88 w89 =>
 f76_3 x1 v88 x4 x5 x6 J5 Q w89)
 (f76_3 x1 x3 x4 x5 x6 J5 Q w)
def f76_2 (x1 x3 x4 : Value) (J5 : Value → Value → World → Prop) (Q : PQ) (w : World) : Prop :=
 kfld 0 x1 fun v20 =>
 kld v20 w fun v21 =>
 kix (some (.slice 147)) (some 7) v21 x4 fun v22 =>
 kldN 7 v22 w fun v23 =>
 knew #[(.string ⟨#[]⟩), .int .i64 0, .bool false, .int .i64 0, .int .i64 0, .int .i64 0, .int .i64 0] 147 w fun v24 w25 =>
 kst 7 v24 v23 w25 fun w26 =>
 kcall Tryz.prog 116 #[x4] w26 fun v27 w28 =>
 kstr .add (.string ⟨#[99, 111, 109, 112, 111, 110, 101, 110, 116, 115, 47]⟩) v27 fun v29 =>
 kstr .add v29 (.string ⟨#[47]⟩) fun v30 =>
 kfld 0 v24 fun v31 =>
 kld v31 w28 fun v32 =>
 kcall Tryz.prog 117 #[v32] w28 fun v33 w34 =>
 kun .not (some .bool) v33 fun v35 =>
 kB v35 fun b91 => kIf b91
 (kstr .add v30 (.string ⟨#[110, 97, 109, 101]⟩) fun v36 =>
 kbld [(.string ⟨#[]⟩), .int .i64 0] [(0, 1, v36), (1, 1, (.int .i64 10))] fun v37 =>
 kbldS [(.string ⟨#[]⟩), .int .i64 0] 1 [(0, 2, v37)] 228 w34 fun v38 w39 =>
 ksem Tryz.prog (Builtin.append_ #[154, 154] 0 #[x3, v38]) w39 fun v40 w41 =>
 f76_3 x1 v40 x4 v24 v30 J5 Q w41)
 (kldN 2 x1 w34 fun v75 =>
 kfld 0 v24 fun v76 =>
 kld v76 w34 fun v77 =>
 kcall Tryz.prog 118 #[v75, v77] w34 fun v78 w79 =>
 kext v78 0 fun v80 =>
 kext v78 1 fun v81 =>
 kB v81 fun b82 => kIf b82
 (kint .i64 .lss v80 x4 fun v83 =>
 f76_11 x1 x3 x4 v24 v30 v83 J5 Q w79)
 (f76_11 x1 x3 x4 v24 v30 (.bool false) J5 Q w79))
def f76_16 (x1 x3 x11 : Value) (J26 : Value → Value → World → Prop) (Q : PQ) (w : World) : Prop :=
 kint .i64 .add x11 (.int .i64 1) fun v134 =>
 J26 x3 v134 w
def f76_17 (x1 x3 x11 x13 x161 : Value) (J26 : Value → Value → World → Prop) (Q : PQ) (w : World) : Prop :=
 kB x161 fun b143 => kIf b143
 (kbld [(.string ⟨#[]⟩), .int .i64 0] [(0, 1, x13), (1, 1, (.int .i64 9))] fun v138 =>
 kbldS [(.string ⟨#[]⟩), .int .i64 0] 1 [(0, 2, v138)] 228 w fun v139 w140 =>
 ksem Tryz.prog (Builtin.append_ #[154, 154] 0 #[x3, v139]) w140 fun v141 w142 =>
 f76_16 x1 v141 x11 J26 Q w142)
 (f76_16 x1 x3 x11 J26 Q w)
def f76_15 (x1 x3 x11 : Value) (J26 : Value → Value → World → Prop) (Q : PQ) (w : World) : Prop :=
 kfld 1 x1 fun v107 =>
 kld v107 w fun v108 =>
 kix (some (.slice 150)) (some 2) v108 x11 fun v109 =>
 kfld 0 v109 fun v110 =>
 kld v110 w fun v111 =>
 kcall Tryz.prog 116 #[x11] w fun v112 w113 =>
 kstr .add (.string ⟨#[114, 101, 115, 111, 117, 114, 99, 101, 115, 47]⟩) v112 fun v114 =>
 kstr .add v114 (.string ⟨#[47, 110, 97, 109, 101]⟩) fun v115 =>
 kldN 2 x1 w113 fun v116 =>
 kcall Tryz.prog 118 #[v116, v111] w113 fun v117 w118 =>
 kext v117 0 fun v119 =>
 kext v117 1 fun v120 =>
 kldN 2 x1 w118 fun v121 =>
 kcall Tryz.prog 119 #[v121, v111] w118 fun v122 w123 =>
 kext v122 0 fun v124 =>
 kext v122 1 fun v125 =>
 kcall Tryz.prog 117 #[v111] w123 fun v126 w127 =>
 kun .not (some .bool) v126 fun v128 =>
 kB v128 fun b144 => kIf b144
 (kbld [(.string ⟨#[]⟩), .int .i64 0] [(0, 1, v115), (1, 1, (.int .i64 10))] fun v129 =>
 kbldS [(.string ⟨#[]⟩), .int .i64 0] 1 [(0, 2, v129)] 228 w127 fun v130 w131 =>
 ksem Tryz.prog (Builtin.append_ #[154, 154] 0 #[x3, v130]) w131 fun v132 w133 =>
 f76_16 x1 v132 x11 J26 Q w133)
 (kB v120 fun b135 => kIf (!b135)
 (kB v125 fun b136 => kIf b136
 (kint .i64 .lss v124 x11 fun v137 =>
 f76_17 x1 x3 x11 v115 v137 J26 Q w127)
 (f76_17 x1 x3 x11 v115 (.bool false) J26 Q w127))
 (f76_17 x1 x3 x11 v115 (.bool true) J26 Q w127))
def f76_18 (x3 : Value) (Q : PQ) (w : World) : Prop :=
 Q x3 w
def f76_14 (x3 x11 x1 : Value) (J26 : Value → Value → World → Prop) (Q : PQ) (w : World) : Prop :=
 kfld 1 x1 fun v102 =>
 kld v102 w fun v103 =>
 klen v103 fun v104 =>
 kint .i64 .lss x11 v104 fun v106 =>
 kB v106 fun b145 => kIf b145
 (f76_15 x1 x3 x11 J26 Q w)
 (f76_18 x3 Q w)
def f76_13 (x1 x3 : Value) (Q : PQ) (w : World) : Prop :=
 kL fun (I : Value → Value → World → Prop) (μ : Value → Value → World → Nat) => I x3 (.int .i64 0) w ∧ ∀ (x3 x11 : Value) (w1 : World), I x3 x11 w1 →
 f76_14 x3 x11 x1 (fun y3 y11 w2 => I y3 y11 w2 ∧ μ y3 y11 w2 < μ x3 x11 w1) Q w1
def f76_12 (x1 x3 : Value) (Q : PQ) (w : World) : Prop :=
 kfld 1 x1 fun v92 =>
 kld v92 w fun v93 =>
 klen v93 fun v94 =>
 kint .i64 .gtr v94 (.int .i64 8) fun v96 =>
 kB v96 fun b146 => kIf b146
 (kbld [(.string ⟨#[]⟩), .int .i64 0] [(0, 1, (.string ⟨#[114, 101, 115, 111, 117, 114, 99, 101, 115]⟩)), (1, 1, (.int .i64 4))] fun v97 =>
 kbldS [(.string ⟨#[]⟩), .int .i64 0] 1 [(0, 2, v97)] 228 w fun v98 w99 =>
 ksem Tryz.prog (Builtin.append_ #[154, 154] 0 #[x3, v98]) w99 fun v100 w101 =>
 f76_13 x1 v100 Q w101)
 (f76_13 x1 x3 Q w)
def f76_1 (x3 x4 x1 : Value) (J5 : Value → Value → World → Prop) (Q : PQ) (w : World) : Prop :=
 kfld 0 x1 fun v15 =>
 kld v15 w fun v16 =>
 klen v16 fun v17 =>
 kint .i64 .lss x4 v17 fun v19 =>
 kB v19 fun b147 => kIf b147
 (f76_2 x1 x3 x4 J5 Q w)
 (f76_12 x1 x3 Q w)
def f76_0 (x1 x3 : Value) (Q : PQ) (w : World) : Prop :=
 kL fun (I : Value → Value → World → Prop) (μ : Value → Value → World → Nat) => I x3 (.int .i64 0) w ∧ ∀ (x3 x4 : Value) (w1 : World), I x3 x4 w1 →
 f76_1 x3 x4 x1 (fun y3 y4 w2 => I y3 y4 w2 ∧ μ y3 y4 w2 < μ x3 x4 w1) Q w1
def f76 (x0 : Value) (Q : PQ) (w : World) : Prop :=
 knew (Value.cells x0) 78 w fun v1 w2 =>
 kbldS [(.string ⟨#[]⟩), .int .i64 0] 0 [] 228 w2 fun v3 w4 =>
 kfld 0 v1 fun v5 =>
 kld v5 w4 fun v6 =>
 klen v6 fun v7 =>
 kint .i64 .gtr v7 (.int .i64 16) fun v9 =>
 kB v9 fun b148 => kIf b148
 (kbld [(.string ⟨#[]⟩), .int .i64 0] [(0, 1, (.string ⟨#[99, 111, 109, 112, 111, 110, 101, 110, 116, 115]⟩)), (1, 1, (.int .i64 4))] fun v10 =>
 kbldS [(.string ⟨#[]⟩), .int .i64 0] 1 [(0, 2, v10)] 228 w4 fun v11 w12 =>
 ksem Tryz.prog (Builtin.append_ #[154, 154] 0 #[v3, v11]) w12 fun v13 w14 =>
 f76_0 v1 v13 Q w14)
 (f76_0 v1 v3 Q w4)
theorem f76_ok {x0 : Value} {Q : PQ} {w : World} (h : f76 x0 Q w) : Meets Tryz.prog 76 #[x0] w Q :=
 sound' (c := Tryz.f76.body.get rfl) [(5, [3, 4]), (18, [9, 10]), (26, [3, 11])] Tryz.func76 rfl rfl (args := [x0]) rfl (by kernel_rfl) h
def f116_0 (x0 : Value) (Q : PQ) (w : World) : Prop :=
 kint .i64 .quo x0 (.int .i64 10) fun v4 =>
 kcall Tryz.prog 116 #[v4] w.drew fun v5 w6 =>
 kint .i64 .rem x0 (.int .i64 10) fun v7 =>
 kint .i64 .rem x0 (.int .i64 10) fun v8 =>
 kint .i64 .add v8 (.int .i64 1) fun v9 =>
 ksl (some .string) none (.string ⟨#[48, 49, 50, 51, 52, 53, 54, 55, 56, 57]⟩) (some v7) (some v9) fun v10 =>
 kstr .add v5 v10 fun v11 =>
 Q v11 w6
def f116 (x0 : Value) (Q : PQ) (w : World) : Prop :=
 kint .i64 .lss x0 (.int .i64 10) fun v1 =>
 kB v1 fun b12 => kIf b12
 (kint .i64 .add x0 (.int .i64 1) fun v2 =>
 ksl (some .string) none (.string ⟨#[48, 49, 50, 51, 52, 53, 54, 55, 56, 57]⟩) (some x0) (some v2) fun v3 =>
 Q v3 w)
 (f116_0 x0 Q w)
theorem f116_ok {x0 : Value} {Q : PQ} {w : World} (h : f116 x0 Q w) : Meets Tryz.prog 116 #[x0] w Q :=
 sound' (c := Tryz.f116.body.get rfl) [] Tryz.func116 rfl rfl (args := [x0]) rfl (by kernel_rfl) h
def f118_2 (x1 x2 x6 : Value) (J2 : Value → World → Prop) (Q : PQ) (w : World) : Prop :=
 kint .i64 .add x6 (.int .i64 1) fun v14 =>
 J2 v14 w
def f118_1 (x1 x2 x6 : Value) (J2 : Value → World → Prop) (Q : PQ) (w : World) : Prop :=
 kfld 0 x2 fun v8 =>
 kld v8 w fun v9 =>
 kix (some (.slice 147)) (some 7) v9 x6 fun v10 =>
 kfld 0 v10 fun v11 =>
 kld v11 w fun v12 =>
 kstr .eql v12 x1 fun v13 =>
 kB v13 fun b15 => kIf b15
 (Q (.tuple #[x6, .bool true]) w)
 (f118_2 x1 x2 x6 J2 Q w)
def f118_3 (Q : PQ) (w : World) : Prop :=
 Q (.tuple #[.int .i64 0, .bool false]) w
def f118_0 (x6 x1 x2 : Value) (J2 : Value → World → Prop) (Q : PQ) (w : World) : Prop :=
 kfld 0 x2 fun v3 =>
 kld v3 w fun v4 =>
 klen v4 fun v5 =>
 kint .i64 .lss x6 v5 fun v7 =>
 kB v7 fun b16 => kIf b16
 (f118_1 x1 x2 x6 J2 Q w)
 (f118_3 Q w)
def f118 (x0 x1 : Value) (Q : PQ) (w : World) : Prop :=
 knew (Value.cells x0) 78 w fun v1 w2 =>
 kL fun (I : Value → World → Prop) (μ : Value → World → Nat) => I (.int .i64 0) w2 ∧ ∀ (x6 : Value) (w1 : World), I x6 w1 →
 f118_0 x6 x1 v1 (fun y6 w2 => I y6 w2 ∧ μ y6 w2 < μ x6 w1) Q w1
theorem f118_ok {x0 x1 : Value} {Q : PQ} {w : World} (h : f118 x0 x1 Q w) : Meets Tryz.prog 118 #[x0, x1] w Q :=
 sound' (c := Tryz.f118.body.get rfl) [(2, [6])] Tryz.func118 rfl rfl (args := [x0, x1]) rfl (by kernel_rfl) h
def f117_5 (x0 x3 : Value) (J4 : Value → World → Prop) (Q : PQ) (w : World) : Prop :=
 kint .i64 .add x3 (.int .i64 1) fun v16 =>
 J4 v16 w
def f117_4 (x0 x3 x27 : Value) (J4 : Value → World → Prop) (Q : PQ) (w : World) : Prop :=
 kB x27 fun b17 => kIf b17
 (Q (.bool false) w)
 (f117_5 x0 x3 J4 Q w)
def f117_3 (x0 x3 : Value) (J4 : Value → World → Prop) (Q : PQ) (w : World) : Prop :=
 kiv Tryz.prog (some .string) x0 x3 fun v11 =>
 kint .u8 .lss v11 (.int .u8 97) fun v12 =>
 kB v12 fun b13 => kIf (!b13)
 (kiv Tryz.prog (some .string) x0 x3 fun v14 =>
 kint .u8 .gtr v14 (.int .u8 122) fun v15 =>
 f117_4 x0 x3 v15 J4 Q w)
 (f117_4 x0 x3 (.bool true) J4 Q w)
def f117_6 (Q : PQ) (w : World) : Prop :=
 Q (.bool true) w
def f117_2 (x3 x0 : Value) (J4 : Value → World → Prop) (Q : PQ) (w : World) : Prop :=
 klenStr x0 fun v8 =>
 kint .i64 .lss x3 v8 fun v10 =>
 kB v10 fun b18 => kIf b18
 (f117_3 x0 x3 J4 Q w)
 (f117_6 Q w)
def f117_1 (x0 : Value) (Q : PQ) (w : World) : Prop :=
 kL fun (I : Value → World → Prop) (μ : Value → World → Nat) => I (.int .i64 0) w ∧ ∀ (x3 : Value) (w1 : World), I x3 w1 →
 f117_2 x3 x0 (fun y3 w2 => I y3 w2 ∧ μ y3 w2 < μ x3 w1) Q w1
def f117_0 (x0 x11 : Value) (Q : PQ) (w : World) : Prop :=
 kB x11 fun b19 => kIf b19
 (Q (.bool false) w)
 (f117_1 x0 Q w)
def f117 (x0 : Value) (Q : PQ) (w : World) : Prop :=
 klenStr x0 fun v1 =>
 kint .i64 .lss v1 (.int .i64 1) fun v3 =>
 kB v3 fun b4 => kIf (!b4)
 (klenStr x0 fun v5 =>
 kint .i64 .gtr v5 (.int .i64 8) fun v7 =>
 f117_0 x0 v7 Q w)
 (f117_0 x0 (.bool true) Q w)
theorem f117_ok {x0 : Value} {Q : PQ} {w : World} (h : f117 x0 Q w) : Meets Tryz.prog 117 #[x0] w Q :=
 sound' (c := Tryz.f117.body.get rfl) [(4, [3])] Tryz.func117 rfl rfl (args := [x0]) rfl (by kernel_rfl) h
def f119_2 (x1 x2 x6 : Value) (J2 : Value → World → Prop) (Q : PQ) (w : World) : Prop :=
 kint .i64 .add x6 (.int .i64 1) fun v14 =>
 J2 v14 w
def f119_1 (x1 x2 x6 : Value) (J2 : Value → World → Prop) (Q : PQ) (w : World) : Prop :=
 kfld 1 x2 fun v8 =>
 kld v8 w fun v9 =>
 kix (some (.slice 150)) (some 2) v9 x6 fun v10 =>
 kfld 0 v10 fun v11 =>
 kld v11 w fun v12 =>
 kstr .eql v12 x1 fun v13 =>
 kB v13 fun b15 => kIf b15
 (Q (.tuple #[x6, .bool true]) w)
 (f119_2 x1 x2 x6 J2 Q w)
def f119_3 (Q : PQ) (w : World) : Prop :=
 Q (.tuple #[.int .i64 0, .bool false]) w
def f119_0 (x6 x1 x2 : Value) (J2 : Value → World → Prop) (Q : PQ) (w : World) : Prop :=
 kfld 1 x2 fun v3 =>
 kld v3 w fun v4 =>
 klen v4 fun v5 =>
 kint .i64 .lss x6 v5 fun v7 =>
 kB v7 fun b16 => kIf b16
 (f119_1 x1 x2 x6 J2 Q w)
 (f119_3 Q w)
def f119 (x0 x1 : Value) (Q : PQ) (w : World) : Prop :=
 knew (Value.cells x0) 78 w fun v1 w2 =>
 kL fun (I : Value → World → Prop) (μ : Value → World → Nat) => I (.int .i64 0) w2 ∧ ∀ (x6 : Value) (w1 : World), I x6 w1 →
 f119_0 x6 x1 v1 (fun y6 w2 => I y6 w2 ∧ μ y6 w2 < μ x6 w1) Q w1
theorem f119_ok {x0 x1 : Value} {Q : PQ} {w : World} (h : f119 x0 x1 Q w) : Meets Tryz.prog 119 #[x0, x1] w Q :=
 sound' (c := Tryz.f119.body.get rfl) [(2, [6])] Tryz.func119 rfl rfl (args := [x0, x1]) rfl (by kernel_rfl) h
def f36_1 (x1 x2 : Value) (Q : PQ) (w : World) : Prop :=
 kldN 2 x2 w fun v13 =>
 kbld [.slice none 0 0, .slice none 0 0, .int .i64 0, .slice none 0 0, .int .i64 0, .int .i64 0] [(0, 2, v13), (2, 1, x1)] fun v14 =>
 knew (Value.cells v14) 86 w fun v15 w16 =>
 Q v15 w16
def f36_0 (x1 x2 x16 : Value) (Q : PQ) (w : World) : Prop :=
 kB x16 fun b17 => kIf b17
 (Q (.pointer none) w)
 (f36_1 x1 x2 Q w)
def f36 (x0 x1 : Value) (Q : PQ) (w : World) : Prop :=
 knew (Value.cells x0) 78 w fun v1 w2 =>
 kldN 2 v1 w2 fun v3 =>
 kcall Tryz.prog 76 #[v3] w2 fun v4 w5 =>
 klen v4 fun v6 =>
 kint .i64 .gtr v6 (.int .i64 0) fun v8 =>
 kB v8 fun b9 => kIf (!b9)
 (kint .i64 .lss x1 (.int .i64 0) fun v10 =>
 kB v10 fun b11 => kIf (!b11)
 (kint .i64 .gtr x1 (.int .i64 64) fun v12 =>
 f36_0 x1 v1 v12 Q w5)
 (f36_0 x1 v1 (.bool true) Q w5))
 (f36_0 x1 v1 (.bool true) Q w5)
theorem f36_ok {x0 x1 : Value} {Q : PQ} {w : World} (h : f36 x0 x1 Q w) : Meets Tryz.prog 36 #[x0, x1] w Q :=
 sound' (c := Tryz.f36.body.get rfl) [] Tryz.func36 rfl rfl (args := [x0, x1]) rfl (by kernel_rfl) h
end
section
attribute [local irreducible] kO kB kStr kInt kN kG kIf kfld kld kldN kst knew kmap kbld kbldS kext kcnv klenStr klen kcap kprt kprtN kbool kint kstr keq kun ksl kix kiv kta kmk kmm ksem ksemU kextf kcallV kcallM kcall kL
theorem refName_spec {s : ByteArray} (h : NameOk s) (w : World) : Meets Tryz.prog 117 #[.string s] w fun v w' => v = .bool true ∧ w' = w := by
 obtain ⟨h1, h8, hall⟩ := h
 have hsz : s.data.toList.length = s.size := rfl
 refine f117_ok ?_
 unfold f117
 refine klenStr_at ?_
 refine lss_at ?_
 refine kB_at ?_
 refine kIf_ndec (fun _ => ?_) (fun h => absurd h (by omega))
 refine klenStr_at ?_
 refine gtr_at ?_
 rw [decF (by omega)]
 unfold f117_0
 refine kB_at ?_
 refine kIf_F rfl ?_
 unfold f117_1
 refine kL1_of s.size (fun j x wr => x = .int .i64 j ∧ wr = w) ⟨lI1_0 ⟨rfl, rfl⟩, fun x wr hx => ?_⟩
 obtain ⟨j, hj, ⟨rfl, rfl⟩, hJ⟩ := lI1_step hx
 unfold f117_2
 refine klenStr_at ?_
 refine lss_at ?_
 refine kB_at ?_
 refine kIf_dec (fun hlt => ?_) (fun hge => ?_)
 ·have hlt : j < s.size := by omega
  have hjl : j < s.data.toList.length := by omega
  have hb := hall _ (List.getElem_mem hjl)
  have hel : s[j]? = some (s.data.toList[j]) := by
   rw [getElem?_pos s j hlt]
   rfl
  unfold f117_3
  rw [kiv_string]
  refine kG_of (by omega) ?_
  rw [Int.toNat_natCast, hel]
  refine kO_at ?_
  generalize s.data.toList[j] = x at *
  refine lss_at ?_
  refine kB_at ?_
  refine kIf_ndec (fun _ => ?_) (fun h => absurd h (by omega))
  rw [kiv_string]
  refine kG_of (by omega) ?_
  rw [Int.toNat_natCast, hel]
  refine kO_at ?_
  refine gtr_at ?_
  rw [decF (by omega)]
  unfold f117_4
  refine kB_at ?_
  refine kIf_F rfl ?_
  unfold f117_5
  refine add_at (by omega) (by omega) ?_
  rw [cast_succ]
  exact hJ _ _ hlt ⟨rfl, rfl⟩
 ·exact ⟨rfl, rfl⟩
theorem digits_spec {n : Nat} (hn : n < 10) (w : World) : Meets Tryz.prog 116 #[.int .i64 n] w fun v w' => (∃ s : ByteArray, v = .string s ∧ s.size ≤ 10) ∧ w' = w := by
 refine f116_ok ?_
 unfold f116
 refine lss_at ?_
 refine kB_at ?_
 refine kIf_T (decT (by omega)) ?_
 refine add_at (by omega) (by omega) ?_
 rw [ksl_string rfl rfl]
 refine kG_of ?_ ?_
 ·simp only [loV_int, hiV_int]
  refine ⟨by omega, by omega, ?_⟩
  show (n : Int) + 1 ≤ 10
  omega
 refine ⟨⟨_, rfl, ?_⟩, rfl⟩
 rw [ByteArray.size_extract]
 show min _ 10 - _ ≤ 10
 omega
section
variable {w : World} {a : Option Addr} {L : List Comp} {cp : Nat} {ra : Option Addr} {R : List ResM} {rc : Nat}
theorem refFind (hs : SlIs w a L.length 7 (L.flatMap Comp.cells)) (hL : L.length ≤ 16) (nm : ByteArray) :
  Meets Tryz.prog 118 #[scV a L.length cp (.slice ra R.length rc), .string nm] w fun v w' => (∃ k b, v = .tuple #[.int .i64 k, .bool b] ∧ (b = true → ∃ (i : Nat) (hi : i < L.length), k = (i : Int) ∧ (L[i]).name = nm ∧ ∀ j (hj : j < i), (L[j]'(by omega)).name ≠ nm)) ∧ Same w w' := by
 rw [scV]
 refine f118_ok ?_
 unfold f118
 refine knew_of fun w2 h2 hs2 hb2 => ?_
 have hb2 : blk w2 w.heap.size = some (.cells #[.slice a L.length cp, .slice ra R.length rc] 78) := hb2
 have hs' := hs.same h2
 refine kL1_of L.length (fun j x wr => x = .int .i64 j ∧ wr = w2 ∧ ∀ i (hi : i < j) (hL : i < L.length), (L[i]).name ≠ nm) ⟨lI1_0 ⟨rfl, rfl, fun i hi => absurd hi (Nat.not_lt_zero i)⟩, fun x wr hx => ?_⟩
 obtain ⟨j, hj, ⟨rfl, rfl, hno⟩, hJ⟩ := lI1_step hx
 unfold f118_0
 refine kfld_of ?_
 refine kld_of (v := .slice a L.length cp) hb2 rfl ?_
 refine klen_at ?_
 refine lss_at ?_
 refine kB_at ?_
 refine kIf_dec (fun hlt => ?_) (fun hge => ?_)
 ·have hlt : j < L.length := by omega
  unfold f118_1
  refine kfld_of ?_
  refine kld_of (v := .slice a L.length cp) hb2 rfl ?_
  refine kixfld_of (F := Comp.cells) (sz := 7) (fun _ => rfl) (j := 0) hs' hlt rfl rfl ?_
  refine kstr_eql_at ?_
  refine kB_at ?_
  refine kIf_dec (fun he => ?_) (fun he => ?_)
  ·exact ⟨⟨_, true, rfl, fun _ => ⟨j, hlt, rfl, he, fun i hi => hno i hi (by omega)⟩⟩, h2⟩
  ·unfold f118_2
   refine add_at (by omega) (by omega) ?_
   rw [cast_succ]
   refine hJ _ _ hlt ⟨rfl, rfl, fun i hi hL => ?_⟩
   by_cases e : i = j
   ·subst e; exact he
   ·exact hno i (by omega) hL
 ·exact ⟨⟨_, false, rfl, fun h => Bool.noConfusion h⟩, h2⟩
theorem refRes (hr : SlIs w ra R.length 2 (R.flatMap ResM.cells)) (hR : R.length ≤ 8) (nm : ByteArray) :
  Meets Tryz.prog 119 #[scV a L.length cp (.slice ra R.length rc), .string nm] w fun v w' => (∃ k b, v = .tuple #[.int .i64 k, .bool b] ∧ (b = true → ∃ (i : Nat) (hi : i < R.length), k = (i : Int) ∧ (R[i]).name = nm)) ∧ Same w w' := by
 rw [scV]
 refine f119_ok ?_
 unfold f119
 refine knew_of fun w2 h2 hs2 hb2 => ?_
 have hb2 : blk w2 w.heap.size = some (.cells #[.slice a L.length cp, .slice ra R.length rc] 78) := hb2
 have hs' := hr.same h2
 refine kL1_of R.length (fun j x wr => x = .int .i64 j ∧ wr = w2) ⟨lI1_0 ⟨rfl, rfl⟩, fun x wr hx => ?_⟩
 obtain ⟨j, hj, ⟨rfl, rfl⟩, hJ⟩ := lI1_step hx
 unfold f119_0
 refine kfld_of ?_
 refine kld_of (v := .slice ra R.length rc) hb2 rfl ?_
 refine klen_at ?_
 refine lss_at ?_
 refine kB_at ?_
 refine kIf_dec (fun hlt => ?_) (fun hge => ?_)
 ·have hlt : j < R.length := by omega
  unfold f119_1
  refine kfld_of ?_
  refine kld_of (v := .slice ra R.length rc) hb2 rfl ?_
  refine kixfld_of (F := ResM.cells) (sz := 2) (fun _ => rfl) (j := 0) hs' hlt rfl rfl ?_
  refine kstr_eql_at ?_
  refine kB_at ?_
  refine kIf_dec (fun he => ?_) (fun he => ?_)
  ·exact ⟨⟨_, true, rfl, fun _ => ⟨j, hlt, rfl, he⟩⟩, h2⟩
  ·unfold f119_2
   refine add_at (by omega) (by omega) ?_
   rw [cast_succ]
   exact hJ _ _ hlt ⟨rfl, rfl⟩
 ·exact ⟨⟨_, false, rfl, fun h => Bool.noConfusion h⟩, h2⟩
theorem cell_d {q : Comp} (d : Nat) (hq : q.width = (d : Int)) (h1 : 1 ≤ d) (hc : (q.width ≤ 1 → q.d1 = 0) ∧ (q.width ≤ 2 → q.d2 = 0) ∧ (q.width ≤ 3 → q.d3 = 0)) {i : Nat} (hi : d ≤ i) (h4 : i < 4) : nth q.cells (3 + i) = some (.int .i64 0) := by
 obtain ⟨c1, c2, c3⟩ := hc
 have hi' : i = 1 ∨ i = 2 ∨ i = 3 := by omega
 rcases hi' with rfl | rfl | rfl
 ·rw [← c1 (by omega)]; rfl
 ·rw [← c2 (by omega)]; rfl
 ·rw [← c3 (by omega)]; rfl
theorem refCheck (hs : SlIs w a L.length 7 (L.flatMap Comp.cells)) (hG : GoodSc L) (hL10 : L.length ≤ 10) (hr : SlIs w ra R.length 2 (R.flatMap ResM.cells)) (hGR : GoodR L R) :
  Meets Tryz.prog 76 #[scV a L.length cp (.slice ra R.length rc)] w fun v w' => (∃ b, v = .slice (some b) 0 0) ∧ Same w w' := by
 have hR := hGR.len
 rw [scV]
 refine f76_ok ?_
 unfold f76
 refine knew_of fun w2 h2 hs2 hb2 => ?_
 have hb2 : blk w2 w.heap.size = some (.cells #[.slice a L.length cp, .slice ra R.length rc] 78) := hb2
 refine kbldS_of (cs := []) rfl fun w4 h4 hs4 hb4 => ?_
 have m4 := h2.trans h4
 have hb4' := h4.get hb2 (fun h => h)
 generalize hv3 : (Value.slice (some ⟨w2.heap.size, 0, none⟩) 0 0) = v3
 have hpost : ∃ b, v3 = .slice (some b) 0 0 := ⟨_, hv3.symm⟩
 refine kfld_of ?_
 refine kld_of (v := .slice a L.length cp) hb4' rfl ?_
 refine klen_at ?_
 refine gtr_at ?_
 refine kB_at ?_
 refine kIf_F (decF (by omega)) ?_
 unfold f76_0
 refine kL2_of L.length (fun j x y wr => x = v3 ∧ y = .int .i64 j ∧ Same w4 wr) ⟨lI2_0 ⟨rfl, rfl, Mod.refl _ _⟩, fun x y wr hx => ?_⟩
 obtain ⟨j, hj, ⟨rfl, rfl, mr⟩, hJ⟩ := lI2_step hx
 have hbr := mr.get hb4' (fun h => h)
 have hsr := hs.same (m4.trans mr)
 have hrr := hr.same (m4.trans mr)
 unfold f76_1
 refine kfld_of ?_
 refine kld_of (v := .slice a L.length cp) hbr rfl ?_
 refine klen_at ?_
 refine lss_at ?_
 refine kB_at ?_
 refine kIf_dec (fun hlt => ?_) (fun hge => ?_)
 ·have hlt : j < L.length := by omega
  obtain ⟨d, hd, hd1, hd4⟩ := hG.wide _ (List.getElem_mem hlt)
  have hcl := hG.clean _ (List.getElem_mem hlt)
  have hnm := hG.names _ (List.getElem_mem hlt)
  unfold f76_2
  refine kfld_of ?_
  refine kld_of (v := .slice a L.length cp) hbr rfl ?_
  refine kixldN_of (F := Comp.cells) (sz := 7) (fun _ => rfl) (by omega) hsr hlt rfl ?_
  refine knew_of fun w24 h24 hs24 hb24 => ?_
  refine kst_of (vs := (L[j]).cells) hb24 rfl rfl rfl (by simp) (by simp [Comp.cells]) fun w25 h25 hs25 hb25 => ?_
  have hb25 : blk w25 wr.heap.size = some (.cells (L[j]).cells.toArray 147) := hb25
  have m25 : Same wr w25 := h24.trans' (h25.mono fun k _ e => .inr (by omega))
  refine kcall_of (digits_spec (n := j) (by omega) w25) ?_
  rintro v w28 ⟨⟨s, rfl, hsz⟩, rfl⟩
  rw [kstr_add]
  refine kG_of (by show 11 + s.size ≤ _; omega) ?_
  rw [kstr_add]
  refine kG_of (by rw [ByteArray.size_append]; show 11 + s.size + 1 ≤ _; omega) ?_
  refine kfld_of ?_
  refine kld_of (v := .string (L[j]).name) hb25 rfl ?_
  refine kcall_of (refName_spec hnm w28) ?_
  rintro v w34 ⟨rfl, rfl⟩
  refine not_at ?_
  refine kB_at ?_
  refine kIf_F rfl ?_
  refine kldN_at (m25.get hbr (fun h => h)) rfl (by omega) ?_
  refine kfld_of ?_
  refine kld_of (v := .string (L[j]).name) hb25 rfl ?_
  have hfi := refFind (cp := cp) (rc := rc) (hsr.same m25) hG.len (R := R) (ra := ra) (L[j]).name
  rw [scV] at hfi
  refine kcall_of hfi ?_
  rintro v w79 ⟨⟨k, b, rfl, hfk⟩, h79⟩
  refine kext_at rfl ?_
  refine kext_at rfl ?_
  have m79 := m25.trans h79
  have hb79 := h79.get hb25 (fun h => h)
  have wide : ∀ (at6 : Value) (J : Value → Value → World → Prop) (Q : PQ), (∀ w', Same wr w' → J x (.int .i64 ((j + 1 : Nat) : Int)) w') → f76_3 (.pointer (some ⟨w.heap.size, 0, none⟩)) x (.int .i64 j) (.pointer (some ⟨wr.heap.size, 0, none⟩)) at6 J Q w79 := by
   intro at6 J Q hQ
   have hw1 : nth (L[j]).cells.toArray.toList 1 = some (.int .i64 (d : Int)) := by rw [← hd]; rfl
   unfold f76_3
   refine kfld_of ?_
   refine kld_at hb79 hw1 ?_
   refine lss_at ?_
   refine kB_at ?_
   refine kIf_ndec (fun _ => ?_) (fun h => absurd h (by omega))
   refine kfld_of ?_
   refine kld_at hb79 hw1 ?_
   refine gtr_at ?_
   rw [decF (by omega)]
   unfold f76_4
   refine kB_at ?_
   refine kIf_F rfl ?_
   unfold f76_6
   refine kfld_of ?_
   refine kld_at hb79 hw1 ?_
   refine kL2_of (4 - d) (fun i x' y wr' => x' = .bool true ∧ y = .int .i64 ((d + i : Nat) : Int) ∧ wr' = w79) ⟨lI2_0 ⟨rfl, rfl, rfl⟩, fun x' y wr' hx => ?_⟩
   obtain ⟨i, hi, ⟨rfl, rfl, rfl⟩, hJ'⟩ := lI2_step hx
   unfold f76_7
   refine lss_at ?_
   refine kB_at ?_
   refine kIf_dec (fun hlt' => ?_) (fun hge' => ?_)
   ·have hc : nth (L[j]).cells.toArray.toList (0 + 3 + (d + i) * 1) = some (.int .i64 0) := by
     rw [Nat.zero_add, Nat.mul_one]
     exact cell_d d hd hd1 hcl (by omega) (by omega)
    unfold f76_8
    refine kB_at ?_
    refine kIf_T rfl ?_
    refine kfld_of ?_
    rw [kix_array]
    refine kG_of (by omega) ?_
    rw [add_mk]
    refine kld_at (o := 0 + 3 + (d + i) * 1) hb79 hc ?_
    refine eql_at ?_
    unfold f76_9
    refine add_at (by omega) (by omega) ?_
    rw [cast_succ]
    exact hJ' _ _ _ (by omega) ⟨rfl, rfl, rfl⟩
   ·unfold f76_10
    refine not_at ?_
    refine kB_at ?_
    refine kIf_F rfl ?_
    unfold f76_5
    refine add_at (by omega) (by omega) ?_
    rw [cast_succ]
    exact hQ _ m79
  have fin : ∀ w', Same wr w' → lI L.length (inv2 fun j x_1 y wr => x_1 = x ∧ y = .int .i64 j ∧ Same w4 wr) (x, .int .i64 ((j + 1 : Nat) : Int), w') ∧ lM L.length (inv2 fun j x_1 y wr => x_1 = x ∧ y = .int .i64 j ∧ Same w4 wr) (x, .int .i64 ((j + 1 : Nat) : Int), w') < lM L.length (inv2 fun j x_1 y wr => x_1 = x ∧ y = .int .i64 j ∧ Same w4 wr) (x, .int .i64 j, wr) :=
   fun w' m => hJ _ _ _ hlt ⟨rfl, rfl, mr.trans m⟩
  refine kB_at ?_
  refine kIf_of (fun hb => ?_) (fun hb => ?_)
  ·obtain ⟨i, hi, rfl, hni, hfst⟩ := hfk hb
   have hij : i = j := hG.apart i j hi hlt hni
   subst hij
   refine lss_at ?_
   rw [decF (by omega)]
   unfold f76_11
   refine kB_at ?_
   refine kIf_F rfl ?_
   exact wide _ _ _ fin
  ·unfold f76_11
   refine kB_at ?_
   refine kIf_F rfl ?_
   exact wide _ _ _ fin
 ·unfold f76_12
  refine kfld_of ?_
  refine kld_of (v := .slice ra R.length rc) hbr rfl ?_
  refine klen_at ?_
  refine gtr_at ?_
  refine kB_at ?_
  refine kIf_F (decF (by omega)) ?_
  unfold f76_13
  clear hJ hx
  refine kL2_of R.length (fun j x' y wr' => x' = x ∧ y = .int .i64 j ∧ Same wr wr') ⟨lI2_0 ⟨rfl, rfl, Mod.refl _ _⟩, fun x' y ws hx => ?_⟩
  obtain ⟨j, hj, ⟨rfl, rfl, ms⟩, hJ⟩ := lI2_step hx
  have hbs := ms.get hbr (fun h => h)
  have hss := hsr.same ms
  have hrs := hrr.same ms
  have mws := (m4.trans mr).trans ms
  unfold f76_14
  refine kfld_of ?_
  refine kld_of (v := .slice ra R.length rc) hbs rfl ?_
  refine klen_at ?_
  refine lss_at ?_
  refine kB_at ?_
  refine kIf_dec (fun hlt => ?_) (fun hge => ?_)
  ·have hlt : j < R.length := by omega
   have hnm := hGR.names _ (List.getElem_mem hlt)
   unfold f76_15
   refine kfld_of ?_
   refine kld_of (v := .slice ra R.length rc) hbs rfl ?_
   refine kixfld_of (F := ResM.cells) (sz := 2) (fun _ => rfl) (j := 0) hrs hlt rfl rfl ?_
   refine kcall_of (digits_spec (n := j) (by omega) ws) ?_
   rintro v w28 ⟨⟨s, rfl, hsz⟩, rfl⟩
   rw [kstr_add]
   refine kG_of (by show 10 + s.size ≤ _; omega) ?_
   rw [kstr_add]
   refine kG_of (by rw [ByteArray.size_append]; show 10 + s.size + 5 ≤ _; omega) ?_
   refine kldN_at hbs rfl (by omega) ?_
   have hfi := refFind (cp := cp) (rc := rc) hss hG.len (R := R) (ra := ra) (R[j]).name
   rw [scV] at hfi
   refine kcall_of hfi ?_
   rintro v w79 ⟨⟨k, b, rfl, hfk⟩, h79⟩
   refine kext_at rfl ?_
   refine kext_at rfl ?_
   refine kldN_at (h79.get hbs (fun h => h)) rfl (by omega) ?_
   have hfr := refRes (cp := cp) (rc := rc) (a := a) (L := L) (hrs.same h79) hR (R[j]).name
   rw [scV] at hfr
   refine kcall_of hfr ?_
   rintro v w83 ⟨⟨k2, b2, rfl, hfk2⟩, h83⟩
   refine kext_at rfl ?_
   refine kext_at rfl ?_
   refine kcall_of (refName_spec hnm w83) ?_
   rintro v w84 ⟨rfl, rfl⟩
   refine not_at ?_
   refine kB_at ?_
   refine kIf_F rfl ?_
   have hb : b = false := by
    cases hb : b with
    | false => rfl
    | true =>
     obtain ⟨i, hi, _, hni, _⟩ := hfk hb
     exact absurd hni (hGR.other _ (List.getElem_mem hlt) _ (List.getElem_mem hi))
   subst hb
   refine kB_at ?_
   refine kIf_T rfl ?_
   have fin : ∀ Q : PQ, ∀ J : Value → Value → World → Prop, J x' (.int .i64 ((j + 1 : Nat) : Int)) w84 → ∀ nm, f76_17 (.pointer (some ⟨w.heap.size, 0, none⟩)) x' (.int .i64 j) nm (.bool false) J Q w84 := by
    intro Q J h nm
    unfold f76_17
    refine kB_at ?_
    refine kIf_F rfl ?_
    unfold f76_16
    refine add_at (by omega) (by omega) ?_
    rw [cast_succ]
    exact h
   have hnx := hJ _ _ w84 hlt ⟨rfl, rfl, ms.trans (h79.trans h83)⟩
   refine kB_at ?_
   refine kIf_of (fun hb => ?_) (fun hb => ?_)
   ·obtain ⟨i, hi, rfl, hni⟩ := hfk2 hb
    have hij : i = j := hGR.apart i j hi hlt hni
    subst hij
    refine lss_at ?_
    rw [decF (by omega)]
    exact fin _ _ hnx _
   ·exact fin _ _ hnx _
  ·exact ⟨hpost, mws⟩
end
end
section
attribute [local irreducible] kO kB kStr kInt kN kG kIf kfld kld kldN kst knew kmap kbld kbldS kext kcnv klenStr klen kcap kprt kprtN kbool kint kstr keq kun ksl kix kiv kta kmk kmm ksem ksemU kextf kcallV kcallM kcall kL
theorem apPart2 : appT Tryz.prog 44 6 48 = true := by kernel_rfl
theorem slPart2_is : ∃ e, Tryz.prog.underlying 44 = some (.slice e) := slT_of (by kernel_rfl)
structure R14 where
 id : Int
 a : Option Addr
 n : Nat
 c : Nat
def R14.cells (r : R14) : List Value := [.int .i64 r.id, .slice r.a r.n r.c]
structure V14 (L : List Comp) (n bv : Nat) (U : Nat → Prop) (w : World) : Prop where
 ex : ∃ a cp rv la, ∃ ll : List R14, ∃ lc, ∃ mo fr nx sd : Int, ∃ gs, blk w bv = some (.cells #[.slice a L.length cp, rv, .int .i64 mo, .slice la ll.length lc, .int .i64 fr, .int .i64 nx, .int .i64 sd, gs, .slice none 0 0, .bool false] 81) ∧
  SlIs w a L.length 7 (L.flatMap Comp.cells) ∧ SlIs w la ll.length 2 (ll.flatMap R14.cells) ∧ ll.length ≤ n ∧ rv.cells = #[rv] ∧ (∀ k f, a = some ⟨k, f, none⟩ → U k ∧ k ≠ bv) ∧ ∀ k f, la = some ⟨k, f, none⟩ → U k ∧ k ≠ bv
 own : U bv
section
variable {L : List Comp} {n bv : Nat} {U : Nat → Prop} {w w' : World}
theorem V14.mod {fp : Nat → Prop} (h : V14 L n bv U w) (m : Mod fp w w') (hf : ∀ k, U k → ¬ fp k) : V14 L n bv U w' := by
 obtain ⟨⟨a, cp, rv, la, ll, lc, mo, fr, nx, sd, gs, h1, h2, h3, h4, h5, h6, h7⟩, h8⟩ := h
 exact ⟨⟨a, cp, rv, la, ll, lc, mo, fr, nx, sd, gs, m.get h1 (hf _ h8), h2.mod m (fun k f e => hf k (h6 k f e).1), h3.mod m (fun k f e => hf k (h7 k f e).1), h4, h5, h6, h7⟩, h8⟩
theorem V14.same (h : V14 L n bv U w) (m : Same w w') : V14 L n bv U w' := h.mod m fun _ _ h => h
theorem V14.weak {U' : Nat → Prop} {n' : Nat} (h : V14 L n bv U w) (hs : ∀ k, U k → U' k) (hn : n ≤ n') : V14 L n' bv U' w := by
 obtain ⟨⟨a, cp, rv, la, ll, lc, mo, fr, nx, sd, gs, h1, h2, h3, h4, h5, h6, h7⟩, h8⟩ := h
 exact ⟨⟨a, cp, rv, la, ll, lc, mo, fr, nx, sd, gs, h1, h2, h3, by omega, h5, fun k f e => ⟨hs k (h6 k f e).1, (h6 k f e).2⟩, fun k f e => ⟨hs k (h7 k f e).1, (h7 k f e).2⟩⟩, hs _ h8⟩
theorem r14Note (h : V14 L n bv U w) (u : Value) : Meets Tryz.prog 78 #[.pointer (some ⟨bv, 0, none⟩), u] w fun v w' => Same w w' := by
 obtain ⟨⟨a, cp, rv, la, ll, lc, mo, fr, nx, sd, gs, hb, _⟩, _⟩ := h
 refine f78_ok ?_
 unfold f78
 refine knew_of fun w2 h2 hs2 hb2 => ?_
 refine kN_at ?_
 refine kfld_of ?_
 refine kld_at (h2.get hb (fun h => h)) rfl ?_
 refine kB_at ?_
 refine kIf_F rfl ?_
 exact h2
theorem r14Tick (h : V14 L n bv U w) : Meets Tryz.prog 38 #[.pointer (some ⟨bv, 0, none⟩)] w fun v w' => V14 L n bv U w' ∧ Mod (fun k => k = bv) w w' := by
 refine f38_ok ?_
 unfold f38
 obtain ⟨a, cp, rv, la, ll, lc, mo, fr, nx, sd, gs, hb, _⟩ := id h.ex
 refine kN_at ?_
 refine kfld_of ?_
 refine kld_at hb rfl ?_
 refine geq_at ?_
 refine kB_at ?_
 refine kIf_dec (fun _ => ⟨h, Mod.refl _ _⟩) (fun _ => ?_)
 unfold f38_0
 refine kN_at ?_
 refine kfld_of ?_
 refine kld_at hb rfl ?_
 refine kbld_of (cs := [.int .i64 9, .int .i64 0, .int .i64 0, .int .i64 0, .int .i64 0, .int .i64 0, .int .i64 0, .int .i64 0, .slice none 0 0, .int .i64 0, .int .i64 fr]) rfl ?_
 refine kcall_of (r14Note h _) ?_
 rintro v w8 h8
 obtain ⟨⟨a, cp, rv, la, ll, lc, mo, fr, nx, sd, gs, h1, h2, h3, h4, h5, h6, h7⟩, hU⟩ := h.same h8
 refine kN_at ?_
 refine kfld_of ?_
 refine kld_at h1 rfl ?_
 rw [kint_add]
 refine kN_at ?_
 refine kfld_of ?_
 refine kst1_of h1 rfl rfl (by show 4 < 10; omega) fun w13 h13 hs13 hb13 => ?_
 exact ⟨⟨⟨a, cp, rv, la, ll, lc, mo, _, nx, sd, gs, hb13, h2.mod h13 (fun k f e => (h6 k f e).2), h3.mod h13 (fun k f e => (h7 k f e).2), h4, h5, h6, h7⟩, hU⟩, (Mod.of_same h8).trans h13⟩
theorem r09Fits {a : Option Addr} {cp : Nat} {rv : Value} (hrv : rv.cells = #[rv]) (hs : SlIs w a L.length 7 (L.flatMap Comp.cells)) (hG : GoodSc L) (q : Part) : Meets Tryz.prog 131 #[scV a L.length cp rv, .agg q.cells.toArray] w fun v w' => (∃ b, v = .bool b) ∧ Same w w' := by
 have hl := hG.len
 rw [scV]
 refine f131_ok ?_
 unfold f131
 refine knew_of fun w2 h2 hs2 hb2 => ?_
 have hb2 : blk w2 w.heap.size = some (.cells #[.slice a L.length cp, rv] 78) := hb2
 refine knew_of fun w4 h4 hs4 hb4 => ?_
 have hb2 := h4.get hb2 (fun h => h)
 have hb4 : blk w4 w2.heap.size = some (.cells q.cells.toArray 49) := hb4
 have hs' := hs.same (h2.trans h4)
 have m4 := h2.trans h4
 refine kfld_of ?_
 refine kld_at hb4 rfl ?_
 refine lss_at ?_
 refine kB_at ?_
 refine kIf_ndec (fun h0 => ?_) (fun h0 => ?_)
 ·refine kfld_of ?_
  refine kld_at hb4 rfl ?_
  refine kfld_of ?_
  refine kld_at hb2 rfl ?_
  refine klen_at ?_
  refine geq_at ?_
  by_cases h1 : (L.length : Int) ≤ q.comp
  ·rw [decT h1]
   unfold f131_0
   refine kB_at ?_
   refine kIf_T rfl ?_
   exact ⟨⟨_, rfl⟩, m4⟩
  ·rw [decF h1]
   obtain ⟨k, hk⟩ : ∃ k : Nat, q.comp = (k : Int) := ⟨q.comp.toNat, by omega⟩
   have hkl : k < L.length := by omega
   obtain ⟨d, hd, hd1, hd4⟩ := hG.wide _ (List.getElem_mem hkl)
   unfold f131_0
   refine kB_at ?_
   refine kIf_F rfl ?_
   unfold f131_1
   refine kfld_of ?_
   refine kld_at hb2 rfl ?_
   refine kfld_of ?_
   refine kld_of (v := .int .i64 k) hb4 (by rw [← hk]; rfl) ?_
   refine kixfld_of (F := Comp.cells) (sz := 7) (fun _ => rfl) (j := 1) hs' hkl rfl rfl ?_
   rw [hd]
   refine kL1_of (4 - d) (fun i x wr => x = .int .i64 ((d + i : Nat) : Int) ∧ wr = w4) ⟨lI1_0 ⟨rfl, rfl⟩, fun x wr hx => ?_⟩
   obtain ⟨i, hi, ⟨rfl, rfl⟩, hJ⟩ := lI1_step hx
   unfold f131_2
   refine lss_at ?_
   refine kB_at ?_
   refine kIf_dec (fun hlt => ?_) (fun hge => ?_)
   ·have hc : ∃ z : Int, nth q.cells.toArray.toList (0 + 1 + (d + i) * 1) = some (.int .i64 z) := by
     have h4 : d + i = 1 ∨ d + i = 2 ∨ d + i = 3 := by omega
     rcases h4 with h | h | h <;> rw [h] <;> exact ⟨_, rfl⟩
    obtain ⟨z, hc⟩ := hc
    unfold f131_3
    refine kfld_of ?_
    rw [kix_array]
    refine kG_of (by omega) ?_
    rw [add_mk]
    refine kld_at (o := 0 + 1 + (d + i) * 1) hb4 hc ?_
    refine neq_at ?_
    refine kB_at ?_
    refine kIf_dec (fun _ => ⟨⟨_, rfl⟩, m4⟩) (fun _ => ?_)
    unfold f131_4
    refine add_at (by omega) (by omega) ?_
    rw [cast_succ]
    exact hJ _ _ (by omega) ⟨rfl, rfl⟩
   ·exact ⟨⟨_, rfl⟩, m4⟩
 ·unfold f131_0
  refine kB_at ?_
  refine kIf_T rfl ?_
  exact ⟨⟨_, rfl⟩, m4⟩
theorem r09At {a : Option Addr} {P : List Part} {cp : Nat} (hs : SlIs w a P.length 6 (P.flatMap Part.cells)) (hn : P.length ≤ 100) (c : Int) : Meets Tryz.prog 132 #[.slice a P.length cp, .int .i64 c] w fun v w' => (∃ k : Int, v = .int .i64 k) ∧ Same w w' := by
 refine f132_ok ?_
 unfold f132
 refine kL1_of P.length (fun i x wr => x = .int .i64 i ∧ wr = w) ⟨lI1_0 ⟨rfl, rfl⟩, fun x wr hx => ?_⟩
 obtain ⟨i, hi, ⟨rfl, rfl⟩, hJ⟩ := lI1_step hx
 unfold f132_0
 refine klen_at ?_
 refine lss_at ?_
 refine kB_at ?_
 refine kIf_dec (fun hlt => ?_) (fun hge => ⟨⟨_, rfl⟩, Mod.refl _ _⟩)
 have hlt : i < P.length := by omega
 unfold f132_1
 refine kixfld_of (F := Part.cells) (sz := 6) (fun _ => rfl) (j := 0) hs hlt rfl rfl ?_
 refine eql_at ?_
 refine kB_at ?_
 refine kIf_dec (fun _ => ⟨⟨_, rfl⟩, Mod.refl _ _⟩) (fun _ => ?_)
 unfold f132_2
 refine add_at (by omega) (by omega) ?_
 rw [cast_succ]
 exact hJ _ _ hlt ⟨rfl, rfl⟩
def Mk6 (w : World) (n : Nat) (x : Value) (wr : World) : Prop := ∃ P : List Part, Own wr x 6 (P.flatMap Part.cells) ∧ P.length ≤ n ∧ (∀ k, vblk x k → w.heap.size ≤ k) ∧ Same w wr
theorem Mk6.same {w wr ws : World} {n : Nat} {x : Value} (h : Mk6 w n x wr) (m : Same wr ws) : Mk6 w n x ws := by
 obtain ⟨P, h1, h2, h3, h4⟩ := h
 exact ⟨P, h1.same m, h2, h3, h4.trans m⟩
theorem Mk6.more {w wr : World} {n n' : Nat} {x : Value} (h : Mk6 w n x wr) (hn : n ≤ n') : Mk6 w n' x wr := by
 obtain ⟨P, h1, h2, h3, h4⟩ := h
 exact ⟨P, h1, by omega, h3, h4⟩
theorem Mk6.app {w wr : World} {n : Nat} {x : Value} (h : Mk6 w n x wr) (hn : n ≤ 1000) (q : Part) {K : Value → World → Prop} (hK : ∀ y w', Mk6 w (n + 1) y w' → K y w') :
  kbldS [.int .i64 0, .int .i64 0, .int .i64 0, .int .i64 0, .int .i64 0, .int .i64 0] 1 [(0, 6, .agg q.cells.toArray)] 49 wr fun v w' => ksem Tryz.prog (Builtin.append_ #[44, 44] 0 #[x, v]) w' K := by
 obtain ⟨P, h1, h2, h3, h4⟩ := h
 refine kbldS_of (cs := q.cells) rfl fun w24 h24 hs24 hb24 => ?_
 have hfl := flat_len Part.cells 6 (fun _ => rfl) P
 refine ksem_append apPart2 (by omega) (h1.same h24) (Src.ofSlIs (hk := slPart2_is.choose_spec) 1 (SlIs.blk hb24 rfl) rfl) (by rw [hfl]; show P.length * 6 + 6 ≤ _; omega) (by rw [hfl]; show _; simp [Part.cells]; omega) ?_
 intro v' w4 ho4 hm4 hf4
 refine hK v' w4 ⟨P ++ [q], by simpa using ho4, by rw [List.length_append, List.length_singleton]; omega, fun k hk => ?_, (h4.trans h24).trans' (hm4.mono fun k _ e => .inr (h3 k e))⟩
 rcases hf4 k hk with h | h
 ·exact h3 k h
 ·exact Nat.le_trans (h4.trans h24).size h
end
end
section
def f33_2 (x0 x1 x2 : Value) (J3 : Value → World → Prop) (Q : PQ) (w : World) : Prop :=
 kint .i64 .add x2 (.int .i64 1) fun v26 =>
 J3 v26 w
def f33_1 (x0 x1 x2 : Value) (J3 : Value → World → Prop) (Q : PQ) (w : World) : Prop :=
 kfld 0 x1 fun v12 =>
 kld v12 w.drew fun v13 =>
 kG (w.drew = w.drew) <|
 kint .i64 .add x2 (.int .i64 1) fun v14 =>
 ksl (some .string) none (.string ⟨#[97, 98, 99, 100]⟩) (some x2) (some v14) fun v15 =>
 kint .i64 .add (.int .i64 1) x2 fun v16 =>
 kint .i64 .lss x2 (.int .i64 3) fun v17 =>
 kbld [.int .i64 0, .int .i64 0, .int .i64 0, .int .i64 0] [(0, 1, x2)] fun v18 =>
 kbld [(.string ⟨#[]⟩), .int .i64 0, .bool false, .int .i64 0, .int .i64 0, .int .i64 0, .int .i64 0] [(0, 1, v15), (1, 1, v16), (2, 1, v17), (3, 4, v18)] fun v19 =>
 kbldS [(.string ⟨#[]⟩), .int .i64 0, .bool false, .int .i64 0, .int .i64 0, .int .i64 0, .int .i64 0] 1 [(0, 7, v19)] 147 w.drew fun v20 w21 =>
 kG (kld v12 w21 fun v27 =>
 v27 = v13 ∧ w21 = w21) <|
 ksem Tryz.prog (Builtin.append_ #[75, 75] 0 #[v13, v20]) w21 fun v22 w23 =>
 kfld 0 x1 fun v24 =>
 kst 1 v24 v22 w23 fun w25 =>
 f33_2 x0 x1 x2 J3 Q w25
def f33_3 (x0 x1 : Value) (Q : PQ) (w : World) : Prop :=
 kldN 2 x1 w fun v28 =>
 kst 2 x0 v28 w fun w29 =>
 kldN 2 x0 w29 fun v30 =>
 Q v30 w29
def f33_0 (x2 x0 x1 : Value) (J3 : Value → World → Prop) (Q : PQ) (w : World) : Prop :=
 kint .i64 .lss x2 (.int .i64 4) fun v11 =>
 kB v11 fun b31 => kIf b31
 (f33_1 x0 x1 x2 J3 Q w)
 (f33_3 x0 x1 Q w)
def f33 (Q : PQ) (w : World) : Prop :=
 knew #[.slice none 0 0, .slice none 0 0] 78 w fun v1 w2 =>
 kbld [(.string ⟨#[]⟩), .int .i64 0] [(0, 1, (.string ⟨#[115]⟩)), (1, 1, (.int .i64 5))] fun v3 =>
 kbld [(.string ⟨#[]⟩), .int .i64 0] [(0, 1, (.string ⟨#[116]⟩))] fun v4 =>
 kbldS [(.string ⟨#[]⟩), .int .i64 0] 2 [(0, 2, v3), (2, 2, v4)] 150 w2 fun v5 w6 =>
 kbld [.slice none 0 0, .slice none 0 0] [(1, 1, v5)] fun v7 =>
 knew #[.slice none 0 0, .slice none 0 0] 78 w6 fun v8 w9 =>
 kst 2 v8 v7 w9 fun w10 =>
 kL fun (I : Value → World → Prop) (μ : Value → World → Nat) => I (.int .i64 0) w10 ∧ ∀ (x2 : Value) (w1 : World), I x2 w1 →
 f33_0 x2 v1 v8 (fun y2 w2 => I y2 w2 ∧ μ y2 w2 < μ x2 w1) Q w1
theorem f33_ok {Q : PQ} {w : World} (h : f33 Q w) : Meets Tryz.prog 33 #[] w Q :=
 sound' (c := Tryz.f33.body.get rfl) [(3, [2])] Tryz.func33 rfl rfl (args := []) rfl (by kernel_rfl) h
def f8_7 (x2 x7 x8 x10 x12 x13 x14 x15 x16 : Value) (J15 : Value → Value → World → Prop) (J11 : Value → World → Prop) (Q : PQ) (w : World) : Prop :=
 kint .i64 .add x16 (.int .i64 1) fun v74 =>
 J15 x15 v74 w
def f8_6 (x2 x7 x8 x10 x12 x13 x14 x15 x16 : Value) (J15 : Value → Value → World → Prop) (J11 : Value → World → Prop) (Q : PQ) (w : World) : Prop :=
 kfld 0 x2 fun v59 =>
 kld v59 w fun v60 =>
 kix (some (.slice 98)) (some 1) v60 x14 fun v61 =>
 kld v61 w fun v62 =>
 kint .u32 .shr v62 x16 fun v63 =>
 kint .u32 .rem v63 (.int .u32 2) fun v64 =>
 kint .u32 .eql v64 (.int .u32 1) fun v65 =>
 kB v65 fun b75 => kIf b75
 (kint .i64 .mul (.int .i64 10) x14 fun v66 =>
 kint .i64 .add v66 x16 fun v67 =>
 kbld [.int .i64 0, .int .i64 0, .int .i64 0, .int .i64 0] [(0, 1, v67)] fun v68 =>
 kbld [.int .i64 0, .int .i64 0, .int .i64 0, .int .i64 0, .int .i64 0, .int .i64 0] [(0, 1, x16), (1, 4, v68)] fun v69 =>
 kbldS [.int .i64 0, .int .i64 0, .int .i64 0, .int .i64 0, .int .i64 0, .int .i64 0] 1 [(0, 6, v69)] 49 w fun v70 w71 =>
 ksem Tryz.prog (Builtin.append_ #[44, 44] 0 #[x15, v70]) w71 fun v72 w73 =>
 f8_7 x2 x7 x8 x10 x12 x13 x14 v72 x16 J15 J11 Q w73)
 (f8_7 x2 x7 x8 x10 x12 x13 x14 x15 x16 J15 J11 Q w)
def f8_9 (x2 x7 x8 x10 x12 x13 x14 : Value) (J11 : Value → World → Prop) (Q : PQ) (w : World) : Prop :=
 kint .i64 .add x14 (.int .i64 1) fun v80 =>
 J11 v80 w
def f8_8 (x2 x7 x8 x10 x12 x13 x14 x15 : Value) (J11 : Value → World → Prop) (Q : PQ) (w : World) : Prop :=
 kcall Tryz.prog 39 #[x8, x15] w fun v76 w77 =>
 kcall Tryz.prog 40 #[x12, x15] w77 fun v78 w79 =>
 f8_9 x2 x7 x8 x10 x12 x13 x14 J11 Q w79
def f8_5 (x15 x16 x2 x7 x8 x10 x12 x13 x14 : Value) (J15 : Value → Value → World → Prop) (J11 : Value → World → Prop) (Q : PQ) (w : World) : Prop :=
 kint .i64 .lss x16 (.int .i64 4) fun v58 =>
 kB v58 fun b81 => kIf b81
 (f8_6 x2 x7 x8 x10 x12 x13 x14 x15 x16 J15 J11 Q w)
 (f8_8 x2 x7 x8 x10 x12 x13 x14 x15 J11 Q w)
def f8_4 (x2 x7 x8 x10 x12 x13 x14 : Value) (J11 : Value → World → Prop) (Q : PQ) (w : World) : Prop :=
 kbldS [.int .i64 0, .int .i64 0, .int .i64 0, .int .i64 0, .int .i64 0, .int .i64 0] 0 [] 49 w fun v56 w57 =>
 kL fun (I : Value → Value → World → Prop) (μ : Value → Value → World → Nat) => I v56 (.int .i64 0) w57 ∧ ∀ (x15 x16 : Value) (w1 : World), I x15 x16 w1 →
 f8_5 x15 x16 x2 x7 x8 x10 x12 x13 x14 (fun y15 y16 w2 => I y15 y16 w2 ∧ μ y15 y16 w2 < μ x15 x16 w1) J11 Q w1
def f8_12 (x7 x12 x13 : Value) (Q : PQ) (w : World) : Prop :=
 Q (.tuple #[x7, x12, x13]) w
def f8_11 (x2 x7 x10 x12 x13 : Value) (Q : PQ) (w : World) : Prop :=
 kfld 6 x2 fun v86 =>
 kld v86 w fun v87 =>
 kB v87 fun b90 => kIf b90
 (kN x7 <|
 kfld 1 x7 fun v88 =>
 kst 1 v88 x10 w fun w89 =>
 f8_12 x7 x12 x13 Q w89)
 (f8_12 x7 x12 (.pointer none) Q w)
def f8_10 (x2 x7 x8 x10 x12 x13 : Value) (Q : PQ) (w : World) : Prop :=
 kfld 5 x2 fun v82 =>
 kld v82 w fun v83 =>
 kB v83 fun b91 => kIf b91
 (kN x7 <|
 kfld 0 x7 fun v84 =>
 kst 1 v84 x8 w fun w85 =>
 f8_11 x2 x7 x10 x12 x13 Q w85)
 (f8_11 x2 x7 x10 (.pointer none) x13 Q w)
def f8_3 (x2 x7 x8 x10 x12 x13 x14 x69 : Value) (J11 : Value → World → Prop) (Q : PQ) (w : World) : Prop :=
 kB x69 fun b92 => kIf b92
 (f8_4 x2 x7 x8 x10 x12 x13 x14 J11 Q w)
 (f8_10 x2 x7 x8 x10 x12 x13 Q w)
def f8_2 (x14 x2 x7 x8 x10 x12 x13 : Value) (J11 : Value → World → Prop) (Q : PQ) (w : World) : Prop :=
 kfld 0 x2 fun v49 =>
 kld v49 w fun v50 =>
 klen v50 fun v51 =>
 kint .i64 .lss x14 v51 fun v53 =>
 kB v53 fun b54 => kIf b54
 (kint .i64 .lss x14 (.int .i64 20) fun v55 =>
 f8_3 x2 x7 x8 x10 x12 x13 x14 v55 J11 Q w)
 (f8_3 x2 x7 x8 x10 x12 x13 x14 (.bool false) J11 Q w)
def f8_1 (x1 x2 x7 x8 x10 : Value) (Q : PQ) (w : World) : Prop :=
 kcall Tryz.prog 33 #[] w.drew fun v35 w36 =>
 kfld 4 x2 fun v37 =>
 kld v37 w36 fun v38 =>
 kG (w36 = w36) <|
 kG (kld v37 w.drew fun v93 =>
 v93 = v38 ∧ w.drew = w.drew) <|
 kcall Tryz.prog 35 #[v35, .int .i64 20, v38] w36 fun v39 w40 =>
 kcall Tryz.prog 33 #[] w40 fun v41 w42 =>
 kcall Tryz.prog 36 #[v41, x1] w42 fun v43 w44 =>
 kcall Tryz.prog 37 #[x8] w44 fun v45 w46 =>
 kcall Tryz.prog 38 #[v39] w46 fun v47 w48 =>
 kL fun (I : Value → World → Prop) (μ : Value → World → Nat) => I (.int .i64 0) w48 ∧ ∀ (x14 : Value) (w1 : World), I x14 w1 →
 f8_2 x14 x2 x7 x8 x10 v39 v43 (fun y14 w2 => I y14 w2 ∧ μ y14 w2 < μ x14 w1) Q w1
def f8_0 (x1 x2 x7 x8 x10 x49 : Value) (Q : PQ) (w : World) : Prop :=
 kB x49 fun b94 => kIf b94
 (Q (.tuple #[.pointer none, .pointer none, .pointer none]) w)
 (f8_1 x1 x2 x7 x8 x10 Q w)
def f8 (x0 x1 : Value) (Q : PQ) (w : World) : Prop :=
 knew (Value.cells x0) 26 w fun v1 w2 =>
 kfld 1 v1 fun v3 =>
 kldN 2 v3 w2 fun v4 =>
 kfld 3 v1 fun v5 =>
 kld v5 w2 fun v6 =>
 kbld [.pointer none, .pointer none, .int .i64 0, .int .i64 0, .int .i64 0] [(2, 2, v4), (4, 1, v6)] fun v7 =>
 knew (Value.cells v7) 38 w2 fun v8 w9 =>
 kcall Tryz.prog 33 #[] w9.drew fun v10 w11 =>
 kfld 4 v1 fun v12 =>
 kld v12 w11 fun v13 =>
 kG (w11 = w11) <|
 kG (kld v12 w9.drew fun v95 =>
 v95 = v13 ∧ w9.drew = w9.drew) <|
 kcall Tryz.prog 32 #[v10, .int .i64 20, v13] w11 fun v14 w15 =>
 kext v14 0 fun v16 =>
 kext v14 1 fun v17 =>
 kcall Tryz.prog 33 #[] w15 fun v18 w19 =>
 kcall Tryz.prog 34 #[v18, x1] w19 fun v20 w21 =>
 kext v20 0 fun v22 =>
 kext v20 1 fun v23 =>
 keq Tryz.prog .eql 35 false true v16 (.pointer none) w21 fun v24 w25 =>
 kB v24 fun b26 => kIf (!b26)
 (keq Tryz.prog .eql 36 false true v22 (.pointer none) w25 fun v27 w28 =>
 kB v27 fun b29 => kIf (!b29)
 (keq Tryz.prog .neq 41 false true v17 .nilIface w28 fun v30 w31 =>
 kB v30 fun b32 => kIf (!b32)
 (keq Tryz.prog .neq 41 false true v23 .nilIface w31 fun v33 w34 =>
 f8_0 x1 v1 v8 v16 v22 v33 Q w34)
 (f8_0 x1 v1 v8 v16 v22 (.bool true) Q w31))
 (f8_0 x1 v1 v8 v16 v22 (.bool true) Q w28))
 (f8_0 x1 v1 v8 v16 v22 (.bool true) Q w25)
theorem f8_ok {x0 x1 : Value} {Q : PQ} {w : World} (h : f8 x0 x1 Q w) : Meets Tryz.prog 8 #[x0, x1] w Q :=
 sound' (c := Tryz.f8.body.get rfl) [(11, [14]), (15, [15, 16])] Tryz.func8 rfl rfl (args := [x0, x1]) rfl (by kernel_rfl) h
def f3_10 (x8 x9 x10 x11 : Value) (J21 : Value → World → Prop) (J16 : Value → World → Prop) (Q : PQ) (w : World) : Prop :=
 kint .i64 .add x11 (.int .i64 1) fun v77 =>
 J21 v77 w
def f3_9 (x8 x9 x10 x11 : Value) (J21 : Value → World → Prop) (J16 : Value → World → Prop) (Q : PQ) (w : World) : Prop :=
 kix (some (.slice 46)) (some 2) x8 x10 fun v65 =>
 kfld 1 v65 fun v66 =>
 kld v66 w.drew fun v67 =>
 kG (w.drew = w.drew) <|
 kix (some (.slice 49)) (some 6) v67 x11 fun v68 =>
 kldN 6 v68 w.drew fun v69 =>
 kG (w.drew = w.drew) <|
 kix (some (.slice 46)) (some 2) x9 x10 fun v70 =>
 kfld 1 v70 fun v71 =>
 kld v71 w.drew fun v72 =>
 kG (w.drew = w.drew) <|
 kix (some (.slice 49)) (some 6) v72 x11 fun v73 =>
 kldN 6 v73 w.drew fun v74 =>
 kG (w.drew = w.drew) <|
 keq Tryz.prog .neq 49 false false v69 v74 w.drew fun v75 w76 =>
 kG (w76 = w.drew) <|
 kB v75 fun b78 => kIf b78
 (Q (.bool false) w76)
 (f3_10 x8 x9 x10 x11 J21 J16 Q w76)
def f3_11 (x8 x9 x10 : Value) (J16 : Value → World → Prop) (Q : PQ) (w : World) : Prop :=
 kint .i64 .add x10 (.int .i64 1) fun v79 =>
 J16 v79 w
def f3_8 (x11 x8 x9 x10 : Value) (J21 : Value → World → Prop) (J16 : Value → World → Prop) (Q : PQ) (w : World) : Prop :=
 kix (some (.slice 46)) (some 2) x8 x10 fun v59 =>
 kfld 1 v59 fun v60 =>
 kld v60 w fun v61 =>
 klen v61 fun v62 =>
 kint .i64 .lss x11 v62 fun v64 =>
 kB v64 fun b80 => kIf b80
 (f3_9 x8 x9 x10 x11 J21 J16 Q w)
 (f3_11 x8 x9 x10 J16 Q w)
def f3_7 (x8 x9 x10 : Value) (J16 : Value → World → Prop) (Q : PQ) (w : World) : Prop :=
 kL fun (I : Value → World → Prop) (μ : Value → World → Nat) => I (.int .i64 0) w ∧ ∀ (x11 : Value) (w1 : World), I x11 w1 →
 f3_8 x11 x8 x9 x10 (fun y11 w2 => I y11 w2 ∧ μ y11 w2 < μ x11 w1) J16 Q w1
def f3_6 (x8 x9 x10 x81 : Value) (J16 : Value → World → Prop) (Q : PQ) (w : World) : Prop :=
 kB x81 fun b81 => kIf b81
 (Q (.bool false) w)
 (f3_7 x8 x9 x10 J16 Q w)
def f3_5 (x8 x9 x10 : Value) (J16 : Value → World → Prop) (Q : PQ) (w : World) : Prop :=
 kix (some (.slice 46)) (some 2) x8 x10 fun v40 =>
 kfld 0 v40 fun v41 =>
 kld v41 w.drew fun v42 =>
 kG (w.drew = w.drew) <|
 kix (some (.slice 46)) (some 2) x9 x10 fun v43 =>
 kfld 0 v43 fun v44 =>
 kld v44 w.drew fun v45 =>
 kG (w.drew = w.drew) <|
 kint .i64 .neq v42 v45 fun v46 =>
 kB v46 fun b47 => kIf (!b47)
 (kix (some (.slice 46)) (some 2) x8 x10 fun v48 =>
 kfld 1 v48 fun v49 =>
 kld v49 w.drew fun v50 =>
 kG (w.drew = w.drew) <|
 klen v50 fun v51 =>
 kix (some (.slice 46)) (some 2) x9 x10 fun v53 =>
 kfld 1 v53 fun v54 =>
 kld v54 w.drew fun v55 =>
 kG (w.drew = w.drew) <|
 klen v55 fun v56 =>
 kint .i64 .neq v51 v56 fun v58 =>
 f3_6 x8 x9 x10 v58 J16 Q w.drew)
 (f3_6 x8 x9 x10 (.bool true) J16 Q w.drew)
def f3_12 (Q : PQ) (w : World) : Prop :=
 kcall Tryz.prog 11 #[.pointer none] w fun v82 w83 =>
 kext v82 0 fun v84 =>
 kext v82 1 fun v85 =>
 kld (.pointer (some ⟨0, 0, none⟩)) w83 fun v86 =>
 kcall Tryz.prog 12 #[v85, v86] w83 fun v87 w88 =>
 kB v87 fun b89 => kIf b89
 (kcall Tryz.prog 13 #[.pointer none] w88 fun v90 w91 =>
 kB v90 fun b92 => kIf b92
 (kcall Tryz.prog 14 #[.pointer none] w91 fun v93 w94 =>
 kcall Tryz.prog 15 #[.pointer none] w94 fun v95 w96 =>
 kint .i64 .add v93 v95 fun v97 =>
 kcall Tryz.prog 16 #[.pointer none] w96 fun v98 w99 =>
 klen v98 fun v100 =>
 kint .i64 .add v97 v100 fun v102 =>
 kint .i64 .eql v102 (.int .i64 0) fun v103 =>
 Q v103 w99)
 (Q (.bool false) w91))
 (Q (.bool false) w88)
def f3_4 (x10 x8 x9 : Value) (J16 : Value → World → Prop) (Q : PQ) (w : World) : Prop :=
 klen x8 fun v37 =>
 kint .i64 .lss x10 v37 fun v39 =>
 kB v39 fun b104 => kIf b104
 (f3_5 x8 x9 x10 J16 Q w)
 (f3_12 Q w)
def f3_3 (x8 x9 : Value) (Q : PQ) (w : World) : Prop :=
 kL fun (I : Value → World → Prop) (μ : Value → World → Nat) => I (.int .i64 0) w ∧ ∀ (x10 : Value) (w1 : World), I x10 w1 →
 f3_4 x10 x8 x9 (fun y10 w2 => I y10 w2 ∧ μ y10 w2 < μ x10 w1) Q w1
def f3_2 (x1 x5 : Value) (Q : PQ) (w : World) : Prop :=
 kN x5 <|
 kfld 0 x5 fun v21 =>
 kld v21 w fun v22 =>
 kcall Tryz.prog 9 #[v22] w fun v23 w24 =>
 kN x5 <|
 kldN 5 x5 w24 fun v25 =>
 kcall Tryz.prog 10 #[v25, x1, .int .i64 200] w24 fun v26 w27 =>
 kN x5 <|
 kfld 0 x5 fun v28 =>
 kld v28 w27 fun v29 =>
 kcall Tryz.prog 9 #[v29] w27 fun v30 w31 =>
 klen v23 fun v32 =>
 klen v30 fun v34 =>
 kint .i64 .neq v32 v34 fun v36 =>
 kB v36 fun b105 => kIf b105
 (Q (.bool false) w31)
 (f3_3 v23 v30 Q w31)
def f3_1 (x1 x2 : Value) (Q : PQ) (w : World) : Prop :=
 kfld 3 x2 fun v9 =>
 kst 1 v9 (.int .i64 999) w fun w10 =>
 kfld 5 x2 fun v11 =>
 kst 1 v11 (.bool true) w10 fun w12 =>
 kldN 7 x2 w12 fun v13 =>
 kcall Tryz.prog 8 #[v13, .int .i64 6] w12 fun v14 w15 =>
 kext v14 0 fun v16 =>
 kext v14 1 fun v17 =>
 kext v14 2 fun v18 =>
 keq Tryz.prog .eql 29 false true v16 (.pointer none) w15 fun v19 w20 =>
 kB v19 fun b106 => kIf b106
 (Q (.bool false) w20)
 (f3_2 x1 v16 Q w20)
def f3_0 (x1 x2 : Value) (Q : PQ) (w : World) : Prop :=
 klen x1 fun v6 =>
 kint .i64 .gtr v6 (.int .i64 80) fun v8 =>
 kB v8 fun b107 => kIf b107
 (Q (.bool true) w)
 (f3_1 x1 x2 Q w)
def f3 (x0 x1 : Value) (Q : PQ) (w : World) : Prop :=
 knew (Value.cells x0) 26 w fun v1 w2 =>
 kcall Tryz.prog 7 #[] w2 fun v3 w4 =>
 kun .not (some .bool) v3 fun v5 =>
 kB v5 fun b108 => kIf b108
 (Q (.bool false) w4)
 (f3_0 x1 v1 Q w4)
theorem f3_ok {x0 x1 : Value} {Q : PQ} {w : World} (h : f3 x0 x1 Q w) : Meets Tryz.prog 3 #[x0, x1] w Q :=
 sound' (c := Tryz.f3.body.get rfl) [(16, [10]), (21, [11])] Tryz.func3 rfl rfl (args := [x0, x1]) rfl (by kernel_rfl) h
def f6_11 (x7 x9 : Value) (Q : PQ) (w : World) : Prop :=
 keq Tryz.prog .eql 31 false true x9 (.pointer none) w.drew fun v88 w89 =>
 kG (w89 = w.drew) <|
 kB v88 fun b90 => kIf (!b90)
 (kN x7 <|
 kfld 1 x7 fun v91 =>
 kld v91 w89 fun v92 =>
 kG (w89 = w89) <|
 kcall Tryz.prog 30 #[v92] w89 fun v93 w94 =>
 kN x9 <|
 kfld 3 x9 fun v95 =>
 kld v95 w94 fun v96 =>
 kG (w94 = w94) <|
 kG (kld v95 w89 fun v108 =>
 v108 = v96 ∧ w89 = w89) <|
 kcall Tryz.prog 29 #[v93, v96] w94 fun v97 w98 =>
 kB v97 fun b99 => kIf b99
 (kN x7 <|
 kfld 1 x7 fun v100 =>
 kld v100 w98 fun v101 =>
 kG (w98 = w98) <|
 kcall Tryz.prog 31 #[v101] w98 fun v102 w103 =>
 kN x9 <|
 kfld 5 x9 fun v104 =>
 kld v104 w103 fun v105 =>
 kG (w103 = w103) <|
 kG (kld v104 w98 fun v107 =>
 v107 = v105 ∧ w98 = w98) <|
 kint .i64 .eql v102 v105 fun v106 =>
 Q v106 w103)
 (Q (.bool false) w98))
 (Q (.bool true) w89)
def f6_10 (x7 x9 x128 : Value) (Q : PQ) (w : World) : Prop :=
 kB x128 fun b109 => kIf b109
 (Q (.bool false) w)
 (f6_11 x7 x9 Q w)
def f6_9 (x7 x8 x9 : Value) (Q : PQ) (w : World) : Prop :=
 keq Tryz.prog .neq 30 false true x8 (.pointer none) w.drew fun v66 w67 =>
 kG (w67 = w.drew) <|
 kB v66 fun b68 => kIf b68
 (kN x7 <|
 kfld 0 x7 fun v69 =>
 kld v69 w67 fun v70 =>
 kG (w67 = w67) <|
 kcall Tryz.prog 19 #[v70] w67 fun v71 w72 =>
 kcall Tryz.prog 24 #[x8] w72 fun v73 w74 =>
 kcall Tryz.prog 23 #[v71, v73] w74 fun v75 w76 =>
 kun .not (some .bool) v75 fun v77 =>
 kB v77 fun b78 => kIf (!b78)
 (kN x7 <|
 kfld 0 x7 fun v79 =>
 kld v79 w76 fun v80 =>
 kG (w76 = w76) <|
 kcall Tryz.prog 9 #[v80] w76 fun v81 w82 =>
 kN x8 <|
 kfld 3 x8 fun v83 =>
 kld v83 w82 fun v84 =>
 kG (w82 = w82) <|
 kG (kld v83 w76 fun v110 =>
 v110 = v84 ∧ w76 = w76) <|
 kcall Tryz.prog 28 #[v81, v84] w82 fun v85 w86 =>
 kun .not (some .bool) v85 fun v87 =>
 f6_10 x7 x9 v87 Q w86)
 (f6_10 x7 x9 (.bool true) Q w76))
 (f6_10 x7 x9 (.bool false) Q w67)
def f6_12 (x7 x8 x9 x10 x11 x12 : Value) (J11 : Value → World → Prop) (Q : PQ) (w : World) : Prop :=
 kint .i64 .add x12 (.int .i64 1) fun v111 =>
 J11 v111 w
def f6_8 (x7 x8 x9 x10 x11 x12 x13 : Value) (J11 : Value → World → Prop) (Q : PQ) (w : World) : Prop :=
 kun .not (some .bool) x13 fun v65 =>
 kB v65 fun b112 => kIf b112
 (f6_9 x7 x8 x9 Q w)
 (f6_12 x7 x8 x9 x10 x11 x12 J11 Q w)
def f6_7 (x7 x8 x9 x10 x11 x12 x13 x100 : Value) (J11 : Value → World → Prop) (Q : PQ) (w : World) : Prop :=
 kB x100 fun b113 => kIf b113
 (Q (.bool false) w)
 (f6_8 x7 x8 x9 x10 x11 x12 x13 J11 Q w)
def f6_6 (x7 x8 x9 x10 x11 x12 : Value) (J11 : Value → World → Prop) (Q : PQ) (w : World) : Prop :=
 kcall Tryz.prog 11 #[x10] w fun v52 w53 =>
 kext v52 0 fun v54 =>
 kext v52 1 fun v55 =>
 kcall Tryz.prog 27 #[x11] w53 fun v56 w57 =>
 kext v56 0 fun v58 =>
 kext v56 1 fun v59 =>
 kbool .neq v54 v58 fun v60 =>
 kB v60 fun b61 => kIf (!b61)
 (kcall Tryz.prog 22 #[v55] w57 fun v62 w63 =>
 kint .i64 .neq v62 v59 fun v64 =>
 f6_7 x7 x8 x9 x10 x11 x12 v54 v64 J11 Q w63)
 (f6_7 x7 x8 x9 x10 x11 x12 v54 (.bool true) J11 Q w57)
def f6_5 (x7 x8 x9 x10 x11 x12 x81 : Value) (J11 : Value → World → Prop) (Q : PQ) (w : World) : Prop :=
 kB x81 fun b114 => kIf b114
 (Q (.bool false) w)
 (f6_6 x7 x8 x9 x10 x11 x12 J11 Q w)
def f6_4 (x7 x8 x9 x10 x11 x12 : Value) (J11 : Value → World → Prop) (Q : PQ) (w : World) : Prop :=
 kcall Tryz.prog 13 #[x10] w.drew fun v27 w28 =>
 kcall Tryz.prog 25 #[x11] w28 fun v29 w30 =>
 kbool .neq v27 v29 fun v31 =>
 kB v31 fun b32 => kIf (!b32)
 (kcall Tryz.prog 14 #[x10] w30 fun v33 w34 =>
 kN x11 <|
 kfld 6 x11 fun v35 =>
 kld v35 w34 fun v36 =>
 kG (w34 = w34) <|
 kG (kld v35 w30 fun v117 =>
 v117 = v36 ∧ w30 = w30) <|
 kint .i64 .neq v33 v36 fun v37 =>
 kB v37 fun b38 => kIf (!b38)
 (kcall Tryz.prog 15 #[x10] w34 fun v39 w40 =>
 kN x11 <|
 kfld 8 x11 fun v41 =>
 kld v41 w40 fun v42 =>
 kG (w40 = w40) <|
 kG (kld v41 w34 fun v116 =>
 v116 = v42 ∧ w34 = w34) <|
 kint .i64 .neq v39 v42 fun v43 =>
 kB v43 fun b44 => kIf (!b44)
 (kcall Tryz.prog 16 #[x10] w40 fun v45 w46 =>
 kN x11 <|
 kfld 7 x11 fun v47 =>
 kld v47 w46 fun v48 =>
 kG (w46 = w46) <|
 kG (kld v47 w40 fun v115 =>
 v115 = v48 ∧ w40 = w40) <|
 kcall Tryz.prog 26 #[v45, v48] w46 fun v49 w50 =>
 kun .not (some .bool) v49 fun v51 =>
 f6_5 x7 x8 x9 x10 x11 x12 v51 J11 Q w50)
 (f6_5 x7 x8 x9 x10 x11 x12 (.bool true) J11 Q w40))
 (f6_5 x7 x8 x9 x10 x11 x12 (.bool true) J11 Q w34))
 (f6_5 x7 x8 x9 x10 x11 x12 (.bool true) J11 Q w30)
def f6_3 (x12 x7 x8 x9 x10 x11 : Value) (J11 : Value → World → Prop) (Q : PQ) (w : World) : Prop :=
 kint .i64 .lss x12 (.int .i64 600) fun v26 =>
 kB v26 fun b118 => kIf b118
 (f6_4 x7 x8 x9 x10 x11 x12 J11 Q w)
 (f6_9 x7 x8 x9 Q w)
def f6_2 (x1 x2 x3 x7 x8 x9 : Value) (Q : PQ) (w : World) : Prop :=
 kN x7 <|
 kldN 5 x7 w fun v17 =>
 kcall Tryz.prog 17 #[v17, x1, x2] w fun v18 w19 =>
 kfld 1 x3 fun v20 =>
 kldN 2 v20 w19 fun v21 =>
 kfld 3 x3 fun v22 =>
 kld v22 w19 fun v23 =>
 kcall Tryz.prog 20 #[x8, x9, v21, v23, x1, x2] w19 fun v24 w25 =>
 kL fun (I : Value → World → Prop) (μ : Value → World → Nat) => I (.int .i64 0) w25 ∧ ∀ (x12 : Value) (w1 : World), I x12 w1 →
 f6_3 x12 x7 x8 x9 v18 v24 (fun y12 w2 => I y12 w2 ∧ μ y12 w2 < μ x12 w1) Q w1
def f6_1 (x1 x2 x3 : Value) (Q : PQ) (w : World) : Prop :=
 kldN 7 x3 w fun v9 =>
 kcall Tryz.prog 8 #[v9, .int .i64 6] w fun v10 w11 =>
 kext v10 0 fun v12 =>
 kext v10 1 fun v13 =>
 kext v10 2 fun v14 =>
 keq Tryz.prog .eql 29 false true v12 (.pointer none) w11 fun v15 w16 =>
 kB v15 fun b119 => kIf b119
 (Q (.bool false) w16)
 (f6_2 x1 x2 x3 v12 v13 v14 Q w16)
def f6_0 (x1 x2 x3 : Value) (Q : PQ) (w : World) : Prop :=
 klen x1 fun v6 =>
 kint .i64 .gtr v6 (.int .i64 80) fun v8 =>
 kB v8 fun b120 => kIf b120
 (Q (.bool true) w)
 (f6_1 x1 x2 x3 Q w)
def f6 (x0 x1 x2 : Value) (Q : PQ) (w : World) : Prop :=
 knew (Value.cells x0) 26 w fun v1 w2 =>
 kcall Tryz.prog 7 #[] w2 fun v3 w4 =>
 kun .not (some .bool) v3 fun v5 =>
 kB v5 fun b121 => kIf b121
 (Q (.bool false) w4)
 (f6_0 x1 x2 v1 Q w4)
end
section
attribute [local irreducible] kO kB kStr kInt kN kG kIf kfld kld kldN kst knew kmap kbld kbldS kext kcnv klenStr klen kcap kprt kprtN kbool kint kstr keq kun ksl kix kiv kta kmk kmm ksem ksemU kextf kcallV kcallM kcall kL
def b2n (b : Bool) : Nat := if b = true then 1 else 0
section
variable {L : List Comp} {n bv : Nat} {U : Nat → Prop} {w w' : World}
theorem r09With {a : Option Addr} {P : List Part} {cp : Nat} (hs : SlIs w a P.length 6 (P.flatMap Part.cells)) (hn : P.length ≤ 100) (q : Part) : Meets Tryz.prog 133 #[.slice a P.length cp, .agg q.cells.toArray] w fun v w' => Mk6 w (P.length + 1) v w' := by
 refine f133_ok ?_
 unfold f133
 refine knew_of fun w2 h2 hs2 hb2 => ?_
 have hb2 : blk w2 w.heap.size = some (.cells q.cells.toArray 49) := hb2
 refine kbldS_of (cs := []) rfl fun w4 h4 hs4 hb4 => ?_
 have hs' := hs.same h2
 refine kL3_of P.length (fun i x y z wr => Mk6 w2 (i + (match y with | .bool b => b2n b | _ => 0)) x wr ∧ (∃ b, y = .bool b) ∧ z = .int .i64 i) ⟨lI3_0 ⟨⟨[], Own.blk hb4 (n := 0) (by simp) (by simp [maxLen]), Nat.zero_le _, fun k hk => by rw [vblk_new hk]; exact Nat.le_refl _, h4⟩, ⟨false, rfl⟩, rfl⟩, fun x y z wr hx => ?_⟩
 obtain ⟨i, hi, ⟨hMk, ⟨b, rfl⟩, rfl⟩, hJ⟩ := lI3_step hx
 have hMk : Mk6 w2 (i + b2n b) x wr := hMk
 have hmr : Same w2 wr := by obtain ⟨_, _, _, _, h⟩ := hMk; exact h
 have hbr := hmr.get hb2 (fun h => h)
 have hsr := hs'.same hmr
 have hb1 : b2n b ≤ 1 := by unfold b2n; split <;> omega
 unfold f133_0
 refine klen_at ?_
 refine lss_at ?_
 refine kB_at ?_
 refine kIf_dec (fun hlt => ?_) (fun hge => ?_)
 ·have hlt : i < P.length := by omega
  have last : ∀ (b' : Bool) (x' : Value) (ws : World), Mk6 w2 (i + b2n b') x' ws → f133_3 (.slice a P.length cp) (.pointer (some ⟨w.heap.size, 0, none⟩)) x' (.bool b') (.int .i64 i) (fun y5 y6 y7 w2_1 => lI P.length (inv3 fun i x y z wr => Mk6 w2 (i + (match y with | .bool b => b2n b | _ => 0)) x wr ∧ (∃ b, y = .bool b) ∧ z = .int .i64 i) (y5, y6, y7, w2_1) ∧ lM P.length (inv3 fun i x y z wr => Mk6 w2 (i + (match y with | .bool b => b2n b | _ => 0)) x wr ∧ (∃ b, y = .bool b) ∧ z = .int .i64 i) (y5, y6, y7, w2_1) < lM P.length (inv3 fun i x y z wr => Mk6 w2 (i + (match y with | .bool b => b2n b | _ => 0)) x wr ∧ (∃ b, y = .bool b) ∧ z = .int .i64 i) (x, .bool b, .int .i64 i, wr)) (fun v w' => Mk6 w (P.length + 1) v w') ws := by
   intro b' x' ws hk
   have hms : Same w2 ws := by obtain ⟨_, _, _, _, h⟩ := hk; exact h
   have hb1' : b2n b' ≤ 1 := by unfold b2n; split <;> omega
   unfold f133_3
   refine kixldN_of (F := Part.cells) (sz := 6) (fun _ => rfl) (by omega) (hs'.same hms) hlt rfl ?_
   refine hk.app (by omega) _ fun y wt hy => ?_
   unfold f133_4
   refine add_at (by omega) (by omega) ?_
   rw [cast_succ]
   exact hJ _ _ _ _ hlt ⟨hy.more (by show _ ≤ i + 1 + b2n b'; omega), ⟨b', rfl⟩, rfl⟩
  unfold f133_1
  refine not_at ?_
  refine kB_at ?_
  refine kIf_of (fun hb => ?_) (fun hb => ?_)
  ·have hb : b = false := by simpa using hb
   subst hb
   refine kixfld_of (F := Part.cells) (sz := 6) (fun _ => rfl) (j := 0) hsr hlt rfl rfl ?_
   refine kG_of rfl ?_
   have md : Same wr wr.drew := (Mod.refl (fun _ => False) _).drew
   have hMd := hMk.same md
   have hbd := md.get hbr (fun h => h)
   refine kfld_of ?_
   refine kld_at hbd rfl ?_
   refine kG_of rfl ?_
   refine gtr_at ?_
   unfold f133_2
   refine kB_at ?_
   refine kIf_dec (fun _ => ?_) (fun _ => last false _ _ hMd)
   refine kldN_at hbd rfl (by omega) ?_
   exact hMd.app (by omega) _ fun y wt hy => last true _ _ hy
  ·have hb : b = true := by simpa using hb
   subst hb
   unfold f133_2
   refine kB_at ?_
   refine kIf_F rfl ?_
   exact last true _ _ (hMk.same (Mod.refl (fun _ => False) _).drew)
 ·have hi' : i = P.length := by omega
  subst hi'
  have up : ∀ {m : Nat} {x : Value} {ws : World}, Mk6 w2 m x ws → m ≤ P.length + 1 → Mk6 w (P.length + 1) x ws := fun hk hm => by
   obtain ⟨P', h1, hh2, h3, h4⟩ := hk
   exact ⟨P', h1, by omega, fun k hk => Nat.le_trans h2.size (h3 k hk), h2.trans h4⟩
  unfold f133_5
  refine not_at ?_
  refine kB_at ?_
  refine kIf_of (fun hb => ?_) (fun hb => ?_)
  ·have hb : b = false := by simpa using hb
   subst hb
   refine kldN_at hbr rfl (by omega) ?_
   exact hMk.app (by omega) _ fun y wt hy => up hy (by show P.length + 0 + 1 ≤ _; omega)
  ·exact up hMk (by omega)
theorem r14Gathered (h : V14 L n bv U w) (hG : GoodSc L) {a : Option Addr} {P : List Part} {cp : Nat} (hs : SlIs w a P.length 6 (P.flatMap Part.cells)) (hn : P.length ≤ 64) : Meets Tryz.prog 82 #[.pointer (some ⟨bv, 0, none⟩), .slice a P.length cp] w fun v w' => (∃ a n c, ∃ e : Int, v = .tuple #[.slice a n c, .int .i64 e]) ∧ Same w w' := by
 refine f82_ok ?_
 unfold f82
 refine kbldS_of (cs := []) rfl fun w4 h4 hs4 hb4 => ?_
 refine kL3_of P.length (fun i x y z wr => Mk6 w i x wr ∧ (∃ b, y = .bool b) ∧ z = .int .i64 i) ⟨lI3_0 ⟨⟨[], Own.blk hb4 (n := 0) (by simp) (by simp [maxLen]), Nat.zero_le _, fun k hk => by rw [vblk_new hk]; exact Nat.le_refl _, h4⟩, ⟨false, rfl⟩, rfl⟩, fun x y z wr hx => ?_⟩
 obtain ⟨i, hi, ⟨hMk, ⟨b, rfl⟩, rfl⟩, hJ⟩ := lI3_step hx
 have hmr : Same w wr := by obtain ⟨_, _, _, _, h⟩ := hMk; exact h
 have hsr := hs.same hmr
 unfold f82_0
 refine klen_at ?_
 refine lss_at ?_
 refine kB_at ?_
 refine kIf_dec (fun hlt => ?_) (fun hge => ?_)
 ·have hlt : i < P.length := by omega
  have md : Same wr wr.drew := (Mod.refl (fun _ => False) _).drew
  have mrd := hmr.trans md
  have hMd := hMk.same md
  have hsd := hs.same mrd
  obtain ⟨⟨a1, cp1, rv, la, ll, lc, mo, fr, nx, sd, gs, hb, hc, _, _, hrv, _⟩, _⟩ := h.same mrd
  unfold f82_1
  generalize wr.drew = wd at *
  refine kN_at ?_
  refine kfld_of ?_
  refine kldN_at hb rfl (by omega) ?_
  refine kG_of rfl ?_
  refine kixldN_of (F := Part.cells) (sz := 6) (fun _ => rfl) (by omega) hsd hlt rfl ?_
  refine kG_of rfl ?_
  refine kcall_of (r09Fits (cp := cp1) hrv hc hG _) ?_
  rintro v w11 ⟨⟨bf, rfl⟩, h11⟩
  refine not_at ?_
  refine kB_at ?_
  refine kIf_of (fun _ => ⟨⟨_, _, _, _, rfl⟩, mrd.trans h11⟩) (fun _ => ?_)
  have hM11 := hMd.same h11
  have hs11 := hsd.same h11
  have last : ∀ (b' : Bool) (ws : World), Mk6 w i x ws → f82_3 (.pointer (some ⟨bv, 0, none⟩)) (.slice a P.length cp) x (.bool b') (.int .i64 i) (fun y6 y7 y8 w2_1 => lI P.length (inv3 fun i x y z wr => Mk6 w i x wr ∧ (∃ b, y = .bool b) ∧ z = .int .i64 i) (y6, y7, y8, w2_1) ∧ lM P.length (inv3 fun i x y z wr => Mk6 w i x wr ∧ (∃ b, y = .bool b) ∧ z = .int .i64 i) (y6, y7, y8, w2_1) < lM P.length (inv3 fun i x y z wr => Mk6 w i x wr ∧ (∃ b, y = .bool b) ∧ z = .int .i64 i) (x, .bool b, .int .i64 i, wr)) (fun v w' => (∃ a n c, ∃ e : Int, v = .tuple #[.slice a n c, .int .i64 e]) ∧ Same w w') ws := by
   intro b' ws hk
   have hms : Same w ws := by obtain ⟨_, _, _, _, h⟩ := hk; exact h
   obtain ⟨P', hO, hP', hfr, _⟩ := hk
   obtain ⟨a', n', c', rfl, hsl, _⟩ := hO.is
   have hn' : n' = P'.length := by
    have := hsl.1
    rw [flat_len Part.cells 6 (fun _ => rfl)] at this
    omega
   subst hn'
   unfold f82_3
   refine kixldN_of (F := Part.cells) (sz := 6) (fun _ => rfl) (by omega) (hs.same hms) hlt rfl ?_
   refine kcall_of (r09With hsl (by omega) _) ?_
   rintro v w23 ⟨P2, k1, k2, k3, k4⟩
   unfold f82_4
   refine add_at (by omega) (by omega) ?_
   rw [cast_succ]
   exact hJ _ _ _ _ hlt ⟨⟨P2, k1, by omega, fun k hk => Nat.le_trans hms.size (k3 k hk), hms.trans k4⟩, ⟨b', rfl⟩, rfl⟩
  unfold f82_2
  refine kB_at ?_
  refine kIf_of (fun _ => ?_) (fun _ => last true _ hM11)
  refine kixfld_of (F := Part.cells) (sz := 6) (fun _ => rfl) (j := 0) hs11 hlt rfl rfl ?_
  obtain ⟨P', hO, hP', hfr, _⟩ := id hM11
  obtain ⟨a', n', c', rfl, hsl, _⟩ := hO.is
  have hn' : n' = P'.length := by
   have := hsl.1
   rw [flat_len Part.cells 6 (fun _ => rfl)] at this
   omega
  subst hn'
  refine kcall_of (r09At hsl (by omega) _) ?_
  rintro v w18 ⟨⟨k, rfl⟩, h18⟩
  refine geq_at ?_
  exact last _ _ (hM11.same h18)
 ·obtain ⟨P', hO, hP', hfr, _⟩ := hMk
  obtain ⟨a', n', c', rfl, hsl, _⟩ := hO.is
  unfold f82_5
  refine kB_at ?_
  refine kIf_of (fun _ => ⟨⟨_, _, _, _, rfl⟩, hmr⟩) (fun _ => ⟨⟨_, _, _, _, rfl⟩, hmr⟩)
end
end
section
attribute [local irreducible] kO kB kStr kInt kN kG kIf kfld kld kldN kst knew kmap kbld kbldS kext kcnv klenStr klen kcap kprt kprtN kbool kint kstr keq kun ksl kix kiv kta kmk kmm ksem ksemU kextf kcallV kcallM kcall kL
theorem apBe14 : appT Tryz.prog 34 2 32 = true := by kernel_rfl
theorem slBe14_is : ∃ e, Tryz.prog.underlying 34 = some (.slice e) := slT_of (by kernel_rfl)
def Mk2 (w : World) (n : Nat) (x : Value) (wr : World) : Prop := ∃ P : List R14, Own wr x 2 (P.flatMap R14.cells) ∧ P.length ≤ n ∧ (∀ k, vblk x k → w.heap.size ≤ k) ∧ Same w wr
theorem Mk2.same {w wr ws : World} {n : Nat} {x : Value} (h : Mk2 w n x wr) (m : Same wr ws) : Mk2 w n x ws := by
 obtain ⟨P, h1, h2, h3, h4⟩ := h
 exact ⟨P, h1.same m, h2, h3, h4.trans m⟩
theorem Mk2.more {w wr : World} {n n' : Nat} {x : Value} (h : Mk2 w n x wr) (hn : n ≤ n') : Mk2 w n' x wr := by
 obtain ⟨P, h1, h2, h3, h4⟩ := h
 exact ⟨P, h1, by omega, h3, h4⟩
theorem Mk2.app {w wr : World} {n : Nat} {x : Value} (h : Mk2 w n x wr) (hn : n ≤ 1000) (q : R14) {K : Value → World → Prop} (hK : ∀ y w', Mk2 w (n + 1) y w' → K y w') :
  kbldS [.int .i64 0, .slice none 0 0] 1 [(0, 2, .agg q.cells.toArray)] 46 wr fun v w' => ksem Tryz.prog (Builtin.append_ #[34, 34] 0 #[x, v]) w' K := by
 obtain ⟨P, h1, h2, h3, h4⟩ := h
 refine kbldS_of (cs := q.cells) rfl fun w24 h24 hs24 hb24 => ?_
 have hfl := flat_len R14.cells 2 (fun _ => rfl) P
 refine ksem_append apBe14 (by omega) (h1.same h24) (Src.ofSlIs (hk := slBe14_is.choose_spec) 1 (SlIs.blk hb24 rfl) rfl) (by rw [hfl]; show P.length * 2 + 2 ≤ _; omega) (by rw [hfl]; show _; simp [R14.cells]; omega) ?_
 intro v' w4 ho4 hm4 hf4
 refine hK v' w4 ⟨P ++ [q], by simpa using ho4, by rw [List.length_append, List.length_singleton]; omega, fun k hk => ?_, (h4.trans h24).trans' (hm4.mono fun k _ e => .inr (h3 k e))⟩
 rcases hf4 k hk with h | h
 ·exact h3 k h
 ·exact Nat.le_trans (h4.trans h24).size h
section
variable {L : List Comp} {n bv : Nat} {U : Nat → Prop} {w w' : World}
theorem r14Add (h : V14 L n bv U w) (hU : ∀ k, U k → k < w.heap.size) (hn : n ≤ 100) (nid : Int) (q : R14) : Meets Tryz.prog 83 #[.pointer (some ⟨bv, 0, none⟩), .int .i64 nid, .slice q.a q.n q.c] w fun v w' => V14 L (n + 1) bv (newB w w' U) w' ∧ Mod (fun k => k = bv) w w' := by
 refine f83_ok ?_
 unfold f83
 refine kbldS_of (cs := []) rfl fun w4 h4 hs4 hb4 => ?_
 obtain ⟨⟨a, cp, rv, la, ll, lc, mo, fr, nx, sd, gs, h1, h2, h3, h4', h5, h6, h7⟩, hU8⟩ := h
 refine kL3_of ll.length (fun i x y z wr => Mk2 w (i + (match y with | .bool b => b2n b | _ => 0)) x wr ∧ (∃ b, y = .bool b) ∧ z = .int .i64 i) ⟨lI3_0 ⟨⟨[], Own.blk hb4 (n := 0) (by simp) (by simp [maxLen]), Nat.zero_le _, fun k hk => by rw [vblk_new hk]; exact Nat.le_refl _, h4⟩, ⟨false, rfl⟩, rfl⟩, fun x y z wr hx => ?_⟩
 obtain ⟨i, hi, ⟨hMk, ⟨b, rfl⟩, rfl⟩, hJ⟩ := lI3_step hx
 have hMk : Mk2 w (i + b2n b) x wr := hMk
 have hmr : Same w wr := by obtain ⟨_, _, _, _, h⟩ := hMk; exact h
 have hbr := hmr.get h1 (fun h => h)
 have hb1 : b2n b ≤ 1 := by unfold b2n; split <;> omega
 unfold f83_0
 refine kN_at ?_
 refine kfld_of ?_
 refine kld_at hbr rfl ?_
 refine klen_at ?_
 refine lss_at ?_
 refine kB_at ?_
 refine kIf_dec (fun hlt => ?_) (fun hge => ?_)
 ·have hlt : i < ll.length := by omega
  have last : ∀ (b' : Bool) (x' : Value) (ws : World), Mk2 w (i + b2n b') x' ws → f83_3 (.pointer (some ⟨bv, 0, none⟩)) (.int .i64 nid) (.slice q.a q.n q.c) x' (.bool b') (.int .i64 i) (fun y5 y6 y7 w2_1 => lI ll.length (inv3 fun i x y z wr => Mk2 w (i + (match y with | .bool b => b2n b | _ => 0)) x wr ∧ (∃ b, y = .bool b) ∧ z = .int .i64 i) (y5, y6, y7, w2_1) ∧ lM ll.length (inv3 fun i x y z wr => Mk2 w (i + (match y with | .bool b => b2n b | _ => 0)) x wr ∧ (∃ b, y = .bool b) ∧ z = .int .i64 i) (y5, y6, y7, w2_1) < lM ll.length (inv3 fun i x y z wr => Mk2 w (i + (match y with | .bool b => b2n b | _ => 0)) x wr ∧ (∃ b, y = .bool b) ∧ z = .int .i64 i) (x, .bool b, .int .i64 i, wr)) (fun v w' => V14 L (n + 1) bv (newB w w' U) w' ∧ Mod (fun k => k = bv) w w') ws := by
   intro b' x' ws hk
   have hms : Same w ws := by obtain ⟨_, _, _, _, h⟩ := hk; exact h
   have hb1' : b2n b' ≤ 1 := by unfold b2n; split <;> omega
   unfold f83_3
   refine kN_at ?_
   refine kfld_of ?_
   refine kld_at (hms.get h1 (fun h => h)) rfl ?_
   refine kixldN_of (F := R14.cells) (sz := 2) (fun _ => rfl) (by omega) (h3.same hms) hlt rfl ?_
   refine hk.app (by omega) _ fun y wt hy => ?_
   unfold f83_4
   refine add_at (by omega) (by omega) ?_
   rw [cast_succ]
   exact hJ _ _ _ _ hlt ⟨hy.more (by show _ ≤ i + 1 + b2n b'; omega), ⟨b', rfl⟩, rfl⟩
  have mid : ∀ bb : Bool, b = false → f83_2 (.pointer (some ⟨bv, 0, none⟩)) (.int .i64 nid) (.slice q.a q.n q.c) x (.bool b) (.int .i64 i) (.bool bb) (fun y5 y6 y7 w2_1 => lI ll.length (inv3 fun i x y z wr => Mk2 w (i + (match y with | .bool b => b2n b | _ => 0)) x wr ∧ (∃ b, y = .bool b) ∧ z = .int .i64 i) (y5, y6, y7, w2_1) ∧ lM ll.length (inv3 fun i x y z wr => Mk2 w (i + (match y with | .bool b => b2n b | _ => 0)) x wr ∧ (∃ b, y = .bool b) ∧ z = .int .i64 i) (y5, y6, y7, w2_1) < lM ll.length (inv3 fun i x y z wr => Mk2 w (i + (match y with | .bool b => b2n b | _ => 0)) x wr ∧ (∃ b, y = .bool b) ∧ z = .int .i64 i) (x, .bool b, .int .i64 i, wr)) (fun v w' => V14 L (n + 1) bv (newB w w' U) w' ∧ Mod (fun k => k = bv) w w') wr := by
   intro bb hb
   subst hb
   unfold f83_2
   refine kB_at ?_
   refine kIf_of (fun _ => ?_) (fun _ => last false _ _ hMk)
   refine kbld_of (cs := (⟨nid, q.a, q.n, q.c⟩ : R14).cells) rfl ?_
   exact hMk.app (by omega) ⟨nid, q.a, q.n, q.c⟩ fun y wt hy => last true _ _ hy
  unfold f83_1
  refine not_at ?_
  refine kB_at ?_
  refine kIf_of (fun hb => ?_) (fun hb => ?_)
  ·have hb : b = false := by simpa using hb
   refine kN_at ?_
   refine kfld_of ?_
   refine kld_at hbr rfl ?_
   refine kixfld_of (F := R14.cells) (sz := 2) (fun _ => rfl) (j := 0) (h3.same hmr) hlt rfl rfl ?_
   refine gtr_at ?_
   exact mid _ hb
  ·have hb : b = true := by simpa using hb
   subst hb
   unfold f83_2
   refine kB_at ?_
   refine kIf_F rfl ?_
   exact last true _ _ hMk
 ·have hi' : i = ll.length := by omega
  subst hi'
  have fin : ∀ (x' : Value) (ws : World), Mk2 w (ll.length + 1) x' ws → f83_6 (.pointer (some ⟨bv, 0, none⟩)) x' (fun v w' => V14 L (n + 1) bv (newB w w' U) w' ∧ Mod (fun k => k = bv) w w') ws := by
   intro x' ws hk
   obtain ⟨P, k1, k2, k3, k4⟩ := hk
   obtain ⟨a', n', c', rfl, hsl, _⟩ := k1.is
   have hn' : n' = P.length := by
    have := hsl.1
    rw [flat_len R14.cells 2 (fun _ => rfl)] at this
    omega
   subst hn'
   have hbv := hU bv hU8
   unfold f83_6
   refine kN_at ?_
   refine kfld_of ?_
   refine kst1_of (k4.get h1 (fun h => h)) rfl rfl (by show 3 < 10; omega) fun w38 h38 hs38 hb38 => ?_
   have hne : ∀ k f, a' = some ⟨k, f, none⟩ → w.heap.size ≤ k ∧ k < ws.heap.size := fun k f e => by
    have hv : vblk (.slice a' P.length c') k := ⟨f, _, _, by rw [e]⟩
    exact ⟨k3 k hv, k1.vblk_lt hv⟩
   have hz := h38.size
   exact ⟨⟨⟨a, cp, rv, a', P, c', mo, fr, nx, sd, gs, hb38, (h2.same k4).mod h38 (fun k f e => (h6 k f e).2), hsl.mod h38 (fun k f e hk => by have := (hne k f e).1; omega), by omega, h5, fun k f e => ⟨.inl (h6 k f e).1, (h6 k f e).2⟩, fun k f e => ⟨.inr ⟨(hne k f e).1, by have := (hne k f e).2; omega⟩, by have := (hne k f e).1; omega⟩⟩, .inl hU8⟩, (Mod.of_same k4).trans h38⟩
  unfold f83_5
  refine not_at ?_
  refine kB_at ?_
  refine kIf_of (fun hb => ?_) (fun hb => ?_)
  ·have hb : b = false := by simpa using hb
   subst hb
   refine kbld_of (cs := (⟨nid, q.a, q.n, q.c⟩ : R14).cells) rfl ?_
   exact hMk.app (by omega) ⟨nid, q.a, q.n, q.c⟩ fun y wt hy => fin _ _ (hy.more (by show ll.length + 0 + 1 ≤ _; omega))
  ·exact fin _ _ (hMk.more (by omega))
theorem r14Spawn (h : V14 L n bv U w) (hG : GoodSc L) (hU : ∀ k, U k → k < w.heap.size) (hn : n ≤ 100) {a : Option Addr} {P : List Part} {cp : Nat} (hs : SlIs w a P.length 6 (P.flatMap Part.cells)) (hP : P.length ≤ 64) : Meets Tryz.prog 40 #[.pointer (some ⟨bv, 0, none⟩), .slice a P.length cp] w fun v w' => V14 L (n + 1) bv (newB w w' U) w' ∧ Mod (fun k => k = bv) w w' := by
 have same : ∀ {ws : World}, Same w ws → V14 L (n + 1) bv (newB w ws U) ws ∧ Mod (fun k => k = bv) w ws := fun m => ⟨(h.same m).weak (fun k hk => .inl hk) (Nat.le_succ n), Mod.of_same m⟩
 refine f40_ok ?_
 unfold f40
 refine kcall_of (r14Gathered h hG hs hP) ?_
 rintro v w2 ⟨⟨a', n', c', e, rfl⟩, h2⟩
 refine kext_at rfl ?_
 refine kext_at rfl ?_
 refine neq_at ?_
 refine kB_at ?_
 refine kIf_dec (fun _ => same h2) (fun _ => ?_)
 have m2 : Same w w2.drew := h2.drew
 have go : ∀ bb : Bool, f40_1 (.pointer (some ⟨bv, 0, none⟩)) (.slice a' n' c') (.bool bb) (fun v w' => V14 L (n + 1) bv (newB w w' U) w' ∧ Mod (fun k => k = bv) w w') w2.drew := by
  intro bb
  generalize w2.drew = wd at *
  unfold f40_1
  refine kB_at ?_
  refine kIf_of (fun _ => same m2) (fun _ => ?_)
  have hd := h.same m2
  obtain ⟨⟨a, cp, rv, la, ll, lc, mo, fr, nx, sd, gs, hb, _⟩, _⟩ := id hd
  unfold f40_2
  refine kN_at ?_
  refine kfld_of ?_
  refine kld_at hb rfl ?_
  refine kN_at ?_
  refine kfld_of ?_
  refine kld_at hb rfl ?_
  refine kbld_of (cs := [.int .i64 7, .int .i64 0, .int .i64 0, .int .i64 0, .int .i64 0, .int .i64 0, .int .i64 0, .int .i64 0, .slice none 0 0, .int .i64 0, .int .i64 nx]) rfl ?_
  refine kcall_of (r14Note hd _) ?_
  rintro v w23 h23
  refine kbld_of (cs := [.int .i64 2, .int .i64 nx, .int .i64 0, .int .i64 0, .int .i64 0, .int .i64 0, .int .i64 0, .int .i64 0, .slice none 0 0, .int .i64 0, .int .i64 0]) rfl ?_
  refine kcall_of (r14Note (hd.same h23) _) ?_
  rintro v w26 h26
  have m26 := m2.trans (h23.trans h26)
  obtain ⟨⟨a, cp, rv, la, ll, lc, mo, fr, nx', sd, gs, h1, g2, g3, g4, g5, g6, g7⟩, g8⟩ := h.same m26
  refine kN_at ?_
  refine kfld_of ?_
  refine kld_at h1 rfl ?_
  rw [kint_add]
  refine kN_at ?_
  refine kfld_of ?_
  refine kst1_of h1 rfl rfl (by show 5 < 10; omega) fun w31 h31 hs31 hb31 => ?_
  have hm31 : Mod (fun k => k = bv) w w31 := (Mod.of_same m26).trans h31
  have h31' : V14 L n bv U w31 := ⟨⟨a, cp, rv, la, ll, lc, mo, fr, _, sd, gs, hb31, g2.mod h31 (fun k f e => (g6 k f e).2), g3.mod h31 (fun k f e => (g7 k f e).2), g4, g5, g6, g7⟩, g8⟩
  refine kcall_of (r14Add h31' (fun k hk => Nat.lt_of_lt_of_le (hU k hk) hm31.size) hn nx ⟨0, a', n', c'⟩) ?_
  rintro v w33 ⟨hv, hm⟩
  have hz := hm31.size
  exact ⟨hv.weak (fun k hk => hk.imp id fun hk => ⟨by omega, hk.2⟩) (Nat.le_refl _), hm31.trans hm⟩
 obtain ⟨⟨a, cp, rv, la, ll, lc, mo, fr, nx, sd, gs, hb, _⟩, _⟩ := h.same m2
 unfold f40_0
 refine kN_at ?_
 refine kfld_of ?_
 refine kld_at hb rfl ?_
 refine kG_of rfl ?_
 refine klen_at ?_
 refine kN_at ?_
 refine kfld_of ?_
 refine kld_at hb rfl ?_
 refine kG_of rfl ?_
 refine geq_at ?_
 refine kB_at ?_
 refine kIf_ndec (fun _ => ?_) (fun _ => go true)
 refine kN_at ?_
 refine kfld_of ?_
 refine kld_at hb rfl ?_
 refine kG_of rfl ?_
 refine gtr_at ?_
 exact go _
end
end
section
attribute [local irreducible] kO kB kStr kInt kN kG kIf kfld kld kldN kst knew kmap kbld kbldS kext kcnv klenStr klen kcap kprt kprtN kbool kint kstr keq kun ksl kix kiv kta kmk kmm ksem ksemU kextf kcallV kcallM kcall kL
section
variable {L : List Comp} {w : World} {a : Option Addr} {cp : Nat} {ra : Option Addr} {R : List ResM} {rc : Nat}
theorem r15New (hs : SlIs w a L.length 7 (L.flatMap Comp.cells)) (hG : GoodSc L) (hL10 : L.length ≤ 10) (hr : SlIs w ra R.length 2 (R.flatMap ResM.cells)) (hGR : GoodR L R) (many : Nat) (hm : many ≤ 64) :
  Meets Tryz.prog 36 #[scV a L.length cp (.slice ra R.length rc), .int .i64 many] w fun v w' => (∃ b, v = .pointer b) ∧ Same w w' := by
 have hck := fun w2 (m : Same w w2) => refCheck (cp := cp) (rc := rc) (hs.same m) hG hL10 (hr.same m) hGR
 rw [scV] at hck ⊢
 refine f36_ok ?_
 unfold f36
 refine knew_of fun w2 h2 hs2 hb2 => ?_
 have hb2 : blk w2 w.heap.size = some (.cells #[.slice a L.length cp, .slice ra R.length rc] 78) := hb2
 refine kldN_at hb2 rfl (by omega) ?_
 refine kcall_of (hck w2 h2) ?_
 rintro v w5 ⟨⟨b, rfl⟩, h5⟩
 refine klen_at ?_
 refine gtr_at ?_
 refine kB_at ?_
 refine kIf_T rfl ?_
 refine lss_at ?_
 refine kB_at ?_
 refine kIf_ndec (fun _ => ?_) (fun h => absurd h (by omega))
 refine gtr_at ?_
 rw [decF (by omega)]
 unfold f36_0
 refine kB_at ?_
 refine kIf_F rfl ?_
 unfold f36_1
 refine kldN_at (h5.get hb2 (fun h => h)) rfl (by omega) ?_
 refine kbld_of (cs := [.slice a L.length cp, .slice ra R.length rc, .int .i64 many, .slice none 0 0, .int .i64 0, .int .i64 0]) rfl ?_
 refine knew_of fun w16 h16 hs16 hb16 => ?_
 exact ⟨⟨_, rfl⟩, (h2.trans h5).trans h16⟩
theorem r14New (hs : SlIs w a L.length 7 (L.flatMap Comp.cells)) (hG : GoodSc L) (h0 : 0 < L.length) (hL10 : L.length ≤ 10) (hr : SlIs w ra R.length 2 (R.flatMap ResM.cells)) (hGR : GoodR L R) {lo : Nat} (hlo : lo ≤ w.heap.size) (hfa : ∀ k f, a = some ⟨k, f, none⟩ → lo ≤ k) (many : Nat) (hm : many ≤ 64) (seed : Int) :
  Meets Tryz.prog 35 #[scV a L.length cp (.slice ra R.length rc), .int .i64 many, .int .i64 seed] w fun v w' => ∃ bv, v = .pointer (some ⟨bv, 0, none⟩) ∧ V14 L 0 bv (fun k => lo ≤ k ∧ k < w'.heap.size) w' ∧ Same w w' := by
 have hlR := hGR.len
 have hck := fun w2 (m : Same w w2) => refCheck (cp := cp) (rc := rc) (hs.same m) hG hL10 (hr.same m) hGR
 rw [scV] at hck ⊢
 refine f35_ok ?_
 unfold f35
 refine knew_of fun w2 h2 hs2 hb2 => ?_
 have hb2 : blk w2 w.heap.size = some (.cells #[.slice a L.length cp, .slice ra R.length rc] 78) := hb2
 refine kldN_at hb2 rfl (by omega) ?_
 refine kcall_of (hck w2 h2) ?_
 rintro v w5 ⟨⟨b, rfl⟩, h5⟩
 have hb5 := h5.get hb2 (fun h => h)
 have m5 := h2.trans h5
 refine klen_at ?_
 refine gtr_at ?_
 refine kB_at ?_
 refine kIf_T rfl ?_
 refine lss_at ?_
 refine kB_at ?_
 refine kIf_ndec (fun _ => ?_) (fun h => absurd h (by omega))
 refine gtr_at ?_
 rw [decF (by omega)]
 unfold f35_0
 refine kB_at ?_
 refine kIf_F rfl ?_
 unfold f35_1
 refine kldN_at hb5 rfl (by omega) ?_
 refine kbld_of (cs := [.slice a L.length cp, .slice ra R.length rc, .int .i64 many, .slice none 0 0, .int .i64 0, .int .i64 1, .int .i64 seed, .slice none 0 0, .slice none 0 0, .bool false]) rfl ?_
 refine knew_of fun w16 h16 hs16 hb16 => ?_
 have m16 := m5.trans h16
 have hz5 := m5.size
 refine kL1_of R.length (fun i x wr => x = .int .i64 i ∧ ∃ gs, blk wr w5.heap.size = some (.cells #[.slice a L.length cp, .slice ra R.length rc, .int .i64 many, .slice none 0 0, .int .i64 0, .int .i64 1, .int .i64 seed, gs, .slice none 0 0, .bool false] 81) ∧ Own wr gs 1 (((R.take i).map (·.value)).map (Value.int .i64)) ∧ (∀ k, vblk gs k → w16.heap.size ≤ k) ∧ Same w wr ∧ blk wr w.heap.size = some (.cells #[.slice a L.length cp, .slice ra R.length rc] 78) ∧ w16.heap.size ≤ wr.heap.size) ⟨lI1_0 ⟨rfl, _, hb16, Own.nil _ _, (fun k hk => absurd hk (nvn k)), m16, h16.get hb5 (fun h => h), Nat.le_refl _⟩, fun x wr hx => ?_⟩
 obtain ⟨i, hi, ⟨rfl, gs, hbg, hO, hgk, hwr, hsc, hzr⟩, hJ⟩ := lI1_step hx
 unfold f35_2
 refine kfld_of ?_
 refine kld_at hsc rfl ?_
 refine klen_at ?_
 refine lss_at ?_
 refine kB_at ?_
 refine kIf_dec (fun hlt => ?_) (fun hge => ?_)
 ·have hlt : i < R.length := by omega
  have htk : ((R.take (i + 1)).map (·.value)).map (Value.int .i64) = ((R.take i).map (·.value)).map (Value.int .i64) ++ [.int .i64 (R[i]).value] := by
   rw [List.take_succ_eq_append_getElem hlt, List.map_append, List.map_append]; rfl
  have hlo' : (((R.take i).map (·.value)).map (Value.int .i64)).length = i := by
   rw [List.length_map, List.length_map, List.length_take]; omega
  unfold f35_3
  have md : Same wr wr.drew := (Mod.refl (fun _ => False) _).drew
  have hbd := md.get hbg (fun h => h)
  have hsd := md.get hsc (fun h => h)
  have hOd := hO.same md
  have mrd := hwr.trans md
  have hzd := md.size
  generalize wr.drew = wd at *
  refine kN_at ?_
  refine kfld_of ?_
  refine kld_of (v := gs) hbd rfl ?_
  refine kG_of rfl ?_
  refine kfld_of ?_
  refine kld_at hsd rfl ?_
  refine kG_of rfl ?_
  refine kixfld_of (F := ResM.cells) (sz := 2) (fun _ => rfl) (j := 1) (hr.same mrd) hlt rfl rfl ?_
  refine kG_of rfl ?_
  refine kbldS_of (cs := [.int .i64 (R[i]).value]) rfl fun w36 h36 hs36 hb36 => ?_
  refine kG_of (kld_of (v := gs) (h36.get hbd (fun h => h)) rfl ⟨rfl, rfl⟩) ?_
  refine ksem_append apNums (by omega) (hOd.same h36) (Src.ofSlIs (hk := slNums_is.choose_spec) 1 (SlIs.blk hb36 rfl) rfl) (by rw [hlo']; simp; omega) (by rw [hlo']; simp; omega) ?_
  intro v' w38 hO38 m38 hf38
  have hgk2 : ∀ k, vblk v' k → w16.heap.size ≤ k := fun k hk => by
   rcases hf38 k hk with h | h
   ·exact hgk k h
   ·have := h36.size; omega
  have hlt16 : w5.heap.size < w16.heap.size := lt_of_blk hb16
  have hltw : w.heap.size < w16.heap.size := lt_of_blk (h16.get hb5 (fun h => h))
  have hg38 := m38.get (h36.get hbd (fun h => h)) (fun hk => by have := hgk _ hk; omega)
  have hs38 := m38.get (h36.get hsd (fun h => h)) (fun hk => by have := hgk _ hk; omega)
  obtain ⟨av, nv, cv, rfl, _, _⟩ := hO38.is
  refine kN_at ?_
  refine kfld_of ?_
  refine kst1_of hg38 rfl rfl (by show 7 < 10; omega) fun w40 h40 hs40 hb40 => ?_
  have hb40 : blk w40 w5.heap.size = some (.cells #[.slice a L.length cp, .slice ra R.length rc, .int .i64 many, .slice none 0 0, .int .i64 0, .int .i64 1, .int .i64 seed, .slice av nv cv, .slice none 0 0, .bool false] 81) := hb40
  unfold f35_4
  refine add_at (by omega) (by omega) ?_
  rw [cast_succ]
  have hz38 := m38.size
  have hz36 := h36.size
  refine hJ _ _ hlt ⟨rfl, .slice av nv cv, hb40, ?_, hgk2, ?_, h40.get hs38 (fun e => by have := lt_of_blk hb2; have := h5.size; omega), by omega⟩
  ·rw [htk]
   exact hO38.mod h40 fun k hk e => by have := hgk2 k hk; omega
  ·exact (mrd.trans h36).trans' ((m38.mono fun k _ e => .inr (by have := hgk k e; omega)).trans (h40.mono fun k _ e => .inr (by omega)))
 ·have : w5.heap.size < w16.heap.size := lt_of_blk hb16
  exact ⟨_, rfl, ⟨⟨a, cp, _, none, [], 0, many, 0, 1, seed, gs, hbg, hs.same hwr, SlIs.nil _ _ _, Nat.le_refl _, rfl, fun k f e => ⟨⟨hfa k f e, by have := sl_lt hs h0 (by omega) k f e; omega⟩, by have := sl_lt hs h0 (by omega) k f e; omega⟩, fun k f e => by cases e⟩, ⟨by omega, by omega⟩⟩, hwr⟩
end
theorem apCo17 : appT Tryz.prog 75 7 64 = true := by kernel_rfl
theorem slCo17_is : ∃ e, Tryz.prog.underlying 75 = some (.slice e) := slT_of (by kernel_rfl)
structure Plain (lo : Nat) (w : World) (v : Value) : Prop where
 ex : ∃ a cp ra rc, v = scV a plainC.length cp (.slice ra plainR.length rc) ∧ SlIs w a plainC.length 7 (plainC.flatMap Comp.cells) ∧ SlIs w ra plainR.length 2 (plainR.flatMap ResM.cells) ∧ ∀ k f, a = some ⟨k, f, none⟩ → lo ≤ k
theorem plain_spec (w : World) : Meets Tryz.prog 33 #[] w fun v w' => Plain w.heap.size w' v ∧ Same w w' := by
 have hp2 : plainR.length = 2 := rfl
 refine f33_ok ?_
 unfold f33
 refine knew_of fun w2 h2 hs2 hb2 => ?_
 refine kbld_of (cs := (⟨⟨#[115]⟩, 5⟩ : ResM).cells) rfl ?_
 refine kbld_of (cs := (⟨⟨#[116]⟩, 0⟩ : ResM).cells) rfl ?_
 refine kbldS_of (cs := plainR.flatMap ResM.cells) rfl fun w6 h6 hs6 hb6 => ?_
 refine kbld_of (cs := [.slice none 0 0, .slice (some ⟨w2.heap.size, 0, none⟩) 2 2]) rfl ?_
 refine knew_of fun w9 h9 hs9 hb9 => ?_
 refine kst_of (vs := [.slice none 0 0, .slice (some ⟨w2.heap.size, 0, none⟩) 2 2]) hb9 rfl rfl rfl (by simp) (by simp) fun w10 h10 hs10 hb10 => ?_
 have hb10 : blk w10 w6.heap.size = some (.cells #[.slice none 0 0, .slice (some ⟨w2.heap.size, 0, none⟩) 2 2] 78) := hb10
 have m10 : Same w6 w10 := h9.trans' (h10.mono fun k _ e => .inr (by omega))
 have mw := (h2.trans h6).trans m10
 have hr10 : SlIs w10 (some ⟨w2.heap.size, 0, none⟩) plainR.length 2 (plainR.flatMap ResM.cells) := (SlIs.blk hb6 rfl).same m10
 have hb210 := (h6.trans m10).get hb2 (fun h => h)
 have hz2 := h2.size
 have hz6 := h6.size
 have hz10 := m10.size
 have hl2 := lt_of_blk hb2
 have hl6 := lt_of_blk hb6
 have hl10 := lt_of_blk hb10
 clear h9 hb9 h10 hs10
 refine kL1_of 4 (fun j x wr => x = .int .i64 j ∧ ∃ va, blk wr w6.heap.size = some (.cells #[va, .slice (some ⟨w2.heap.size, 0, none⟩) 2 2] 78) ∧ Own wr va 7 ((plainC.take j).flatMap Comp.cells) ∧ (∀ k, vblk va k → w10.heap.size ≤ k) ∧ Mod (fun k => k = w6.heap.size) w10 wr) ⟨lI1_0 ⟨rfl, _, hb10, Own.nil _ _, (fun k hk => absurd hk (nvn k)), Mod.refl _ _⟩, fun x wr hx => ?_⟩
 obtain ⟨j, hj, ⟨rfl, va, hbv, hO, hva, hm⟩, hJ⟩ := lI1_step hx
 have hzr := hm.size
 unfold f33_0
 refine lss_at ?_
 refine kB_at ?_
 refine kIf_dec (fun hlt => ?_) (fun hge => ?_)
 ·have hlt : j < 4 := by omega
  have hpl : plainC.length = 4 := rfl
  have htk : (plainC.take (j + 1)).flatMap Comp.cells = (plainC.take j).flatMap Comp.cells ++ (plainQ j).cells := by
   rw [List.take_succ_eq_append_getElem (by omega), List.flatMap_append]
   congr 1
   rw [List.flatMap_singleton]
   congr 1
   unfold plainC
   rw [List.getElem_map, List.getElem_range]
  have hlen : ((plainC.take j).flatMap Comp.cells).length = j * 7 := by
   rw [flat_len Comp.cells 7 (fun _ => rfl), List.length_take]
   rw [Nat.min_eq_left (by omega)]
  unfold f33_1
  have md : Same wr wr.drew := (Mod.refl (fun _ => False) _).drew
  have hbd := md.get hbv (fun h => h)
  have hOd := hO.same md
  have hmd := hm.trans (Mod.of_same md)
  have hzd := md.size
  generalize wr.drew = wd at *
  refine kfld_of ?_
  refine kld_of (v := va) hbd rfl ?_
  refine kG_of rfl ?_
  refine add_at (by omega) (by omega) ?_
  rw [ksl_string rfl rfl]
  refine kG_of ?_ ?_
  ·simp only [loV_int, hiV_int]
   exact ⟨by omega, by omega, by show (j : Int) + 1 ≤ 4; omega⟩
  simp only [loV_int, hiV_int]
  rw [show ((j : Int)).toNat = j from Int.toNat_natCast j, show ((j : Int) + 1).toNat = j + 1 by omega, plain_str j hlt]
  refine add_at (by omega) (by omega) ?_
  refine lss_at ?_
  refine kbld_of (cs := [.int .i64 j, .int .i64 0, .int .i64 0, .int .i64 0]) rfl ?_
  have hq : (plainQ j).cells = [.string ⟨#[UInt8.ofNat (97 + j)]⟩, .int .i64 (1 + (j : Int)), .bool (decide ((j : Int) < 3)), .int .i64 j, .int .i64 0, .int .i64 0, .int .i64 0] := by
   have e1 : ((1 + j : Nat) : Int) = 1 + (j : Int) := by omega
   have e2 : decide (j < 3) = decide ((j : Int) < 3) := by
    by_cases h : j < 3
    ·rw [decide_eq_true h, decide_eq_true (by omega)]
    ·rw [decide_eq_false h, decide_eq_false (by omega)]
   show [Value.string ⟨#[UInt8.ofNat (97 + j)]⟩, .int .i64 ((1 + j : Nat) : Int), .bool (decide (j < 3)), .int .i64 j, .int .i64 0, .int .i64 0, .int .i64 0] = _
   rw [e1, e2]
  refine kbld_of (cs := (plainQ j).cells) (by rw [hq]; rfl) ?_
  refine kbldS_of (cs := (plainQ j).cells) rfl fun w21 h21 hs21 hb21 => ?_
  have hbd21 := h21.get hbd (fun h => h)
  refine kG_of (kld_of (v := va) hbd21 rfl ⟨rfl, rfl⟩) ?_
  refine ksem_append apCo17 (by omega) (hOd.same h21) (Src.ofSlIs (hk := slCo17_is.choose_spec) 1 (SlIs.blk hb21 rfl) rfl) (by rw [hlen]; show j * 7 + 7 ≤ _; omega) (by rw [hlen]; show _; simp [Comp.cells]; omega) ?_
  intro v' w23 ho23 hm23 hf23
  have hb23 := hm23.get hbd21 (fun hk => by have := hva _ hk; omega)
  have hv' : ∀ k, vblk v' k → w10.heap.size ≤ k := fun k hk => by
   rcases hf23 k hk with h | h
   ·exact hva k h
   ·have := h21.size; omega
  obtain ⟨a', n', c', rfl, _, _⟩ := ho23.is
  refine kfld_of ?_
  refine kst1_of hb23 rfl rfl (by show 0 < 2; omega) fun w25 h25 hs25 hb25 => ?_
  have hb25 : blk w25 w6.heap.size = some (.cells #[.slice a' n' c', .slice (some ⟨w2.heap.size, 0, none⟩) 2 2] 78) := hb25
  unfold f33_2
  refine add_at (by omega) (by omega) ?_
  rw [cast_succ]
  refine hJ _ _ hlt ⟨rfl, .slice a' n' c', hb25, ?_, hv', ?_⟩
  ·rw [htk]
   exact ho23.mod h25 fun k hk e => by have := hv' k hk; omega
  ·exact (hmd.trans (Mod.of_same h21)).trans' ((hm23.mono fun k _ e => .inr (hva k e)).trans (h25.mono fun k _ e => .inl e))
 ·have hj4 : j = 4 := by omega
  subst hj4
  obtain ⟨a', n', c', rfl, hsl, _⟩ := hO.is
  have hn' : n' = plainC.length := by
   have := hsl.1
   rw [flat_len Comp.cells 7 (fun _ => rfl)] at this
   have : (plainC.take 4).length = 4 := rfl
   have : plainC.length = 4 := rfl
   omega
  subst hn'
  unfold f33_3
  refine kldN_at hbv rfl (by omega) ?_
  refine kst_of (vs := [.slice a' plainC.length c', .slice (some ⟨w2.heap.size, 0, none⟩) 2 2]) (hm.get hb210 (by omega)) rfl rfl rfl (by simp) (by simp) fun w29 h29 hs29 hb29 => ?_
  have hb29 : blk w29 w.heap.size = some (.cells #[.slice a' plainC.length c', .slice (some ⟨w2.heap.size, 0, none⟩) 2 2] 78) := hb29
  refine kldN_at hb29 rfl (by omega) ?_
  have hla : ∀ k f, a' = some ⟨k, f, none⟩ → w10.heap.size ≤ k := fun k f e => hva k ⟨f, _, _, by rw [e]⟩
  refine ⟨⟨a', c', _, _, rfl, hsl.mod h29 (fun k f e hk => by have := hla k f e; omega), (hr10.mod hm (fun k f e hk => by cases e; omega)).mod h29 (fun k f e hk => by cases e; omega), fun k f e => by have := hla k f e; omega⟩, ?_⟩
  exact mw.trans' ((hm.mono fun k _ e => .inr (by omega)).trans (h29.mono fun k _ e => .inr (by omega)))
end
section
def partM (i c : Nat) : Part := ⟨(c : Int), ((10 * i + c : Nat) : Int), 0, 0, 0, 0⟩
def partsM (i m j : Nat) : List Part := ((List.range j).filter fun c => decide (m / 2 ^ c % 2 = 1)).map (partM i)
def laidV (M : List Nat) (n : Nat) : ViewT := (List.range n).map fun i => (i + 1, partsM i (M.getD i 0) 4)
theorem partsM_succ (i m j : Nat) : partsM i m (j + 1) = if m / 2 ^ j % 2 = 1 then partsM i m j ++ [partM i j] else partsM i m j := by
 unfold partsM
 rw [List.range_succ, List.filter_append, List.map_append]
 by_cases h : m / 2 ^ j % 2 = 1
 ·rw [if_pos h, List.filter_cons_of_pos (by simpa using h)]; rfl
 ·rw [if_neg h, List.filter_cons_of_neg (by simpa using h)]; simp
theorem laidV_succ (M : List Nat) (n : Nat) : laidV M (n + 1) = laidV M n ++ [(n + 1, partsM n (M.getD n 0) 4)] := by
 unfold laidV
 rw [List.range_succ, List.map_append]; rfl
theorem laidV_len (M : List Nat) (n : Nat) : (laidV M n).length = n := by unfold laidV; rw [List.length_map, List.length_range]
theorem partsM_mem {i m j : Nat} {q : Part} (h : q ∈ partsM i m j) : ∃ c, c < j ∧ q = partM i c := by
 obtain ⟨c, hc, rfl⟩ := List.mem_map.1 h
 exact ⟨c, by simpa using (List.mem_filter.1 hc).1, rfl⟩
theorem partsM_len (i m j : Nat) : (partsM i m j).length ≤ j := by
 unfold partsM
 rw [List.length_map]
 exact Nat.le_trans (List.length_filter_le _ _) (by simp)
theorem partsM_fits {i m : Nat} : ∀ q ∈ partsM i m 4, FitsP plainC q := by
 intro q hq
 obtain ⟨c, hc, rfl⟩ := partsM_mem hq
 refine ⟨c, rfl, hc, ?_⟩
 have h : c = 0 ∨ c = 1 ∨ c = 2 ∨ c = 3 := by omega
 rcases h with rfl | rfl | rfl | rfl <;> intro x hx <;> simp [Part.vals, partM, wdF, plainC, plainQ] at hx <;> first | exact hx | simp_all
theorem partsM_comps (i m j : Nat) : (partsM i m j).map (·.comp) = ((List.range j).filter fun c => decide (m / 2 ^ c % 2 = 1)).map fun c : Nat => (c : Int) := by
 unfold partsM
 rw [List.map_map]; rfl
theorem range_asc (j : Nat) : (List.range j).Pairwise (· < ·) := by
 rw [List.pairwise_iff_getElem]
 intro a b ha hb hab
 rw [List.getElem_range, List.getElem_range]; exact hab
theorem partsM_once (i m j : Nat) : NoTwice (partsM i m j) := by
 unfold NoTwice
 rw [partsM_comps]
 refine List.pairwise_map.2 (List.Pairwise.imp ?_ ((range_asc j).filter _))
 intro a b hab e
 omega
theorem partsM_sort (i m j : Nat) : SortP (partsM i m j) := by
 unfold SortP partsM
 refine List.pairwise_map.2 (List.Pairwise.imp ?_ ((range_asc j).filter _))
 intro a b hab
 show (a : Int) ≤ (b : Int)
 omega
theorem partsM_ok {i m j : Nat} (hi : i ≤ 1000000) (hj : j ≤ 4) : ∀ q ∈ partsM i m j, q.ok := by
 intro q hq
 obtain ⟨c, hc, rfl⟩ := partsM_mem hq
 unfold Part.ok partM I64
 simp
 omega
theorem laidV_ok (M : List Nat) {n : Nat} (hn : n ≤ 1000000) : okV (laidV M n) := by
 intro y hy q hq
 obtain ⟨i, hi, rfl⟩ := List.mem_map.1 hy
 have hi : i < n := by simpa using hi
 exact partsM_ok (by omega) (by omega) q hq
section
variable {c : WC} {w0 : World} {o : OC} {X : Nat → Prop} {w w' : World} {S : SM} {t : Nat} {B : BdM} {l : List OrdM} {gv dr : Nat}
theorem pTick (h : Pair c w0 o X w S t B l gv dr) (hap : ∀ k, X k → ¬ c.mine k) (hf : 0 ≤ c.frame) (hlt : c.frame < 1073741824) :
  Meets Tryz.prog 37 #[.pointer (some ⟨c.bw, 0, none⟩)] w fun v w' => v = .nilIface ∧ Pair (c.tune c.R (c.frame + 1) c.seed c.gn) w0 o X w' S t B l gv dr ∧ Mod (fun k => w0.heap.size ≤ k ∧ ¬ X k) w w' := by
 obtain ⟨⟨fx, U, hW, hO, hU, hX⟩, h0⟩ := h
 refine (wTick hW hf hlt).mono ?_
 rintro v w' ⟨rfl, hW', hm⟩
 exact ⟨rfl, Pair.tune (c := c) h0 hO hU hX hap rfl hW' hm⟩
theorem pSpawn {pr : Nat → Prop} {Sa : Nat → Addr} (hL : LaidP pr Sa w0) (h6 : pr 6) (hD : DeAt w0) (h : Pair c w0 o X w S t B l gv dr) (ht : t ≤ 10000) (hnx : B.nx ≤ 1000000)
  {P : List Part} {a : Option Addr} {cp : Nat} (hs : SlIs w a P.length 6 (P.flatMap Part.cells)) (hfa : ∀ k f, a = some ⟨k, f, none⟩ → X k) (hn : P.length ≤ 64) (hf : ∀ q ∈ P, FitsP c.L q) (hnt : NoTwice P) (hso : SortP P) (hlt : (viewS S B).length < S.gens.length) :
  Meets Tryz.prog 39 #[.pointer (some ⟨c.bw, 0, none⟩), .slice a P.length cp] w fun v w' => v = .tuple #[natV B.nx, .nilIface] ∧ ∃ S' B', viewS S' B' = viewS S B ++ [(B.nx, P)] ∧ B'.nx = B.nx + 1 ∧ S'.gens.length = S.gens.length ∧ Pair c w0 o X w' S' (t + 1) B' l gv dr ∧ Mod (fun k => w0.heap.size ≤ k ∧ ¬ X k) w w' := by
 obtain ⟨⟨fx, U, hW, hO, hU, hX⟩, h0⟩ := h
 refine (wSpawn_ok hL h6 hD hW ht hnx hs (fun k f e => hX k (hfa k f e)) hn hf hnt hso hlt).mono ?_
 rintro v w' ⟨rfl, S', B', hW', hg, hm, hv, hn⟩
 exact ⟨rfl, S', B', hv, hn, hg, Pair.act h0 hO hU hX hW' hm⟩
theorem Pair.gens (h : Pair c w0 o X w S t B l gv dr) : B.l.length ≤ 64 := by
 obtain ⟨⟨fx, U, hW, hO, hU, hX⟩, h0⟩ := h
 exact hW.le
end
def layC (a : Option Addr) (n cp : Nat) (i0 i1 who seed : Int) (wd og : Bool) : List Value := [.slice a n cp, .int .i64 i0, .int .i64 i1, .int .i64 who, .int .i64 seed, .bool wd, .bool og]
structure LaidI (w : World) (c : WC) (o : OC) (bh bv : Nat) (lay host : Array Value) (n m : Nat) (V : ViewT) (X : Nat → Prop) (ww : World) : Prop where
 pr : ∃ S t B, Pair c w o X ww S t B [] 0 0 ∧ viewS S B = V ∧ B.nx = n + 1 ∧ S.gens.length = 20 ∧ t ≤ n
 v : V14 plainC m bv X ww
 hx : blk ww w.heap.size = some (.cells lay 26)
 hh : blk ww bh = some (.cells host 38)
 ap : ∀ k, X k → ¬ c.mine k
 at' : w.heap.size ≠ bv ∧ bh ≠ bv ∧ X w.heap.size ∧ X bh
section
variable {w : World} {c : WC} {o : OC} {bh bv n m : Nat} {lay host : Array Value} {V : ViewT} {X : Nat → Prop} {ww wr : World}
theorem LaidI.lt (h : LaidI w c o bh bv lay host n m V X ww) {k : Nat} (hk : X k) : w.heap.size ≤ k ∧ k < ww.heap.size := by
 obtain ⟨S, t, B, hP, _⟩ := h.pr
 exact hP.lt hk
theorem LaidI.mlt (h : LaidI w c o bh bv lay host n m V X ww) {k : Nat} (hk : c.mine k) : w.heap.size ≤ k ∧ k < ww.heap.size := by
 obtain ⟨S, t, B, ⟨⟨fx, U, hW, _⟩, _⟩, _⟩ := h.pr
 exact hW.A.lt (hW.fm k hk)
theorem LaidI.same0 (h : LaidI w c o bh bv lay host n m V X ww) : Same w ww := by
 obtain ⟨S, t, B, hP, _⟩ := h.pr
 exact hP.same0
theorem LaidI.act (h : LaidI w c o bh bv lay host n m V X ww) {c' : WC} {n' : Nat} {V' : ViewT} (hc : c'.mine = c.mine) (hP : ∃ S t B, Pair c' w o X wr S t B [] 0 0 ∧ viewS S B = V' ∧ B.nx = n' + 1 ∧ S.gens.length = 20 ∧ t ≤ n') (mm : Mod (fun k => w.heap.size ≤ k ∧ ¬ X k) ww wr) : LaidI w c' o bh bv lay host n' m V' X wr :=
 ⟨hP, h.v.mod mm fun k hk hn => hn.2 hk, mm.get h.hx (fun e => e.2 h.at'.2.2.1), mm.get h.hh (fun e => e.2 h.at'.2.2.2), by rw [hc]; exact h.ap, h.at'⟩
theorem LaidI.ap' (h : LaidI w c o bh bv lay host n m V X ww) : ∀ k, newB ww wr X k → ¬ c.mine k := by
 intro k hk
 rcases hk with hk | hk
 ·exact h.ap k hk
 ·intro e
  have := (h.mlt e).2
  omega
theorem LaidI.grow (h : LaidI w c o bh bv lay host n m V X ww) (mm : Same ww wr) : LaidI w c o bh bv lay host n m V (newB ww wr X) wr := by
 obtain ⟨S, t, B, hP, h2⟩ := id h.pr
 exact ⟨⟨S, t, B, hP.grow mm fun k hk => hk.elim, h2⟩, (h.v.same mm).weak (fun k hk => .inl hk) (Nat.le_refl _), mm.get h.hx (fun h => h), mm.get h.hh (fun h => h), h.ap', ⟨h.at'.1, h.at'.2.1, .inl h.at'.2.2.1, .inl h.at'.2.2.2⟩⟩
theorem LaidI.doc (h : LaidI w c o bh bv lay host n m V X ww) {m' : Nat} (hv : V14 plainC m' bv (newB ww wr X) wr) (mm : Mod (fun k => k = bv) ww wr) : LaidI w c o bh bv lay host n m' V (newB ww wr X) wr := by
 obtain ⟨S, t, B, hP, h2⟩ := id h.pr
 have hP' := hP.grow mm fun k hk => by subst hk; exact ⟨h.v.own, h.ap _ h.v.own⟩
 exact ⟨⟨S, t, B, hP', h2⟩, hv, mm.get h.hx h.at'.1, mm.get h.hh h.at'.2.1, h.ap', ⟨h.at'.1, h.at'.2.1, .inl h.at'.2.2.1, .inl h.at'.2.2.2⟩⟩
end
end
section
attribute [local irreducible] kO kB kStr kInt kN kG kIf kfld kld kldN kst knew kmap kbld kbldS kext kcnv klenStr klen kcap kprt kprtN kbool kint kstr keq kun ksl kix kiv kta kmk kmm ksem ksemU kextf kcallV kcallM kcall kL
theorem mul_at {K : Value → Prop} {a b : Int} (h1 : -9223372036854775808 ≤ a * b) (h2 : a * b ≤ 9223372036854775807) (h : K (.int .i64 (a * b))) : kint .i64 .mul (.int .i64 a) (.int .i64 b) K := by
 rw [kint_mul, wrap_i64 h1 h2]; exact h
section
variable {w : World} {c : WC} {o : OC} {bh bv : Nat} {X : Nat → Prop} {ww wr : World}
theorem laid_parts {pr : Nat → Prop} {Sa : Nat → Addr} (hL : LaidP pr Sa w) (h6 : pr 6) (hD : DeAt w) {a : Option Addr} {cp : Nat} {M : List Nat} (hs : SlIs w a M.length 1 (M.map msk)) (hM : ∀ m ∈ M, m < 4294967296) {i0 i1 who seed : Int} {wd og : Bool} {host : Array Value} {i m : Nat} (hcL : c.L = plainC) (hi : i < M.length) (hi20 : i < 20) (hm : m ≤ 99)
  (h : LaidI w c o bh bv (layC a M.length cp i0 i1 who seed wd og).toArray host i m (laidV M i) X ww) (xo xu : Value) {J : Value → World → Prop} {Q : PQ}
  (hJ : ∀ X' w', LaidI w c o bh bv (layC a M.length cp i0 i1 who seed wd og).toArray host (i + 1) (m + 1) (laidV M (i + 1)) X' w' → J (.int .i64 ((i + 1 : Nat) : Int)) w') :
  f8_4 (.pointer (some ⟨w.heap.size, 0, none⟩)) (.pointer (some ⟨bh, 0, none⟩)) (.pointer (some ⟨c.bw, 0, none⟩)) xo (.pointer (some ⟨bv, 0, none⟩)) xu (.int .i64 i) J Q ww := by
 have h0w := h.same0
 have hMi : M.getD i 0 = M[i] := by rw [List.getD_eq_getElem?_getD, List.getElem?_eq_getElem hi]; rfl
 have hml : M[i] < 4294967296 := hM _ (List.getElem_mem hi)
 unfold f8_4
 refine kbldS_of (cs := []) rfl fun w4 h4 hs4 hb4 => ?_
 refine kL2_of 4 (fun j x y wr => y = .int .i64 j ∧ Own wr x 6 ((partsM i M[i] j).flatMap Part.cells) ∧ (∀ k, vblk x k → ww.heap.size ≤ k) ∧ Same ww wr) ⟨lI2_0 ⟨rfl, Own.blk hb4 (n := 0) (by simp [partsM]) (by simp [maxLen]), fun k hk => by rw [vblk_new hk]; exact Nat.le_refl _, h4⟩, fun x y wr hx => ?_⟩
 obtain ⟨j, hj, ⟨rfl, hO, hxk, hmr⟩, hJ2⟩ := lI2_step hx
 have hxr := hmr.get h.hx (fun h => h)
 have hfl := flat_len Part.cells 6 (fun _ => rfl) (partsM i M[i] j)
 have hpl := partsM_len i M[i] j
 unfold f8_5
 refine lss_at ?_
 refine kB_at ?_
 refine kIf_dec (fun hlt => ?_) (fun hge => ?_)
 ·have hlt : j < 4 := by omega
  unfold f8_6
  refine kfld_of ?_
  refine kld_of (v := .slice a M.length cp) hxr rfl ?_
  refine kixld_of (F := msk) (hs.same (h0w.trans hmr)) hi rfl ?_
  rw [msk, kint_shr]
  refine kG_of (by omega) ?_
  rw [shr_nat (k := .u32) M[i] j (by show j ≤ 32; omega), kint_rem]
  refine kG_of (by omega) ?_
  have hrem : ((M[i] / 2 ^ j : Nat) : Int).tmod 2 = ((M[i] / 2 ^ j % 2 : Nat) : Int) := by rw [Int.tmod_eq_emod_of_nonneg (Int.natCast_nonneg _)]; simp
  rw [hrem]
  refine eql_at ?_
  refine kB_at ?_
  refine kIf_dec (fun hb => ?_) (fun hb => ?_)
  ·have hb : M[i] / 2 ^ j % 2 = 1 := by omega
   refine mul_at (by omega) (by omega) ?_
   refine add_at (by omega) (by omega) ?_
   rw [show (10 : Int) * (i : Int) + (j : Int) = ((10 * i + j : Nat) : Int) by omega]
   refine kbld_of (cs := [.int .i64 ((10 * i + j : Nat) : Int), .int .i64 0, .int .i64 0, .int .i64 0]) rfl ?_
   refine kbld_of (cs := (partM i j).cells) rfl ?_
   refine kbldS_of (cs := (partM i j).cells) rfl fun w24 h24 hs24 hb24 => ?_
   refine ksem_append apPart2 (by omega) (hO.same h24) (Src.ofSlIs (hk := slPart2_is.choose_spec) 1 (SlIs.blk hb24 rfl) rfl) (by rw [hfl]; show _ * 6 + 6 ≤ _; omega) (by rw [hfl]; simp [Part.cells]; omega) ?_
   intro v' w26 hO26 m26 hf26
   unfold f8_7
   refine add_at (by omega) (by omega) ?_
   rw [cast_succ]
   refine hJ2 _ _ _ hlt ⟨rfl, ?_, fun k hk => ?_, (hmr.trans h24).trans' (m26.mono fun k _ e => .inr (hxk k e))⟩
   ·rw [partsM_succ, if_pos hb, List.flatMap_append]
    simpa using hO26
   ·rcases hf26 k hk with e | e
    ·exact hxk k e
    ·exact Nat.le_trans (hmr.trans h24).size e
  ·have hb : ¬ M[i] / 2 ^ j % 2 = 1 := by omega
   unfold f8_7
   refine add_at (by omega) (by omega) ?_
   rw [cast_succ]
   refine hJ2 _ _ _ hlt ⟨rfl, ?_, hxk, hmr⟩
   rw [partsM_succ, if_neg hb]
   exact hO
 ·have hj4 : j = 4 := by omega
  subst hj4
  obtain ⟨a', n', c', rfl, hsl, _⟩ := hO.is
  have hn' : n' = (partsM i M[i] 4).length := by
   have := hsl.1
   rw [flat_len Part.cells 6 (fun _ => rfl)] at this
   omega
  subst hn'
  have hfa : ∀ k f, a' = some ⟨k, f, none⟩ → ww.heap.size ≤ k ∧ k < wr.heap.size := fun k f e => by
   have hv : vblk (.slice a' (partsM i M[i] 4).length c') k := ⟨f, _, _, by rw [e]⟩
   exact ⟨hxk k hv, hO.vblk_lt hv⟩
  have hpl := partsM_len i M[i] 4
  unfold f8_8
  have hr := h.grow hmr
  obtain ⟨S, t, B, hP, hv, hnx, hg, ht⟩ := id hr.pr
  have hlen : (viewS S B).length = i := by rw [hv, laidV_len]
  refine kcall_of (pSpawn hL h6 hD hP (by omega) (by omega) hsl (fun k f e => .inr (hfa k f e)) (by omega) (by rw [hcL]; exact partsM_fits) (partsM_once _ _ _) (partsM_sort _ _ _) (by omega)) ?_
  rintro v w2 ⟨rfl, S', B', hv', hnx', hg', hP', hm'⟩
  have hr2 : LaidI w c o bh bv (layC a M.length cp i0 i1 who seed wd og).toArray host (i + 1) m (laidV M (i + 1)) (newB ww wr X) w2 := hr.act rfl ⟨S', t + 1, B', hP', by rw [hv', hv, laidV_succ, hnx, hMi], by omega, by omega, by omega⟩ hm'
  have hsl2 := hsl.mod hm' (fun k f e hk => hk.2 (.inr (hfa k f e)))
  refine kcall_of (r14Spawn hr2.v plainC_good (fun k hk => (hr2.lt hk).2) (by omega) hsl2 (by omega)) ?_
  rintro v w3 ⟨hv3, hm3⟩
  unfold f8_9
  refine add_at (by omega) (by omega) ?_
  rw [cast_succ]
  exact hJ _ _ (hr2.doc hv3 hm3)
end
end
section
attribute [local irreducible] kO kB kStr kInt kN kG kIf kfld kld kldN kst knew kmap kbld kbldS kext kcnv klenStr klen kcap kprt kprtN kbool kint kstr keq kun ksl kix kiv kta kmk kmm ksem ksemU kextf kcallV kcallM kcall kL
def laidH (c : WC) (o : OC) (wd og : Bool) (i0 i1 who : Int) : HC := ⟨if wd = true then some ⟨c.bw, 0, none⟩ else none, if og = true then some ⟨o.bo, 0, none⟩ else none, i0, i1, who⟩
structure Laid (w : World) (M : List Nat) (i0 i1 who seed : Int) (wd og : Bool) (many bh : Nat) (c : WC) (o : OC) (X : Nat → Prop) (w' : World) : Prop where
 cL : c.L = plainC
 cf : c.frame = 1
 cs : c.seed = seed
 cR : c.R = [5, 0]
 cr : c.rolled = rollF (plainC.map (·.rb))
 oL : o.L = plainC
 om : o.most = many
 pr : ∃ S t B, Pair c w o X w' S t B [] 0 0 ∧ viewS S B = laidV M (min M.length 20) ∧ B.nx = min M.length 20 + 1 ∧ S.gens.length = 20 ∧ t ≤ 20
 ap : ∀ k, X k → ¬ c.mine k
 xb : X bh
 hb : blk w' bh = some (.cells (laidH c o wd og i0 i1 who).cells.toArray 38)
section
variable {w : World} {c : WC} {o : OC} {bh : Nat} {X : Nat → Prop} {ww wr : World}
theorem pPut {S : SM} {t : Nat} {B : BdM} {l : List OrdM} {gv dr : Nat} (hP : Pair c w o X ww S t B l gv dr) (hap : ∀ k, X k → ¬ c.mine k) (hx : X bh) (m : Mod (fun k => k = bh) ww wr) : Pair c w o (newB ww wr X) wr S t B l gv dr ∧ ∀ k, newB ww wr X k → ¬ c.mine k := by
 refine ⟨hP.grow m fun k hk => by subst hk; exact ⟨hx, hap _ hx⟩, fun k hk => ?_⟩
 rcases hk with hk | hk
 ·exact hap k hk
 ·intro e
  obtain ⟨⟨fx, U, hW, _⟩, _⟩ := hP
  have := (hW.A.lt (hW.fm k e)).2
  omega
theorem laid_spec {pr : Nat → Prop} {Sa : Nat → Addr} (hL : LaidP pr Sa w) (h6 : pr 6) (hD : DeAt w) {a : Option Addr} {cp : Nat} {M : List Nat} (hs : SlIs w a M.length 1 (M.map msk)) (hM : ∀ m ∈ M, m < 4294967296) (i0 i1 who seed : Int) (wd og : Bool) {many : Nat} (hmany : many ≤ 64) :
  Meets Tryz.prog 8 #[.agg (layC a M.length cp i0 i1 who seed wd og).toArray, .int .i64 many] w fun v w' => ∃ bh c o X vv uv, v = .tuple #[.pointer (some ⟨bh, 0, none⟩), vv, uv] ∧ Laid w M i0 i1 who seed wd og many bh c o X w' := by
 have h4 : plainC.length = 4 := rfl
 refine f8_ok ?_
 unfold f8
 refine knew_of fun w2 h2 hs2 hb2 => ?_
 have hb2 : blk w2 w.heap.size = some (.cells (layC a M.length cp i0 i1 who seed wd og).toArray 26) := hb2
 refine kfld_of ?_
 refine kldN_at (cs := [.int .i64 i0, .int .i64 i1]) hb2 rfl (by omega) ?_
 refine kfld_of ?_
 refine kld_at (v := .int .i64 who) hb2 rfl ?_
 refine kbld_of (cs := [.pointer none, .pointer none, .int .i64 i0, .int .i64 i1, .int .i64 who]) rfl ?_
 refine knew_of fun w9 h9 hs9 hb9 => ?_
 have hb9 : blk w9 w2.heap.size = some (.cells #[.pointer none, .pointer none, .int .i64 i0, .int .i64 i1, .int .i64 who] 38) := hb9
 have md : Same w9 w9.drew := (Mod.refl (fun _ => False) _).drew
 have m9 : Same w w9.drew := (h2.trans h9).trans md
 have hx9 := (h9.trans md).get hb2 (fun h => h)
 have hh9 := md.get hb9 (fun h => h)
 have hz2 := h2.size
 have hlt2 := lt_of_blk hh9
 have hltx := lt_of_blk hb2
 generalize w9.drew = wq at *
 clear md hb9 h9 hs9
 refine kcall_of (plain_spec wq) ?_
 rintro v10 w11 ⟨⟨a1, c1, ra1, rc1, rfl, hC1, hR1, hla1⟩, h11⟩
 refine kfld_of ?_
 refine kld_at (v := .int .i64 seed) (h11.get hx9 (fun h => h)) rfl ?_
 refine kG_of rfl ?_
 refine kG_of (kld_at (v := .int .i64 seed) hx9 rfl ⟨rfl, rfl⟩) ?_
 have m11 := m9.trans h11
 refine kcall_of (wNewR (hD.same m11) hC1 plainC_good hR1 plainR_good (by omega) (most := 20) (by omega) seed) ?_
 rintro v14 w15 ⟨c, rfl, hcL, hcf, hcs, hcr, hcR, hW⟩
 refine kext_at rfl ?_
 refine kext_at rfl ?_
 refine kcall_of (plain_spec w15) ?_
 rintro v18 w19 ⟨⟨a2, c2, ra2, rc2, rfl, hC2, hR2, hla2⟩, h19⟩
 refine kcall_of (oNewR hC2 plainC_good hR2 plainR_good (by omega) hmany) ?_
 rintro v20 w21 ⟨o, rfl, hoL, hom, hO, h21⟩
 refine kext_at rfl ?_
 refine kext_at rfl ?_
 rw [keq_ptr_nil ptWor]
 refine kB_at ?_
 refine kIf_T rfl ?_
 rw [keq_ptr_nil ptOrd]
 refine kB_at ?_
 refine kIf_T rfl ?_
 rw [keq_nil_nil' ifErr]
 refine kB_at ?_
 refine kIf_T rfl ?_
 rw [keq_nil_nil' ifErr]
 have s15 := hW.A.same0
 have m15 := m11.trans s15
 have m21 := m15.trans (h19.trans h21)
 have n21 : Same wq w21 := h11.trans (s15.trans (h19.trans h21))
 have hx21 := n21.get hx9 (fun h => h)
 have hh21 := n21.get hh9 (fun h => h)
 have hz11 := h11.size
 have hzm11 := m11.size
 have hP0 : Pair c w o (fun k => w.heap.size ≤ k ∧ k < w11.heap.size) w21 (newS plainC 20) 0 ⟨[], 1⟩ [] 0 0 := (Pair.new (by rw [hoL]; omega) ((hW.base m11).ext h19) h21 hO).less fun k hk => .inl (.inr hk)
 have hap0 : ∀ k, (w.heap.size ≤ k ∧ k < w11.heap.size) → ¬ c.mine k := fun k hk e => by have := (hW.A.lt e).1; omega
 clear hW hO hC1 hC2 hR1 hR2 hla1 hla2
 unfold f8_0
 refine kB_at ?_
 refine kIf_F rfl ?_
 unfold f8_1
 have md : Same w21 w21.drew := (Mod.refl (fun _ => False) _).drew
 have m22 := m21.trans md
 have hzd : w21.drew.heap.size = w21.heap.size := rfl
 have hxd := md.get hx21 (fun h => h)
 have hh22 := md.get hh21 (fun h => h)
 have hP1 := hP0.loc md
 have hz21 := n21.size
 generalize w21.drew = we at *
 refine kcall_of (plain_spec we) ?_
 rintro v35 w36 ⟨⟨a3, c3, ra3, rc3, rfl, hC3, hR3, hla3⟩, h36⟩
 refine kfld_of ?_
 refine kld_at (v := .int .i64 seed) (h36.get hxd (fun h => h)) rfl ?_
 refine kG_of rfl ?_
 refine kG_of (kld_at (v := .int .i64 seed) hxd rfl ⟨rfl, rfl⟩) ?_
 refine kcall_of (r14New hC3 plainC_good (by omega) (by omega) hR3 plainR_good (lo := we.heap.size) h36.size hla3 20 (by omega) seed) ?_
 rintro v39 w40 ⟨bv, rfl, hV, h40⟩
 refine kcall_of (plain_spec w40) ?_
 rintro v41 w42 ⟨⟨a4, c4, ra4, rc4, rfl, hC4, hR4, hla4⟩, h42⟩
 refine kcall_of (r15New hC4 plainC_good (by omega) hR4 plainR_good many hmany) ?_
 rintro v43 w44 ⟨⟨b15, rfl⟩, h44⟩
 have m44 : Same we w44 := (h36.trans h40).trans (h42.trans h44)
 have hz44 := m44.size
 have hz40 := (h42.trans h44).size
 have hbv := hV.own.1
 have I44 : LaidI w c o w2.heap.size bv (layC a M.length cp i0 i1 who seed wd og).toArray #[.pointer none, .pointer none, .int .i64 i0, .int .i64 i1, .int .i64 who] 0 0 (laidV M 0) (newB we w44 fun k => w.heap.size ≤ k ∧ k < w11.heap.size) w44 :=
  ⟨⟨newS plainC 20, 0, ⟨[], 1⟩, hP1.grow m44 fun k hk => hk.elim, rfl, rfl, newS_len _ _, Nat.le_refl _⟩, (hV.same (h42.trans h44)).weak (fun k hk => .inr ⟨hk.1, by omega⟩) (Nat.le_refl _), m44.get hxd (fun h => h), m44.get hh22 (fun h => h), fun k hk => by
   rcases hk with hk | hk
   ·exact hap0 k hk
   ·intro e
    obtain ⟨⟨fx, U, hW, _⟩, _⟩ := hP1
    have := (hW.A.lt (hW.fm k e)).2
    omega, ⟨by omega, by omega, .inl ⟨Nat.le_refl _, by omega⟩, .inl ⟨by omega, by omega⟩⟩⟩
 obtain ⟨S, t, B, hP, hv, hnx, hg, ht⟩ := id I44.pr
 refine kcall_of (pTick hP I44.ap (by omega) (by omega)) ?_
 rintro v45 w46 ⟨rfl, hP', hm46⟩
 have I46 := I44.act (c' := c.tune c.R (c.frame + 1) c.seed c.gn) rfl ⟨S, t, B, hP', hv, hnx, hg, ht⟩ hm46
 refine kcall_of (r14Tick I46.v) ?_
 rintro v47 w48 ⟨hV48, hm48⟩
 have I48 := I46.doc (hV48.weak (fun k hk => .inl hk) (Nat.le_refl _)) hm48
 generalize hc1 : c.tune c.R (c.frame + 1) c.seed c.gn = c1 at *
 have e1 : c1.bw = c.bw := by rw [← hc1]; rfl
 have e2 : c1.L = plainC := by rw [← hc1]; exact hcL
 have e3 : c1.frame = 1 := by rw [← hc1]; show c.frame + 1 = 1; omega
 have e4 : c1.seed = seed := by rw [← hc1]; exact hcs
 have e5 : c1.R = [5, 0] := by rw [← hc1]; exact hcR
 have e6 : c1.rolled = rollF (plainC.map (·.rb)) := by rw [← hc1]; exact hcr
 rw [← e1]
 clear hc1 hP hP' hV48 I44 hV hP0 hP1 hcL hcf hcs hcr hcR e1 hx21 hh21 hxd hh22 hx9 hh9 hb2 hap0
 refine kL1_of (min M.length 20) (fun i x wr => x = .int .i64 i ∧ ∃ X, LaidI w c1 o w2.heap.size bv (layC a M.length cp i0 i1 who seed wd og).toArray #[.pointer none, .pointer none, .int .i64 i0, .int .i64 i1, .int .i64 who] i i (laidV M i) X wr) ⟨lI1_0 ⟨rfl, _, I48⟩, fun x wr hx => ?_⟩
 obtain ⟨i, hi, ⟨rfl, X, hI⟩, hJ⟩ := lI1_step hx
 have fin : i = min M.length 20 → ∀ {Q : PQ}, (∀ v w', (∃ bh c o X vv uv, v = .tuple #[.pointer (some ⟨bh, 0, none⟩), vv, uv] ∧ Laid w M i0 i1 who seed wd og many bh c o X w') → Q v w') → f8_10 (.pointer (some ⟨w.heap.size, 0, none⟩)) (.pointer (some ⟨w2.heap.size, 0, none⟩)) (.pointer (some ⟨c1.bw, 0, none⟩)) (.pointer (some ⟨o.bo, 0, none⟩)) (.pointer (some ⟨bv, 0, none⟩)) (.pointer b15) Q wr := by
  intro hie Q hQ
  obtain ⟨S, t, B, hP, hv, hnx, hg, ht⟩ := id hI.pr
  have f11 : ∀ (x12 : Value) (X2 : Nat → Prop) (w2' : World), Pair c1 w o X2 w2' S t B [] 0 0 → (∀ k, X2 k → ¬ c1.mine k) → X2 w2.heap.size → blk w2' w.heap.size = some (.cells (layC a M.length cp i0 i1 who seed wd og).toArray 26) → blk w2' w2.heap.size = some (.cells #[.pointer (if wd = true then some ⟨c1.bw, 0, none⟩ else none), .pointer none, .int .i64 i0, .int .i64 i1, .int .i64 who] 38) → f8_11 (.pointer (some ⟨w.heap.size, 0, none⟩)) (.pointer (some ⟨w2.heap.size, 0, none⟩)) (.pointer (some ⟨o.bo, 0, none⟩)) x12 (.pointer b15) Q w2' := by
   intro x12 X2 w2' hP2 hap2 hxb hx hh
   unfold f8_11
   refine kfld_of ?_
   refine kld_at (v := .bool og) hx rfl ?_
   refine kB_at ?_
   refine kIf_of (fun ho => ?_) (fun ho => ?_)
   ·refine kN_at ?_
    refine kfld_of ?_
    refine kst1_of hh rfl rfl (by show 1 < 5; omega) fun w89 h89 hs89 hb89 => ?_
    obtain ⟨hP3, hap3⟩ := pPut hP2 hap2 hxb h89
    unfold f8_12
    refine hQ _ _ ⟨_, c1, o, _, _, _, rfl, e2, e3, e4, e5, e6, hoL, hom, ⟨S, t, B, hP3, by rw [hv, hie], by omega, hg, by omega⟩, hap3, .inl hxb, ?_⟩
    rw [hb89, ho]; rfl
   ·unfold f8_12
    refine hQ _ _ ⟨_, c1, o, _, _, _, rfl, e2, e3, e4, e5, e6, hoL, hom, ⟨S, t, B, hP2, by rw [hv, hie], by omega, hg, by omega⟩, hap2, hxb, ?_⟩
    have ho : og = false := by simpa using ho
    rw [hh, ho]; rfl
  unfold f8_10
  refine kfld_of ?_
  refine kld_at (v := .bool wd) hI.hx rfl ?_
  refine kB_at ?_
  refine kIf_of (fun hw => ?_) (fun hw => ?_)
  ·refine kN_at ?_
   refine kfld_of ?_
   refine kst1_of hI.hh rfl rfl (by show 0 < 5; omega) fun w85 h85 hs85 hb85 => ?_
   obtain ⟨hP3, hap3⟩ := pPut hP hI.ap hI.at'.2.2.2 h85
   refine f11 _ _ _ hP3 hap3 (.inl hI.at'.2.2.2) (h85.get hI.hx (by omega)) ?_
   rw [hb85, hw]; rfl
  ·refine f11 _ _ _ hP hI.ap hI.at'.2.2.2 hI.hx ?_
   have hw : wd = false := by simpa using hw
   rw [hI.hh, hw]; rfl
 unfold f8_2
 refine kfld_of ?_
 refine kld_at (v := .slice a M.length cp) hI.hx rfl ?_
 refine klen_at ?_
 refine lss_at ?_
 refine kB_at ?_
 refine kIf_dec (fun hlt => ?_) (fun hge => ?_)
 ·refine lss_at ?_
  unfold f8_3
  refine kB_at ?_
  refine kIf_dec (fun h20 => ?_) (fun h20 => ?_)
  ·exact laid_parts hL h6 hD hs hM e2 (by omega) (by omega) (by omega) hI _ _ fun X' w' hI' => hJ _ _ (by omega) ⟨rfl, X', hI'⟩
  ·exact fin (by omega) fun v w' h => h
 ·unfold f8_3
  refine kB_at ?_
  refine kIf_F rfl ?_
  exact fin (by omega) fun v w' h => h
end
end
section
attribute [local irreducible] kO kB kStr kInt kN kG kIf kfld kld kldN kst knew kmap kbld kbldS kext kcnv klenStr klen kcap kprt kprtN kbool kint kstr keq kun ksl kix kiv kta kmk kmm ksem ksemU kextf kcallV kcallM kcall kL
theorem ptHost : isPtrT Tryz.prog 29 = true := by kernel_rfl
theorem nilStep {pr : Nat → Prop} {Sa : Nat → Addr} {w : World} (hL : LaidP pr Sa w) (h2 : pr 2) : Meets Tryz.prog 11 #[.pointer none] w fun v w' => (∃ e, v = .tuple #[.bool false, e] ∧ ErrX Sa 2 w.heap.size e w') ∧ Same w w' := by
 refine f11_ok ?_
 unfold f11
 rw [keq_ptr_nil ptMill]
 refine kB_at ?_
 refine kIf_T rfl ?_
 refine kld_err hL h2 rfl rfl ?_
 refine kcall_of (mlWrong (ErrX.sent Sa 2 w.heap.size w) (Nat.le_refl _)) ?_
 rintro v w5 ⟨hE, h5⟩
 exact ⟨⟨_, rfl, hE⟩, h5⟩
theorem nilOver (w : World) : Meets Tryz.prog 13 #[.pointer none] w fun v w' => v = .bool true ∧ Same w w' := by
 refine f13_ok ?_
 unfold f13
 rw [keq_ptr_nil ptMill]
 refine kG_of rfl ?_
 refine kB_at ?_
 refine kIf_F rfl ?_
 exact ⟨rfl, (Mod.refl (fun _ => False) _).drew⟩
theorem nilPlace (w : World) : Meets Tryz.prog 14 #[.pointer none] w fun v w' => v = .int .i64 0 ∧ w' = w := by
 refine f14_ok ?_
 unfold f14
 rw [keq_ptr_nil ptMill]
 refine kB_at ?_
 refine kIf_T rfl ?_
 exact ⟨rfl, rfl⟩
theorem nilFuel (w : World) : Meets Tryz.prog 15 #[.pointer none] w fun v w' => v = .int .i64 0 ∧ w' = w := by
 refine f15_ok ?_
 unfold f15
 rw [keq_ptr_nil ptMill]
 refine kB_at ?_
 refine kIf_T rfl ?_
 exact ⟨rfl, rfl⟩
theorem nilStack (w : World) : Meets Tryz.prog 16 #[.pointer none] w fun v w' => v = .slice none 0 0 ∧ w' = w := by
 refine f16_ok ?_
 unfold f16
 rw [keq_ptr_nil ptMill]
 refine kB_at ?_
 refine kIf_T rfl ?_
 exact ⟨rfl, rfl⟩
theorem BsAt.mod {lo : Nat} {fp : Nat → Prop} {w w' : World} {x : Value} {bl : List BeV} (h : BsAt lo w x bl) (m : Mod fp w w') (hx : ∀ k, vblk x k → ¬ fp k) (hp : ∀ b ∈ bl, ∀ k, vblk b.pv k → ¬ fp k) : BsAt lo w' x bl :=
 ⟨h.own.mod m hx, fun b hb => (h.parts b hb).mod m (hp b hb), h.xlo, h.plo, h.ne, h.apart⟩
theorem BsAt.read {lo : Nat} {w : World} {x : Value} {bl : List BeV} (h : BsAt lo w x bl) : ∃ a c, x = .slice a bl.length c ∧ SlIs w a bl.length 2 (bl.flatMap BeV.cells) := by
 obtain ⟨a, n, c, rfl, hs, _⟩ := h.own.is
 have := hs.1
 rw [flat_len BeV.cells 2 (fun _ => rfl)] at this
 obtain rfl : n = bl.length := by omega
 exact ⟨a, c, rfl, hs⟩
theorem BeV.read {w : World} {b : BeV} (h : Own w b.pv 6 (b.parts.flatMap Part.cells)) : SlIs w b.pa b.parts.length 6 (b.parts.flatMap Part.cells) := by
 obtain ⟨a, n, c, e, hs, _⟩ := h.is
 unfold BeV.pv at e
 cases e
 exact hs
section
variable {w : World} {p : Nat → Prop} {Sa : Nat → Addr}
theorem dead999 {c : WC} {w0 : World} {o : OC} {X : Nat → Prop} {ww : World} {S : SM} {t : Nat} {B : BdM} {l : List OrdM} {gv dr : Nat} (hP : Pair c w0 o X ww S t B l gv dr) (hnx : B.nx ≤ 900) : B.l.find? (fun z => decide (((z.1 : Nat) : Int) = 999)) = none := by
 obtain ⟨⟨fx, U, hW, _⟩, _⟩ := hP
 rw [List.find?_eq_none]
 intro x hx
 have := hW.wf.lt x hx
 simp
 omega
theorem nobody_tail (hL : LaidP p Sa w) (h2 : p 2) {Q : PQ} (hQ : ∀ w', Same w w' → Q (.bool true) w') : f3_12 Q w := by
 unfold f3_12
 refine kcall_of (nilStep hL h2) ?_
 rintro v w83 ⟨⟨e, rfl, hE⟩, h83⟩
 refine kext_at rfl ?_
 refine kext_at rfl ?_
 refine kld_err (hL.same h83) h2 rfl rfl ?_
 refine kcall_of (isX_spec (hL.same h83) h2 h2 hE) ?_
 rintro v w88 ⟨rfl, rfl⟩
 refine kB_at ?_
 refine kIf_T rfl ?_
 refine kcall_of (nilOver _) ?_
 rintro v w91 ⟨rfl, h91⟩
 refine kB_at ?_
 refine kIf_T rfl ?_
 refine kcall_of (nilPlace _) ?_
 rintro v w94 ⟨rfl, rfl⟩
 refine kcall_of (nilFuel _) ?_
 rintro v w96 ⟨rfl, rfl⟩
 refine add_at (by omega) (by omega) ?_
 refine kcall_of (nilStack _) ?_
 rintro v w99 ⟨rfl, rfl⟩
 refine klen_at ?_
 refine add_at (by omega) (by omega) ?_
 refine eql_at ?_
 exact hQ _ (h83.trans h91)
theorem nobody_loop (hL : LaidP p Sa w) (h2 : p 2) {ww : World} (m0 : Same w ww) {lo1 lo2 : Nat} {x1 x2 : Value} {b1 b2 : List BeV} (h1 : BsAt lo1 ww x1 b1) (h2' : BsAt lo2 ww x2 b2) {V : ViewT} (e1 : b1.map BeV.key = V) (e2 : b2.map BeV.key = V) (hok : okV V) (hl : V.length ≤ 64) (hf : ∀ y ∈ V, y.2.length ≤ 32) {Q : PQ} (hQ : ∀ w', Same ww w' → Q (.bool true) w') :
  f3_3 x1 x2 Q ww := by
 obtain ⟨a1, c1, rfl, hs1⟩ := h1.read
 obtain ⟨a2, c2, rfl, hs2⟩ := h2'.read
 have l1 : b1.length = V.length := by rw [← e1, List.length_map]
 have l2 : b2.length = V.length := by rw [← e2, List.length_map]
 unfold f3_3
 refine kL1_of V.length (fun i x wr => x = .int .i64 i ∧ Same ww wr) ⟨lI1_0 ⟨rfl, Mod.refl _ _⟩, fun x wr hx => ?_⟩
 obtain ⟨i, hi, ⟨rfl, hr⟩, hJ⟩ := lI1_step hx
 unfold f3_4
 refine klen_at ?_
 refine lss_at ?_
 refine kB_at ?_
 refine kIf_dec (fun hlt => ?_) (fun hge => ?_)
 ·have hlt : i < V.length := by omega
  have hi1 : i < b1.length := by omega
  have hi2 : i < b2.length := by omega
  have k1 : b1[i].key = V[i] := by
   have := List.getElem_of_eq e1 (i := i) (by rw [List.length_map]; omega)
   rw [← this, List.getElem_map]
  have k2 : b2[i].key = V[i] := by
   have := List.getElem_of_eq e2 (i := i) (by rw [List.length_map]; omega)
   rw [← this, List.getElem_map]
  have hid : b1[i].id = b2[i].id := by rw [show b1[i].id = b1[i].key.1 from rfl, show b2[i].id = b2[i].key.1 from rfl, k1, k2]
  have hpp : b1[i].parts = b2[i].parts := by rw [show b1[i].parts = b1[i].key.2 from rfl, show b2[i].parts = b2[i].key.2 from rfl, k1, k2]
  have hpo : ∀ q ∈ b1[i].parts, q.ok := by
   rw [show b1[i].parts = b1[i].key.2 from rfl, k1]
   exact hok _ (List.getElem_mem hlt)
  have hpf : b1[i].parts.length ≤ 32 := by
   rw [show b1[i].parts = b1[i].key.2 from rfl, k1]
   exact hf _ (List.getElem_mem hlt)
  have q1 := BeV.read (h1.parts _ (List.getElem_mem hi1))
  have q2 := BeV.read (h2'.parts _ (List.getElem_mem hi2))
  have md : Same wr wr.drew := (Mod.refl (fun _ => False) _).drew
  have hrd := hr.trans md
  unfold f3_5
  generalize wr.drew = wd at *
  have s1 := hs1.same hrd
  have s2 := hs2.same hrd
  refine kixfld_of (F := BeV.cells) (sz := 2) (fun _ => rfl) (j := 0) s1 hi1 rfl rfl ?_
  refine kG_of rfl ?_
  refine kixfld_of (F := BeV.cells) (sz := 2) (fun _ => rfl) (j := 0) s2 hi2 rfl rfl ?_
  refine kG_of rfl ?_
  refine neq_at ?_
  rw [decF (by omega)]
  refine kB_at ?_
  refine kIf_T rfl ?_
  refine kixfld_of (F := BeV.cells) (sz := 2) (fun _ => rfl) (j := 1) s1 hi1 rfl rfl ?_
  refine kG_of rfl ?_
  refine klen_at ?_
  refine kixfld_of (F := BeV.cells) (sz := 2) (fun _ => rfl) (j := 1) s2 hi2 rfl rfl ?_
  refine kG_of rfl ?_
  refine klen_at ?_
  refine neq_at ?_
  rw [decF (by rw [hpp]; omega)]
  unfold f3_6
  refine kB_at ?_
  refine kIf_F rfl ?_
  unfold f3_7
  refine kL1_of b1[i].parts.length (fun j x wr => x = .int .i64 j ∧ Same ww wr) ⟨lI1_0 ⟨rfl, hrd⟩, fun x wr hx => ?_⟩
  obtain ⟨j, hj, ⟨rfl, hr⟩, hJ2⟩ := lI1_step hx
  unfold f3_8
  refine kixfld_of (F := BeV.cells) (sz := 2) (fun _ => rfl) (j := 1) (hs1.same hr) hi1 rfl rfl ?_
  refine klen_at ?_
  refine lss_at ?_
  refine kB_at ?_
  refine kIf_dec (fun hlt => ?_) (fun hge => ?_)
  ·have hj1 : j < b1[i].parts.length := by omega
   have hj2 : j < b2[i].parts.length := by rw [← hpp]; exact hj1
   have md : Same wr wr.drew := (Mod.refl (fun _ => False) _).drew
   have hrd := hr.trans md
   unfold f3_9
   generalize wr.drew = wd at *
   refine kixfld_of (F := BeV.cells) (sz := 2) (fun _ => rfl) (j := 1) (hs1.same hrd) hi1 rfl rfl ?_
   refine kG_of rfl ?_
   refine kixldN_of (F := Part.cells) (sz := 6) (fun _ => rfl) (by omega) (q1.same hrd) hj1 rfl ?_
   refine kG_of rfl ?_
   refine kixfld_of (F := BeV.cells) (sz := 2) (fun _ => rfl) (j := 1) (hs2.same hrd) hi2 rfl rfl ?_
   refine kG_of rfl ?_
   refine kixldN_of (F := Part.cells) (sz := 6) (fun _ => rfl) (by omega) (q2.same hrd) hj2 rfl ?_
   refine kG_of rfl ?_
   have hqq : b1[i].parts[j] = b2[i].parts[j] := List.getElem_of_eq hpp hj1
   rw [← hqq, keq_partN (hpo _ (List.getElem_mem hj1)) (hpo _ (List.getElem_mem hj1)), decide_eq_true rfl]
   refine kG_of rfl ?_
   refine kB_at ?_
   refine kIf_F rfl ?_
   unfold f3_10
   refine add_at (by omega) (by omega) ?_
   rw [cast_succ]
   exact hJ2 _ _ hj1 ⟨rfl, hrd⟩
  ·unfold f3_11
   refine add_at (by omega) (by omega) ?_
   rw [cast_succ]
   exact hJ _ _ hlt ⟨rfl, hr⟩
 ·exact nobody_tail (hL.same (m0.trans hr)) h2 fun w' h' => hQ _ (hr.trans h')
theorem fuel0_le (fuel : Int) : fuel0 fuel ≤ 4096 := by unfold fuel0; omega
theorem nobody_spec (ht : Tld p Sa w) (k1 : p 1) (k2 : p 2) (k6 : p 6) (k7 : p 7) (k17 : p 17) (hD : DeAt w) {a : Option Addr} {cp : Nat} {M : List Nat} (hs : SlIs w a M.length 1 (M.map msk)) (hM : ∀ m ∈ M, m < 4294967296) {i0 i1 who seed : Int} (hi0 : I64 i0) (hi1 : I64 i1) (wd og : Bool) {la : Option Addr} {lc : Nat} {l : List IN} (hl : SlIs w la l.length 3 (l.flatMap IN.cells)) (hok : ∀ x ∈ l, okIN x) :
  Meets Tryz.prog 3 #[.agg (layC a M.length cp i0 i1 who seed wd og).toArray, .slice la l.length lc] w fun v w' => v = .bool true ∧ Same w w' := by
 refine f3_ok ?_
 unfold f3
 refine knew_of fun w2 h2 hs2 hb2 => ?_
 have hb2 : blk w2 w.heap.size = some (.cells (layC a M.length cp i0 i1 who seed wd og).toArray 26) := hb2
 refine kcall_of (awake17_spec (ht.same h2)) ?_
 rintro v w4 ⟨rfl, h4⟩
 refine not_at ?_
 refine kB_at ?_
 refine kIf_F rfl ?_
 have m4 := h2.trans h4
 unfold f3_0
 refine klen_at ?_
 refine gtr_at ?_
 refine kB_at ?_
 refine kIf_dec (fun hgt => ⟨rfl, m4⟩) (fun hgt => ?_)
 have hb4 := h4.get hb2 (fun h => h)
 unfold f3_1
 refine kfld_of ?_
 refine kst1_of hb4 rfl rfl (by show 3 < 7; omega) fun w10 h10 hs10 hb10 => ?_
 have hb10 : blk w10 w.heap.size = some (.cells (layC a M.length cp i0 i1 999 seed wd og).toArray 26) := hb10
 refine kfld_of ?_
 refine kst1_of hb10 rfl rfl (by show 5 < 7; omega) fun w12 h12 hs12 hb12 => ?_
 have hb12 : blk w12 w.heap.size = some (.cells (layC a M.length cp i0 i1 999 seed true og).toArray 26) := hb12
 have m12 : Same w w12 := m4.trans' ((h10.mono fun k _ e => .inr (by omega)).trans (h12.mono fun k _ e => .inr (by omega)))
 refine kldN_at (cs := layC a M.length cp i0 i1 999 seed true og) hb12 rfl (by omega) ?_
 have ht12 := ht.same m12
 refine kcall_of (laid_spec ht12.hL k6 (hD.same m12) (hs.same m12) hM i0 i1 999 seed true og (many := 6) (by omega)) ?_
 rintro v w15 ⟨bh, c, o, X, vv, uv, rfl, hLd⟩
 refine kext_at rfl ?_
 refine kext_at rfl ?_
 refine kext_at rfl ?_
 rw [keq_ptr_nil ptHost]
 refine kB_at ?_
 refine kIf_F rfl ?_
 obtain ⟨S, t, B, hP, hv, hnx, hg, ht20⟩ := hLd.pr
 have hb15 : blk w15 bh = some (.cells (nbH c o og i0 i1 999).cells.toArray 38) := hLd.hb
 have s15 := hP.same0
 unfold f3_2
 refine kN_at ?_
 refine kfld_of ?_
 refine kld_at (v := .pointer (some ⟨c.bw, 0, none⟩)) hb15 rfl ?_
 have hW : ∃ fx, WdAt c w12 fx w15 S t B := by obtain ⟨⟨fx, U, hW, _⟩, _⟩ := hP; exact ⟨fx, hW⟩
 obtain ⟨fx, hW⟩ := hW
 have hle := hW.le
 have hfew : ∀ y ∈ viewS S B, y.2.length ≤ 32 := by
  rw [hv]
  intro y hy
  obtain ⟨i, _, rfl⟩ := List.mem_map.1 hy
  exact Nat.le_trans (partsM_len _ _ 4) (by omega)
 refine kcall_of (wView hW hle) ?_
 rintro v24 w24 ⟨bl, hB, hkey, h24⟩
 have hz15 := h24.size
 refine kN_at ?_
 refine kldN_at (cs := (nbH c o og i0 i1 999).cells) (h24.get hb15 (fun h => h)) rfl (by omega) ?_
 have hmin : min M.length 20 ≤ 20 := Nat.min_le_right _ _
 have hdead := dead999 hP (by omega)
 have hhost := host_of (nb_host (S := S) (t := t) (B := B) (o := o) (c0 := c) ht12.hL k1 k2 k6 k7 k17 og hi0 hi1 (who := 999) (by unfold I64; omega) hdead (by rw [hLd.om]; omega) (by rw [hLd.cf]; unfold I64; omega))
 have hnb : NbI c w12 o S t B (newB w15 w24 X) w24 ⟨c.R, c.seed, [], 0, 0⟩ := ⟨⟨c.gn, hP.grow h24 fun k hk => hk.elim⟩, fun k hk => by
  rcases hk with hk | hk
  ·exact hLd.ap k hk
  ·intro e
   have := (hW.A.lt (hW.fm k e)).2
   omega, by rw [hLd.cR]; intro v hv; simp at hv; rcases hv with rfl | rfl <;> (unfold I64; omega), Nat.le_refl _⟩
 have m24 := m12.trans (s15.trans h24)
 have hE : ∀ k, (k = bh ∨ vblk v24 k ∨ ∃ b ∈ bl, vblk b.pv k) → newB w15 w24 X k := by
  rintro k (rfl | hk | ⟨b, hb, hk⟩)
  ·exact .inl hLd.xb
  ·exact .inr ⟨hB.xlo k hk, hB.own.vblk_lt hk⟩
  ·exact .inr ⟨hB.plo b hb k hk, (hB.parts b hb).vblk_lt hk⟩
 have hf200 := fuel0_le 200
 refine kcall_of (mlRun (c := lc) ht12 hhost (hl.same m24) (by omega) hok hnb hE 200 (by show 0 + 0 + fuel0 200 ≤ 4999; omega)) ?_
 rintro v27 w27 ⟨_, ⟨X2, hN, hE2⟩, hm27⟩
 have hb27 := hm27.get (h24.get hb15 (fun h => h)) (fun hk => hk.2 (.inl rfl))
 refine kN_at ?_
 refine kfld_of ?_
 refine kld_at (v := .pointer (some ⟨c.bw, 0, none⟩)) hb27 rfl ?_
 obtain ⟨gn, hP27⟩ := hN.pr
 obtain ⟨⟨fx2, U2, hW2, _⟩, _⟩ := hP27
 have hvw := wView hW2 hle
 refine kcall_of hvw ?_
 rintro v31 w31 ⟨bl2, hB2, hkey2, h31⟩
 have hB' := (hB.mod hm27 (fun k hk hn => hn.2 (.inr (.inl hk))) (fun b hb k hk hn => hn.2 (.inr (.inr ⟨b, hb, hk⟩)))).same h31
 have l1 : bl.length = (viewS S B).length := by rw [← hkey, List.length_map]
 have l2 : bl2.length = (viewS S B).length := by rw [← hkey2, List.length_map]
 have m31 : Same w w31 := (m24.trans' (hm27.mono fun k _ e => .inr (Nat.le_trans m12.size e.1))).trans h31
 have hok : okV (viewS S B) := by rw [hv]; exact laidV_ok M (by omega)
 obtain ⟨a1, c1, e1, _⟩ := hB'.read
 obtain ⟨a2, c2, e2, _⟩ := hB2.read
 have go : f3_3 v24 v31 (fun v w' => v = .bool true ∧ Same w w') w31 := nobody_loop (ht.hL) k2 m31 hB' hB2 hkey hkey2 hok (by rw [viewS_len]; omega) hfew fun w' h' => ⟨rfl, m31.trans h'⟩
 subst e1 e2
 refine klen_at ?_
 refine klen_at ?_
 refine neq_at ?_
 rw [decF (by omega)]
 refine kB_at ?_
 refine kIf_F rfl ?_
 exact go
end
end
end Go.Proofs.YtmdcoaljjnbhlaaGreatDoor
namespace Go.Proofs.YtmdcoaljjnbhlaaGreatDoor
open Go Go.Ev Go.RowKit Go.ChangeShapes Go.WideShapes Go.ChangeAt
section
namespace ST
theorem cU8 : Tryz.prog.cellsOf 5 = 1 := by kernel_rfl
theorem cMask : Tryz.prog.cellsOf 98 = 1 := by kernel_rfl
theorem gDe : Tryz.prog.globalNamed "math/bits.deBruijn32tab" = some 19 := by kernel_rfl
theorem tDe : (Tryz.prog.globals[19]?).map (·.type) = some 357 := by kernel_rfl
theorem cDe : Tryz.prog.cellsOf 357 = 32 := by kernel_rfl
theorem deTab_lits : Rows.laid_math_bits_deBruijn32tab (H := Unit) = .agg (deTab.map fun n : Nat => .lit (.int .u8 (n : Int))) := by rfl
theorem deAt_of {W : World} (h : ∃ g t cs f p, Tryz.prog.globalNamed "math/bits.deBruijn32tab" = some g ∧ (Tryz.prog.globals[g]?).map (·.type) = some t ∧ W.var? Tryz.prog "math/bits.deBruijn32tab" = some cs ∧ DataW.trod (fun _ => ()) Tryz.prog W 0 (fun _ => true) false f t cs.toList = some (Rows.laid_math_bits_deBruijn32tab, p)) : DeAt W := by
 obtain ⟨g0, t0, cs0, f0, p0, hg0, ht0, hv0, hd0⟩ := h
 obtain rfl := Option.some.inj (gDe.symm.trans hg0)
 obtain rfl := Option.some.inj (tDe.symm.trans ht0)
 obtain ⟨xs, m, _, hx, hl, hxl, hel⟩ := DataW.trod_array Tryz.underlying357 hd0
 rw [cDe] at hl
 rw [deTab_lits] at hx
 simp only [Prod.mk.injEq, DataW.agg.injEq] at hx
 obtain ⟨t, f, hb⟩ := blk_of_var gDe hv0
 refine ⟨t, f, ?_⟩
 rw [hb]
 congr 2
 apply Array.ext'
 apply List.ext_getElem?
 intro i
 simp only [List.getElem?_map]
 by_cases hi : i < 32
 ·have h1 := hel i hi
  rw [cU8, Nat.mul_one, List.getElem?_eq_getElem (show i < xs.length by omega)] at h1
  obtain ⟨n, e1, e2, _⟩ := DataW.trod_int Tryz.underlying5 h1
  have h2 := congrArg (fun l : List (DataW Unit) => l[i]?) hx.1
  simp only [List.getElem?_map, List.getElem?_eq_getElem (show i < xs.length by omega), Option.map_some] at h2
  have hdl : i < deTab.length := hi
  rw [List.getElem?_eq_getElem hdl, Option.map_some] at h2 ⊢
  rw [e2] at h2
  simp only [Option.some.injEq, DataW.lit.injEq, Lit.int.injEq] at h2
  have h3 : cs0.toList[i]? = some (.int .u8 n) := by
   have := congrArg (fun l : List Value => l[0]?) e1
   simpa [List.getElem?_take, List.getElem?_drop] using this
  rw [h3, ← h2.2]
 ·rw [List.getElem?_eq_none (by omega), List.getElem?_eq_none (show deTab.length ≤ i by show 32 ≤ i; omega)]; rfl
def rowD (r : OpRow) : DataW Unit := .agg [.lit (.string r.1), .lit (.int .i64 r.2.1), .lit (.int .i64 r.2.2.1), .lit (.int .i64 r.2.2.2)]
theorem rows_lits : Rows.laid_pasodoble_code_rows (H := Unit) = .agg (opRows.map rowD) := by rfl
theorem cRow : Tryz.prog.cellsOf 178 = 4 := by kernel_rfl
theorem gRows : Tryz.prog.globalNamed "pasodoble/code.rows" = some 10 := by kernel_rfl
theorem tRows : (Tryz.prog.globals[10]?).map (·.type) = some 261 := by kernel_rfl
theorem cRows : Tryz.prog.cellsOf 261 = 144 := by kernel_rfl
theorem tx_of (s : ByteArray) : tx s.data.toList = s := by
 unfold tx; cases s; simp
theorem row_cells {W : World} {f : Nat} {cs : List Value} {r : OpRow} {p : List MemPlace} (h : DataW.trod (fun _ => ()) Tryz.prog W 0 (fun _ => true) false f 178 cs = some (rowD r, p)) : cs = rowC r := by
 obtain ⟨xs, m, _, hx, hl, hxl, hel⟩ := DataW.trod_struct Tryz.underlying178 h
 rw [cRow] at hl
 match cs, hl with
 | [a, b, c, d], _ =>
  have e0 := hel 0 _ rfl
  have e1 := hel 1 _ rfl
  have e2 := hel 2 _ rfl
  have e3 := hel 3 _ rfl
  simp only [List.getElem_toArray, List.getElem_cons_zero, List.getElem_cons_succ, cStr, c3] at e0 e1 e2 e3
  have hxl4 : xs.length = 4 := hxl
  match xs, hxl4 with
  | [x0, x1, x2, x3], _ =>
   obtain ⟨s, f0, g0, _⟩ := DataW.trod_string Tryz.underlying9 e0
   obtain ⟨i, f1, g1, _⟩ := DataW.trod_int Tryz.underlying3 e1
   obtain ⟨j, f2, g2, _⟩ := DataW.trod_int Tryz.underlying3 e2
   obtain ⟨k, f3, g3, _⟩ := DataW.trod_int Tryz.underlying3 e3
   simp at f0 f1 f2 f3
   subst g0 g1 g2 g3 f0 f1 f2 f3
   simp only [rowD, List.map_cons, List.map_nil, Prod.mk.injEq, DataW.agg.injEq, List.cons.injEq, DataW.lit.injEq, Lit.string.injEq, Lit.int.injEq, true_and, and_true] at hx
   obtain ⟨⟨h0, h1, h2, h3⟩, _⟩ := hx
   simp only [rowC, h0, h1, h2, h3, tx_of]
theorem rowsAt_of {W : World} (h : ∃ g t cs f p, Tryz.prog.globalNamed "pasodoble/code.rows" = some g ∧ (Tryz.prog.globals[g]?).map (·.type) = some t ∧ W.var? Tryz.prog "pasodoble/code.rows" = some cs ∧ DataW.trod (fun _ => ()) Tryz.prog W 0 (fun _ => true) false f t cs.toList = some (Rows.laid_pasodoble_code_rows, p)) : RowsAt W := by
 obtain ⟨g0, t0, cs0, f0, p0, hg0, ht0, hv0, hd0⟩ := h
 obtain rfl := Option.some.inj (gRows.symm.trans hg0)
 obtain rfl := Option.some.inj (tRows.symm.trans ht0)
 obtain ⟨xs, m, _, hx, hl, hxl, hel⟩ := DataW.trod_array Tryz.underlying261 hd0
 rw [cRows] at hl
 rw [rows_lits] at hx
 simp only [Prod.mk.injEq, DataW.agg.injEq] at hx
 obtain ⟨t, f, hb⟩ := blk_of_var gRows hv0
 refine ⟨t, f, ?_⟩
 rw [hb]
 congr 2
 apply Array.ext'
 show cs0.toList = opRows.flatMap rowC
 have hgr : ∀ i (hi : i < 36), (cs0.toList.drop (i * 4)).take 4 = rowC (opRows[i]'hi) := by
  intro i hi
  have h1 := hel i hi
  rw [cRow, List.getElem?_eq_getElem (show i < xs.length by omega)] at h1
  have h2 := congrArg (fun l : List (DataW Unit) => l[i]?) hx.1
  simp only [List.getElem?_map, List.getElem?_eq_getElem (show i < xs.length by omega), List.getElem?_eq_getElem (show i < opRows.length from hi), Option.map_some, Option.some.injEq] at h2
  exact row_cells (W := W) (p := (xs[i]'(by omega)).2) (f := m) (h1.trans (congrArg some (Prod.ext h2.symm rfl)))
 have hfl : (opRows.flatMap rowC).length = 144 := flat_len rowC 4 (fun _ => rfl) opRows
 apply List.ext_getElem?
 intro j
 by_cases hj : j < 144
 ·have hq : j / 4 < 36 := by omega
  have e1 := congrArg (fun l : List Value => l[j % 4]?) (hgr (j / 4) hq)
  have e2 := flat_cell (F := rowC) (sz := 4) (fun _ => rfl) (l := opRows) (i := j / 4) (j := j % 4) hq (by omega)
  simp only [List.getElem?_take_of_lt (show j % 4 < 4 by omega), List.getElem?_drop] at e1
  rw [show j / 4 * 4 + j % 4 = j by omega] at e1 e2
  rw [e1, e2]
 ·rw [List.getElem?_eq_none (by omega), List.getElem?_eq_none (by omega)]
def ks : List Nat := [1, 2, 4, 6, 7, 8, 9, 10, 12, 13, 14, 15, 17]
theorem ks_at (k : Nat) (h : k ∈ ks) : Tryz.prog.globalNamed (errG k) = some (gErr k) ∧ (Tryz.prog.globals[gErr k]?).map (·.type) = some 41 := by
 simp only [ks, List.mem_cons, List.not_mem_nil, or_false] at h
 rcases h with rfl | rfl | rfl | rfl | rfl | rfl | rfl | rfl | rfl | rfl | rfl | rfl | rfl <;> exact ⟨by kernel_rfl, by kernel_rfl⟩
theorem laid_of {W : World} (h : laidMetH Tryz.prog Rows.millNobodyRow.laid W) : (∃ S, Tld (· ∈ ks) S W) ∧ DeAt W := by
 obtain ⟨S, hS⟩ := laidP_ofG ks ((Rows.millNobodyRow.laid.filter isSent).map sentOf) (by kernel_rfl) (by rfl) (by rfl) ks_at (by decide) h
 exact ⟨⟨S, hS, rowsAt_of (laidD_of (by kernel_rfl) (fun x => x.1 == "pasodoble/code.rows") _ _ (by rfl) h), by decide, by decide, by decide, by decide⟩,
  deAt_of (laidD_of (by kernel_rfl) (fun x => x.1 == "math/bits.deBruijn32tab") _ _ (by rfl) h)⟩
theorem i64_of {n : Int} (h : (Lit.int .i64 n).wf = true) : I64 n := i64_wf h
theorem cIn : Tryz.prog.cellsOf 24 = 2 := by kernel_rfl
theorem cBool : Tryz.prog.cellsOf 4 = 1 := by kernel_rfl
theorem cMks : Tryz.prog.cellsOf 22 = 1 := by kernel_rfl
theorem cLay : Tryz.prog.cellsOf 26 = 7 := by kernel_rfl
theorem cInstr : Tryz.prog.cellsOf 88 = 3 := by kernel_rfl
theorem flat_msk : ∀ l : List Nat, l.flatMap (fun m : Nat => [msk m]) = l.map msk
 | [] => rfl
 | m :: l => by rw [List.flatMap_cons, flat_msk l]; rfl
theorem lay_of {w : World} {n : Nat} {cs : List Value} (h : Rd Tryz.prog w (n + 3) 26 cs) : ∃ (a : Option Addr) (M : List Nat) (c : Nat) (i0 i1 who seed : Int) (wd og : Bool), layC a M.length c i0 i1 who seed wd og = cs ∧ (∀ m ∈ M, m < 4294967296) ∧ SlIs w a M.length 1 (M.map msk) ∧ I64 i0 ∧ I64 i1 := by
 obtain ⟨hl, hf⟩ := rd_struct Tryz.underlying26 h
 rw [cLay] at hl
 match cs, hl with
 | [a0, a1, a2, a3, a4, a5, a6], _ =>
  simp only [RdF] at hf
  obtain ⟨h0, h1, h2, h3, h4, h5, _⟩ := hf
  simp only [c3, cIn, cBool, cMks] at h0 h1 h2 h3 h4 h5
  obtain ⟨ta, M, c, e0, hM, _, _, hs⟩ := slIs_of_rd (F := fun m : Nat => [msk m]) (sz := 1) (ok := fun m => m < 4294967296) (fun _ => rfl) (by omega) Tryz.underlying22 cMask (fun ec h => by
   obtain ⟨i, e, g⟩ := rd_int Tryz.underlying98 h
   obtain ⟨u0, u1⟩ := u32_wf g
   exact ⟨i.toNat, by omega, by rw [e, msk, Int.toNat_of_nonneg u0]⟩) h0
  obtain ⟨_, h1⟩ := rd_array Tryz.underlying24 h1
  simp only [c3] at h1
  obtain ⟨i0, e1, g1⟩ := rd_int Tryz.underlying3 (h1 0 (by decide))
  obtain ⟨i1, e2, g2⟩ := rd_int Tryz.underlying3 (h1 1 (by decide))
  obtain ⟨who, e3, _⟩ := rd_int Tryz.underlying3 h2
  obtain ⟨seed, e4, _⟩ := rd_int Tryz.underlying3 h3
  obtain ⟨wd, e5⟩ := rd_bool Tryz.underlying4 h4
  obtain ⟨og, e6⟩ := rd_bool Tryz.underlying4 h5
  simp at e0 e1 e2 e3 e4 e5 e6
  subst e0 e1 e2 e3 e4 e5 e6
  exact ⟨ta, M, c, i0, i1, who, seed, wd, og, rfl, hM, by rw [← flat_msk]; exact hs, i64_of g1, i64_of g2⟩
theorem agg_of {v : Value} {cs1 : Array Value} {l : List Value} (h : v = .agg cs1) (h2 : l = v.cells.toList) : v = .agg l.toArray := by
 subst h h2
 rfl
theorem in_of {w : World} {n : Nat} {cs : List Value} (h : Rd Tryz.prog w (n + 2) 88 cs) : ∃ x : IN, okIN x ∧ x.cells = cs := by
 obtain ⟨hl, hf⟩ := rd_struct Tryz.underlying88 h
 rw [cInstr] at hl
 match cs, hl with
 | [a0, a1, a2], _ =>
  simp only [RdF] at hf
  obtain ⟨h0, h1, h2, _⟩ := hf
  simp only [c3] at h0 h1 h2
  obtain ⟨i0, e0, g0⟩ := rd_int Tryz.underlying3 h0
  obtain ⟨i1, e1, g1⟩ := rd_int Tryz.underlying3 h1
  obtain ⟨i2, e2, g2⟩ := rd_int Tryz.underlying3 h2
  simp at e0 e1 e2
  subst e0 e1 e2
  exact ⟨⟨i0, i1, i2⟩, i64_of g1, rfl⟩
theorem ins_of {W : World} {cs : List Value} (h : Rd Tryz.prog W 9 27 cs) : ∃ (a : Option Addr) (l : List IN) (c : Nat), cs = [.slice a l.length c] ∧ (∀ x ∈ l, okIN x) ∧ SlIs W a l.length 3 (l.flatMap IN.cells) := by
 obtain ⟨a, l, c, e, h1, _, _, h2⟩ := slIs_of_rd (F := IN.cells) (sz := 3) (ok := okIN) (fun _ => rfl) (by omega) Tryz.underlying27 cInstr (fun ec h => in_of h) h
 exact ⟨a, l, c, e, h1, h2⟩
end ST
end
section
namespace ST
theorem door_met (os : Os) (args : Array Value) : laidMetH Tryz.prog Rows.millNobodyRow.laid ((World.doorLaid Tryz.prog 407 os).forCall (fun _ _ => 0) ⟨#[], args, []⟩).memory :=
 laidMetH_of_parts3 (fuel := 8) (laidMet_of_run' 8 (by kernel_rfl) (by kernel_rfl)) (by kernel_rfl) (by kernel_rfl)
theorem lifted (os : Os) (started : os.Started) (H : Type) (enc : TypeId × Value → H) :
  ReturnsInHanded {} Tryz.checked os 3 .any (fun w args => (Rows.millNobodySpec.pre enc Tryz.prog Tryz.f3 [] false w args ∧ laidMetH Tryz.prog Rows.millNobodyRow.laid w) ∧ sizedMet enc Tryz.prog Tryz.f3 (OpenSpec.ofChange Rows.millNobodySpec) false w args)
   (Rows.millNobodySpec.post enc Tryz.prog Tryz.f3 false true false false) := by
 refine returnsInHanded_of_change_and (C := Tryz.checked) (X := fun w _ => laidMetH Tryz.prog Rows.millNobodyRow.laid w) (fun _ _ _ hh h => h.of_heap hh) own started (by kernel_rfl) Tryz.func3
  (ChangeSpec.witness_shaped (enc := enc) (C := Tryz.checked) (os := os) (X := fun w _ => laidMetH Tryz.prog Rows.millNobodyRow.laid w) false (World.doorLaid Tryz.prog 407 os) #[.agg #[.slice none 0 0, .int .i64 0, .int .i64 0, .int .i64 0, .int .i64 0, .bool false, .bool false], .slice none 0 0] 8 rfl (World.shaped_of_RefB (by kernel_rfl) (by kernel_rfl)) (by kernel_rfl) (by kernel_rfl) (by kernel_rfl) (door_met os _)) ?_
 intro W base args ds gs before hval0 hW _ _ hL _
 have hval : ∀ (j : Nat) t v, Tryz.f3.params[j]? = some t → args[j]? = some v → Value.okWide Tryz.prog W .any base t v := hval0
 have hW' := hW
 obtain ⟨p, q, hA0, hV, rfl, hfz, hnd⟩ := hW
 have hA : DataW.TrodAll enc Tryz.prog W 0 (fun _ => true) true Tryz.f3.params.toList args.toList ds p := hA0
 rw [Tryz.params3] at hA hval
 obtain ⟨v0, vs0, d0, ds0, p0, q0, hargs, rfl, rfl, h0, r0⟩ := trodAll_cons hA
 obtain ⟨v1, vs1, d1, ds1, p1, q1, rfl, rfl, rfl, h1, r1⟩ := trodAll_cons r0
 obtain ⟨rfl, rfl, rfl⟩ := trodAll_nil r1
 obtain rfl : args = #[v0, v1] := by cases args; simp_all
 obtain ⟨rfl, rfl⟩ := trodVars_none hV
 have hlt : ∀ x ∈ p0 ++ (p1 ++ []) ++ [], x.block < W.heap.size := fun x hx => hW'.lt x hx
 obtain ⟨cs0, e0, _⟩ := okWide_struct Tryz.underlying26 (hval 0 26 v0 rfl rfl)
 obtain ⟨ma, M, mc, i0, i1, who, seed, wd, og, ex, hM, hMs, hi0, hi1⟩ := lay_of (rd_of_Trod h0 9)
 obtain rfl : v0 = .agg (layC ma M.length mc i0 i1 who seed wd og).toArray := agg_of e0 ex
 obtain ⟨a4, n4, c4', e4⟩ := okWide_slice Tryz.underlying27 (hval 1 27 v1 rfl rfl)
 obtain ⟨ta, la, ca, ea, hok, hap⟩ := ins_of (rd_of_Trod h1 9)
 obtain rfl : v1 = .slice ta la.length ca := by
  subst e4
  simpa [Value.cells] using ea
 obtain ⟨⟨S, hS⟩, hD⟩ := laid_of hL
 have hmet := nobody_spec hS (by decide) (by decide) (by decide) (by decide) (by decide) hD (cp := mc) hMs hM (who := who) (seed := seed) hi0 hi1 wd og (lc := ca) hap hok
 refine hmet.2.mono fun e W' he => ?_
 obtain ⟨v, rfl, rfl, hsame⟩ := he
 have bel := hsame.below
 exact ⟨_, rfl, _, _, _, [], _, [], hW', trodAll_mk1 (shut_bool Tryz.underlying4 _),
  trodAll_cons_mk (Below.trod laidOut (by kernel_rfl) (of_decide_eq_true (by kernel_rfl)) h0 bel fun x hx => hlt x (by simp [hx]))
   (trodAll_cons_mk (Below.trod laidOut (by kernel_rfl) (of_decide_eq_true (by kernel_rfl)) h1 bel fun x hx => hlt x (by simp [hx])) trodAll_mk0), rfl, bel.frame _, fun h => by cases h⟩
end ST
end
end Go.Proofs.YtmdcoaljjnbhlaaGreatDoor
