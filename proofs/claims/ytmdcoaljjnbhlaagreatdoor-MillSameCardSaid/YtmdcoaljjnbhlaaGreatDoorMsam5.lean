/-
Lemmas for the statements of this seat: no statement of the seat is proved in this part (5 of 7); the conditions stand in each theorem.
-/
import Derived.Test.YtmdcoaljjnbhlaaGreatDoorMsam4
import Derived.Test.YtmdcoaljjnbhlaaGreatDoorProg
set_option linter.unusedSimpArgs false
set_option linter.unusedVariables false
set_option maxRecDepth 100000
namespace Go.Proofs.YtmdcoaljjnbhlaaGreatDoor
open Go Go.Ev
section
def f53_3 (x0 x1 x12 x13 : Value) (J4 : Value → World → Prop) (Q : PQ) (w : World) : Prop :=
 kint .i64 .add x13 (.int .i64 1) fun v15 =>
 J4 v15 w
def f53_2 (x0 x1 x12 x13 : Value) (J4 : Value → World → Prop) (Q : PQ) (w : World) : Prop :=
 kix (some (.slice 49)) (some 6) x0 x13 fun v9 =>
 kldN 6 v9 w.drew fun v10 =>
 kG (w.drew = w.drew) <|
 kix (some (.slice 49)) (some 6) x1 x13 fun v11 =>
 kldN 6 v11 w.drew fun v12 =>
 kG (w.drew = w.drew) <|
 keq Tryz.prog .neq 49 false false v10 v12 w.drew fun v13 w14 =>
 kG (w14 = w.drew) <|
 kB v13 fun b16 => kIf b16
 (Q (.bool false) w14)
 (f53_3 x0 x1 x12 x13 J4 Q w14)
def f53_4 (Q : PQ) (w : World) : Prop :=
 Q (.bool true) w
def f53_1 (x13 x0 x1 x12 : Value) (J4 : Value → World → Prop) (Q : PQ) (w : World) : Prop :=
 kint .i64 .lss x13 x12 fun v8 =>
 kB v8 fun b17 => kIf b17
 (f53_2 x0 x1 x12 x13 J4 Q w)
 (f53_4 Q w)
def f53_0 (x0 x1 : Value) (Q : PQ) (w : World) : Prop :=
 klen x0 fun v6 =>
 kL fun (I : Value → World → Prop) (μ : Value → World → Nat) => I (.int .i64 0) w ∧ ∀ (x13 : Value) (w1 : World), I x13 w1 →
 f53_1 x13 x0 x1 v6 (fun y13 w2 => I y13 w2 ∧ μ y13 w2 < μ x13 w1) Q w1
def f53 (x0 x1 : Value) (Q : PQ) (w : World) : Prop :=
 klen x0 fun v1 =>
 klen x1 fun v3 =>
 kint .i64 .neq v1 v3 fun v5 =>
 kB v5 fun b18 => kIf b18
 (Q (.bool false) w)
 (f53_0 x0 x1 Q w)
theorem f53_ok {x0 x1 : Value} {Q : PQ} {w : World} (h : f53 x0 x1 Q w) : Meets Tryz.prog 53 #[x0, x1] w Q :=
 sound' (c := Tryz.f53.body.get rfl) [(4, [13])] Tryz.func53 rfl rfl (args := [x0, x1]) rfl (by kernel_rfl) h
def f54_3 (x1 x2 x15 x16 x17 : Value) (J4 : Value → World → Prop) (Q : PQ) (w : World) : Prop :=
 kint .i64 .add x17 (.int .i64 1) fun v24 =>
 J4 v24 w
def f54_2 (x1 x2 x15 x16 x17 : Value) (J4 : Value → World → Prop) (Q : PQ) (w : World) : Prop :=
 kix (some (.slice 46)) (some 2) x15 x17 fun v9 =>
 kldN 2 v9 w fun v10 =>
 knew #[.int .i64 0, .slice none 0 0] 46 w fun v11 w12 =>
 kst 2 v11 v10 w12 fun w13 =>
 kix (some (.slice 46)) (some 2) x1 x17 fun v14 =>
 kldN 2 v14 w13 fun v15 =>
 knew #[.int .i64 0, .slice none 0 0] 46 w13 fun v16 w17 =>
 kst 2 v16 v15 w17 fun w18 =>
 kldN 2 v11 w18 fun v19 =>
 kldN 2 v16 w18 fun v20 =>
 kcallV Tryz.prog x2 [v19, v20] w18 fun v21 w22 =>
 kun .not (some .bool) v21 fun v23 =>
 kB v23 fun b25 => kIf b25
 (Q (.bool false) w22)
 (f54_3 x1 x2 x15 x16 x17 J4 Q w22)
def f54_4 (Q : PQ) (w : World) : Prop :=
 Q (.bool true) w
def f54_1 (x17 x1 x2 x15 x16 : Value) (J4 : Value → World → Prop) (Q : PQ) (w : World) : Prop :=
 kint .i64 .lss x17 x16 fun v8 =>
 kB v8 fun b26 => kIf b26
 (f54_2 x1 x2 x15 x16 x17 J4 Q w)
 (f54_4 Q w)
def f54_0 (x0 x1 x2 : Value) (Q : PQ) (w : World) : Prop :=
 klen x0 fun v6 =>
 kL fun (I : Value → World → Prop) (μ : Value → World → Nat) => I (.int .i64 0) w ∧ ∀ (x17 : Value) (w1 : World), I x17 w1 →
 f54_1 x17 x1 x2 x0 v6 (fun y17 w2 => I y17 w2 ∧ μ y17 w2 < μ x17 w1) Q w1
def f54 (x0 x1 x2 : Value) (Q : PQ) (w : World) : Prop :=
 klen x0 fun v1 =>
 klen x1 fun v3 =>
 kint .i64 .neq v1 v3 fun v5 =>
 kB v5 fun b27 => kIf b27
 (Q (.bool false) w)
 (f54_0 x0 x1 x2 Q w)
theorem f54_ok {x0 x1 x2 : Value} {Q : PQ} {w : World} (h : f54 x0 x1 x2 Q w) : Meets Tryz.prog 54 #[x0, x1, x2] w Q :=
 sound' (c := Tryz.f54.body.get rfl) [(4, [17])] Tryz.func54 rfl rfl (args := [x0, x1, x2]) rfl (by kernel_rfl) h
def f55_3 (x0 x1 x12 x13 : Value) (J4 : Value → World → Prop) (Q : PQ) (w : World) : Prop :=
 kint .i64 .add x13 (.int .i64 1) fun v14 =>
 J4 v14 w
def f55_2 (x0 x1 x12 x13 : Value) (J4 : Value → World → Prop) (Q : PQ) (w : World) : Prop :=
 kix (some (.slice 3)) (some 1) x0 x13 fun v9 =>
 kld v9 w.drew fun v10 =>
 kG (w.drew = w.drew) <|
 kix (some (.slice 3)) (some 1) x1 x13 fun v11 =>
 kld v11 w.drew fun v12 =>
 kG (w.drew = w.drew) <|
 kint .i64 .neq v10 v12 fun v13 =>
 kB v13 fun b15 => kIf b15
 (Q (.bool false) w.drew)
 (f55_3 x0 x1 x12 x13 J4 Q w.drew)
def f55_4 (Q : PQ) (w : World) : Prop :=
 Q (.bool true) w
def f55_1 (x13 x0 x1 x12 : Value) (J4 : Value → World → Prop) (Q : PQ) (w : World) : Prop :=
 kint .i64 .lss x13 x12 fun v8 =>
 kB v8 fun b16 => kIf b16
 (f55_2 x0 x1 x12 x13 J4 Q w)
 (f55_4 Q w)
def f55_0 (x0 x1 : Value) (Q : PQ) (w : World) : Prop :=
 klen x0 fun v6 =>
 kL fun (I : Value → World → Prop) (μ : Value → World → Nat) => I (.int .i64 0) w ∧ ∀ (x13 : Value) (w1 : World), I x13 w1 →
 f55_1 x13 x0 x1 v6 (fun y13 w2 => I y13 w2 ∧ μ y13 w2 < μ x13 w1) Q w1
def f55 (x0 x1 : Value) (Q : PQ) (w : World) : Prop :=
 klen x0 fun v1 =>
 klen x1 fun v3 =>
 kint .i64 .neq v1 v3 fun v5 =>
 kB v5 fun b17 => kIf b17
 (Q (.bool false) w)
 (f55_0 x0 x1 Q w)
theorem f55_ok {x0 x1 : Value} {Q : PQ} {w : World} (h : f55 x0 x1 Q w) : Meets Tryz.prog 55 #[x0, x1] w Q :=
 sound' (c := Tryz.f55.body.get rfl) [(4, [13])] Tryz.func55 rfl rfl (args := [x0, x1]) rfl (by kernel_rfl) h
def f32_2 (x2 x3 x8 x10 x11 : Value) (Q : PQ) (w : World) : Prop :=
 kldN 2 x11 w.drew fun v33 =>
 kG (w.drew = w.drew) <|
 kcall Tryz.prog 72 #[] w.drew fun v34 w35 =>
 kG (kldN 2 x11 w35 fun v44 =>
 v44 = v33 ∧ w35 = w35) <|
 kldN 2 x3 w35 fun v36 =>
 kG (w35 = w35) <|
 kG (kldN 2 x3 w.drew fun v43 =>
 v43 = v36 ∧ w.drew = w.drew) <|
 kcall Tryz.prog 73 #[v36] w35 fun v37 w38 =>
 kG (kldN 2 x11 w38 fun v42 =>
 v42 = v33 ∧ w38 = w38) <|
 kbld [.slice none 0 0, .slice none 0 0, .pointer none, .pointer none, .pointer none, .int .u32 0, .int .i64 0, .int .i64 0, .pointer none] [(0, 2, v33), (2, 1, x8), (3, 1, v34), (4, 1, x10), (5, 1, v37), (7, 1, x2)] fun v39 =>
 knew (Value.cells v39) 106 w38 fun v40 w41 =>
 Q (.tuple #[v40, .nilIface]) w41
def f32_1 (x2 x3 x8 x10 : Value) (Q : PQ) (w : World) : Prop :=
 (kfld 0 x3 fun v21 =>
 kld v21 w.drew fun v22 =>
 kG (w.drew = w.drew) <|
 kcall Tryz.prog 70 #[v22] w.drew fun v23 w24 =>
 (kfld 1 x3 fun v25 =>
 kld v25 w24 fun v26 =>
 kG (w24 = w24) <|
 kG (kld v25 w.drew fun v47 =>
 v47 = v26 ∧ w.drew = w.drew) <|
 kcall Tryz.prog 71 #[v26] w24 fun v27 w28 =>
 knew #[.slice none 0 0, .slice none 0 0] 78 w28 fun v29 w30 =>
 kG (kld v25 w30 fun v46 =>
 v46 = v26 ∧ w30 = w30) <|
 kG (kld v21 w30 fun v45 =>
 v45 = v22 ∧ w30 = w30) <|
 kbld [.slice none 0 0, .slice none 0 0] [(0, 1, v23), (1, 1, v27)] fun v31 =>
 kst 2 v29 v31 w30 fun w32 =>
 f32_2 x2 x3 x8 x10 v29 Q w32) ∧
 (knew #[.slice none 0 0, .slice none 0 0] 78 w24 fun v48 w49 =>
 kG (kld v21 w49 fun v58 =>
 v58 = v22 ∧ w49 = w49) <|
 kfld 1 x3 fun v50 =>
 kld v50 w49 fun v51 =>
 kG (w49 = w49) <|
 kG (kld v50 w24 fun v57 =>
 v57 = v51 ∧ w24 = w24) <|
 kG (kld v50 w.drew fun v56 =>
 v56 = v51 ∧ w.drew = w.drew) <|
 kcall Tryz.prog 71 #[v51] w49 fun v52 w53 =>
 kbld [.slice none 0 0, .slice none 0 0] [(0, 1, v23), (1, 1, v52)] fun v54 =>
 kst 2 v48 v54 w53 fun w55 =>
 f32_2 x2 x3 x8 x10 v48 Q w55)) ∧
 (knew #[.slice none 0 0, .slice none 0 0] 78 w.drew fun v59 w60 =>
 kfld 0 x3 fun v61 =>
 kld v61 w60 fun v62 =>
 kG (w60 = w60) <|
 kG (kld v61 w.drew fun v73 =>
 v73 = v62 ∧ w.drew = w.drew) <|
 kcall Tryz.prog 70 #[v62] w60 fun v63 w64 =>
 kfld 1 x3 fun v65 =>
 kld v65 w64 fun v66 =>
 kG (w64 = w64) <|
 kG (kld v65 w60 fun v72 =>
 v72 = v66 ∧ w60 = w60) <|
 kG (kld v65 w.drew fun v71 =>
 v71 = v66 ∧ w.drew = w.drew) <|
 kcall Tryz.prog 71 #[v66] w64 fun v67 w68 =>
 kbld [.slice none 0 0, .slice none 0 0] [(0, 1, v63), (1, 1, v67)] fun v69 =>
 kst 2 v59 v69 w68 fun w70 =>
 f32_2 x2 x3 x8 x10 v59 Q w70)
def f32_0 (x2 x3 x8 : Value) (Q : PQ) (w : World) : Prop :=
 kldN 2 x3 w fun v12 =>
 kcall Tryz.prog 69 #[v12] w fun v13 w14 =>
 kext v13 0 fun v15 =>
 kext v13 1 fun v16 =>
 keq Tryz.prog .neq 41 false true v16 .nilIface w14 fun v17 w18 =>
 kB v17 fun b74 => kIf b74
 (kcall Tryz.prog 68 #[v16] w18 fun v19 w20 =>
 Q (.tuple #[.pointer none, v19]) w20)
 (f32_1 x2 x3 x8 v15 Q w18)
def f32 (x0 x1 x2 : Value) (Q : PQ) (w : World) : Prop :=
 knew (Value.cells x0) 78 w fun v1 w2 =>
 kldN 2 v1 w2 fun v3 =>
 kcall Tryz.prog 67 #[v3, x1] w2 fun v4 w5 =>
 kext v4 0 fun v6 =>
 kext v4 1 fun v7 =>
 keq Tryz.prog .neq 41 false true v7 .nilIface w5 fun v8 w9 =>
 kB v8 fun b75 => kIf b75
 (kcall Tryz.prog 68 #[v7] w9 fun v10 w11 =>
 Q (.tuple #[.pointer none, v10]) w11)
 (f32_0 x2 v1 v6 Q w9)
theorem f32_ok {x0 x1 x2 : Value} {Q : PQ} {w : World} (h : f32 x0 x1 x2 Q w) : Meets Tryz.prog 32 #[x0, x1, x2] w Q :=
 sound' (c := Tryz.f32.body.get rfl) [] Tryz.func32 rfl rfl (args := [x0, x1, x2]) rfl (by kernel_rfl) h
def f68 (x0 : Value) (Q : PQ) (w : World) : Prop :=
 kcall Tryz.prog 86 #[(.string ⟨#[119, 111, 114, 108, 100]⟩), x0] w fun v1 w2 =>
 Q v1 w2
theorem f68_ok {x0 : Value} {Q : PQ} {w : World} (h : f68 x0 Q w) : Meets Tryz.prog 68 #[x0] w Q :=
 sound' (c := Tryz.f68.body.get rfl) [] Tryz.func68 rfl rfl (args := [x0]) rfl (by kernel_rfl) h
def f77 (x0 x1 : Value) (Q : PQ) (w : World) : Prop :=
 knew (Value.cells x1) 158 w fun v1 w2 =>
 kN x0 <|
 kfld 8 x0 fun v3 =>
 kld v3 w2 fun v4 =>
 keq Tryz.prog .neq 104 false true v4 (.pointer none) w2 fun v5 w6 =>
 kB v5 fun b12 => kIf b12
 (kN x0 <|
 kfld 8 x0 fun v7 =>
 kld v7 w6.drew fun v8 =>
 kG (w6.drew = w6.drew) <|
 kldN 11 v1 w6.drew fun v9 =>
 kG (w6.drew = w6.drew) <|
 kcall Tryz.prog 120 #[v8, v9] w6.drew fun v10 w11 =>
 Q (.tuple #[]) w11)
 (Q (.tuple #[]) w6)
theorem f77_ok {x0 x1 : Value} {Q : PQ} {w : World} (h : f77 x0 x1 Q w) : Meets Tryz.prog 77 #[x0, x1] w Q :=
 sound' (c := Tryz.f77.body.get rfl) [] Tryz.func77 rfl rfl (args := [x0, x1]) rfl (by kernel_rfl) h
def f189 (x0 x1 x2 x3 : Value) (Q : PQ) (w : World) : Prop :=
 knew (Value.cells x3) 49 w fun v1 w2 =>
 kN x0 <|
 kfld 5 x0 fun v3 =>
 kld v3 w2.drew fun v4 =>
 kG (w2.drew = w2.drew) <|
 kfld 0 v1 fun v5 =>
 kld v5 w2.drew fun v6 =>
 kG (w2.drew = w2.drew) <|
 kcall Tryz.prog 58 #[v4, v6] w2.drew fun v7 w8 =>
 kB v7 fun b13 => kIf b13
 (kldN 6 v1 w8 fun v9 =>
 kbld [.int .i64 0, .int .i64 0, .int .i64 0, .int .i64 0, .int .i64 0, .int .i64 0, .int .i64 0, .int .i64 0, .slice none 0 0, .int .i64 0, .int .i64 0] [(0, 1, x1), (1, 1, x2), (2, 6, v9)] fun v10 =>
 kcall Tryz.prog 77 #[x0, v10] w8 fun v11 w12 =>
 Q (.tuple #[]) w12)
 (Q (.tuple #[]) w8)
theorem f189_ok {x0 x1 x2 x3 : Value} {Q : PQ} {w : World} (h : f189 x0 x1 x2 x3 Q w) : Meets Tryz.prog 189 #[x0, x1, x2, x3] w Q :=
 sound' (c := Tryz.f189.body.get rfl) [] Tryz.func189 rfl rfl (args := [x0, x1, x2, x3]) rfl (by kernel_rfl) h
def f84_1 (x4 x6 : Value) (Q : PQ) (w : World) : Prop :=
 kldN 2 x6 w fun v27 =>
 kst 2 x4 v27 w fun w28 =>
 kldN 2 x4 w28 fun v29 =>
 Q (.tuple #[v29, .nilIface]) w28
def f84_0 (x0 x1 x4 : Value) (Q : PQ) (w : World) : Prop :=
 kN x0 <|
 kfld 3 x0 fun v11 =>
 kld v11 w fun v12 =>
 kcall Tryz.prog 134 #[v12, x1] w fun v13 w14 =>
 kext v13 0 fun v15 =>
 kext v13 1 fun v16 =>
 knew #[.int .i64 0, .int .i64 0] 160 w14 fun v17 w18 =>
 kst 2 v17 v15 w18 fun w19 =>
 kun .not (some .bool) v16 fun v20 =>
 kB v20 fun b30 => kIf b30
 (kbld [.int .i64 0, .int .i64 0] [] fun v21 =>
 kld (.pointer (some ⟨9, 0, none⟩)) w19 fun v22 =>
 kcall Tryz.prog 68 #[v22] w19 fun v23 w24 =>
 kst 2 x4 v21 w24 fun w25 =>
 kldN 2 x4 w25 fun v26 =>
 Q (.tuple #[v26, v23]) w25)
 (f84_1 x4 v17 Q w19)
def f84 (x0 x1 : Value) (Q : PQ) (w : World) : Prop :=
 knew #[.int .i64 0, .int .i64 0] 160 w fun v1 w2 =>
 keq Tryz.prog .eql 35 false true x0 (.pointer none) w2 fun v3 w4 =>
 kB v3 fun b31 => kIf b31
 (kbld [.int .i64 0, .int .i64 0] [] fun v5 =>
 kld (.pointer (some ⟨0, 0, none⟩)) w4 fun v6 =>
 kcall Tryz.prog 68 #[v6] w4 fun v7 w8 =>
 kst 2 v1 v5 w8 fun w9 =>
 kldN 2 v1 w9 fun v10 =>
 Q (.tuple #[v10, v7]) w9)
 (f84_0 x0 x1 v1 Q w4)
theorem f84_ok {x0 x1 : Value} {Q : PQ} {w : World} (h : f84 x0 x1 Q w) : Meets Tryz.prog 84 #[x0, x1] w Q :=
 sound' (c := Tryz.f84.body.get rfl) [] Tryz.func84 rfl rfl (args := [x0, x1]) rfl (by kernel_rfl) h
def f39_2 (x0 x8 x9 : Value) (Q : PQ) (w : World) : Prop :=
 kbld [.int .i64 0, .int .i64 0, .int .i64 0, .int .i64 0, .int .i64 0, .int .i64 0, .int .i64 0, .int .i64 0, .slice none 0 0, .int .i64 0, .int .i64 0] [(0, 1, (.int .i64 7)), (10, 1, x8)] fun v39 =>
 kcall Tryz.prog 77 #[x0, v39] w fun v40 w41 =>
 kbld [.int .i64 0, .int .i64 0, .int .i64 0, .int .i64 0, .int .i64 0, .int .i64 0, .int .i64 0, .int .i64 0, .slice none 0 0, .int .i64 0, .int .i64 0] [(0, 1, (.int .i64 2)), (1, 1, x9)] fun v42 =>
 kcall Tryz.prog 77 #[x0, v42] w41 fun v43 w44 =>
 Q (.tuple #[x9, .nilIface]) w44
def f39_1 (x0 x6 : Value) (Q : PQ) (w : World) : Prop :=
 kN x0 <|
 kfld 3 x0 fun v19 =>
 kld v19 w fun v20 =>
 kcall Tryz.prog 59 #[v20] w fun v21 w22 =>
 kN x0 <|
 kfld 3 x0 fun v23 =>
 kld v23 w22.drew fun v24 =>
 kG (w22.drew = w22.drew) <|
 kldN 2 x6 w22.drew fun v25 =>
 kG (w22.drew = w22.drew) <|
 kcall Tryz.prog 80 #[v24, v25] w22.drew fun v26 w27 =>
 kext v26 0 fun v28 =>
 kext v26 1 fun v29 =>
 keq Tryz.prog .neq 41 false true v29 .nilIface w27 fun v30 w31 =>
 kB v30 fun b45 => kIf b45
 (kN x0 <|
 kfld 2 x0 fun v32 =>
 kld v32 w31.drew fun v33 =>
 kG (w31.drew = w31.drew) <|
 kldN 2 x6 w31.drew fun v34 =>
 kG (w31.drew = w31.drew) <|
 kcall Tryz.prog 81 #[v33, v34] w31.drew fun v35 w36 =>
 kcall Tryz.prog 68 #[v29] w36 fun v37 w38 =>
 Q (.tuple #[.int .i64 0, v37]) w38)
 (f39_2 x0 v21 v28 Q w31)
def f39_0 (x0 x1 : Value) (Q : PQ) (w : World) : Prop :=
 kN x0 <|
 kfld 2 x0 fun v6 =>
 kld v6 w fun v7 =>
 kcall Tryz.prog 79 #[v7, x1] w fun v8 w9 =>
 kext v8 0 fun v10 =>
 kext v8 1 fun v11 =>
 knew #[.int .i64 0, .int .i64 0] 160 w9 fun v12 w13 =>
 kst 2 v12 v10 w13 fun w14 =>
 keq Tryz.prog .neq 41 false true v11 .nilIface w14 fun v15 w16 =>
 kB v15 fun b46 => kIf b46
 (kcall Tryz.prog 68 #[v11] w16 fun v17 w18 =>
 Q (.tuple #[.int .i64 0, v17]) w18)
 (f39_1 x0 v12 Q w16)
def f39 (x0 x1 : Value) (Q : PQ) (w : World) : Prop :=
 keq Tryz.prog .eql 35 false true x0 (.pointer none) w fun v1 w2 =>
 kB v1 fun b47 => kIf b47
 (kld (.pointer (some ⟨0, 0, none⟩)) w2 fun v3 =>
 kcall Tryz.prog 68 #[v3] w2 fun v4 w5 =>
 Q (.tuple #[.int .i64 0, v4]) w5)
 (f39_0 x0 x1 Q w2)
theorem f39_ok {x0 x1 : Value} {Q : PQ} {w : World} (h : f39 x0 x1 Q w) : Meets Tryz.prog 39 #[x0, x1] w Q :=
 sound' (c := Tryz.f39.body.get rfl) [] Tryz.func39 rfl rfl (args := [x0, x1]) rfl (by kernel_rfl) h
def f185_2 (x6 x10 : Value) (Q : PQ) (w : World) : Prop :=
 kldN 6 x10 w fun v32 =>
 kst 6 x6 v32 w fun w33 =>
 kldN 6 x6 w33 fun v34 =>
 Q (.tuple #[v34, .nilIface]) w33
def f185_1 (x6 x9 x10 : Value) (Q : PQ) (w : World) : Prop :=
 keq Tryz.prog .neq 41 false true x9 .nilIface w fun v25 w26 =>
 kB v25 fun b35 => kIf b35
 (kbld [.int .i64 0, .int .i64 0, .int .i64 0, .int .i64 0, .int .i64 0, .int .i64 0] [] fun v27 =>
 kcall Tryz.prog 68 #[x9] w26 fun v28 w29 =>
 kst 6 x6 v27 w29 fun w30 =>
 kldN 6 x6 w30 fun v31 =>
 Q (.tuple #[v31, v28]) w30)
 (f185_2 x6 x10 Q w26)
def f185_0 (x0 x2 x6 x8 : Value) (Q : PQ) (w : World) : Prop :=
 (kN x0 <|
 kfld 2 x0 fun v15 =>
 kld v15 w.drew fun v16 =>
 kG (w.drew = w.drew) <|
 kldN 2 x8 w.drew fun v17 =>
 kG (w.drew = w.drew) <|
 kcall Tryz.prog 214 #[v16, v17, x2] w.drew fun v18 w19 =>
 knew #[.int .i64 0, .int .i64 0, .int .i64 0, .int .i64 0, .int .i64 0, .int .i64 0] 49 w19 fun v20 w21 =>
 kG (kldN 2 x8 w21 fun v37 =>
 v37 = v17 ∧ w21 = w21) <|
 kG (kld v15 w21 fun v36 =>
 v36 = v16 ∧ w21 = w21) <|
 kext v18 0 fun v22 =>
 kst 6 v20 v22 w21 fun w23 =>
 kext v18 1 fun v24 =>
 f185_1 x6 v24 v20 Q w23) ∧
 (knew #[.int .i64 0, .int .i64 0, .int .i64 0, .int .i64 0, .int .i64 0, .int .i64 0] 49 w.drew fun v38 w39 =>
 kN x0 <|
 kfld 2 x0 fun v40 =>
 kld v40 w39 fun v41 =>
 kG (w39 = w39) <|
 kG (kld v40 w.drew fun v49 =>
 v49 = v41 ∧ w.drew = w.drew) <|
 kldN 2 x8 w39 fun v42 =>
 kG (w39 = w39) <|
 kG (kldN 2 x8 w.drew fun v48 =>
 v48 = v42 ∧ w.drew = w.drew) <|
 kcall Tryz.prog 214 #[v41, v42, x2] w39 fun v43 w44 =>
 kext v43 0 fun v45 =>
 kst 6 v38 v45 w44 fun w46 =>
 kext v43 1 fun v47 =>
 f185_1 x6 v47 v38 Q w46)
def f185 (x0 x1 x2 : Value) (Q : PQ) (w : World) : Prop :=
 knew #[.int .i64 0, .int .i64 0, .int .i64 0, .int .i64 0, .int .i64 0, .int .i64 0] 49 w fun v1 w2 =>
 kcall Tryz.prog 84 #[x0, x1] w2 fun v3 w4 =>
 kext v3 0 fun v5 =>
 kext v3 1 fun v6 =>
 knew #[.int .i64 0, .int .i64 0] 160 w4 fun v7 w8 =>
 kst 2 v7 v5 w8 fun w9 =>
 keq Tryz.prog .neq 41 false true v6 .nilIface w9 fun v10 w11 =>
 kB v10 fun b50 => kIf b50
 (kbld [.int .i64 0, .int .i64 0, .int .i64 0, .int .i64 0, .int .i64 0, .int .i64 0] [] fun v12 =>
 kst 6 v1 v12 w11 fun w13 =>
 kldN 6 v1 w13 fun v14 =>
 Q (.tuple #[v14, v6]) w13)
 (f185_0 x0 x2 v1 v7 Q w11)
theorem f185_ok {x0 x1 x2 : Value} {Q : PQ} {w : World} (h : f185 x0 x1 x2 Q w) : Meets Tryz.prog 185 #[x0, x1, x2] w Q :=
 sound' (c := Tryz.f185.body.get rfl) [] Tryz.func185 rfl rfl (args := [x0, x1, x2]) rfl (by kernel_rfl) h
def f42_1 (x8 : Value) (Q : PQ) (w : World) : Prop :=
 Q (.tuple #[x8, .nilIface]) w
def f42_0 (x0 x6 : Value) (Q : PQ) (w : World) : Prop :=
 kN x0 <|
 kfld 2 x0 fun v10 =>
 kld v10 w.drew fun v11 =>
 kG (w.drew = w.drew) <|
 kldN 2 x6 w.drew fun v12 =>
 kG (w.drew = w.drew) <|
 kcall Tryz.prog 85 #[v11, v12] w.drew fun v13 w14 =>
 kext v13 0 fun v15 =>
 kext v13 1 fun v16 =>
 keq Tryz.prog .neq 41 false true v16 .nilIface w14 fun v17 w18 =>
 kB v17 fun b21 => kIf b21
 (kcall Tryz.prog 68 #[v16] w18 fun v19 w20 =>
 Q (.tuple #[.slice none 0 0, v19]) w20)
 (f42_1 v15 Q w18)
def f42 (x0 x1 : Value) (Q : PQ) (w : World) : Prop :=
 kcall Tryz.prog 84 #[x0, x1] w fun v1 w2 =>
 kext v1 0 fun v3 =>
 kext v1 1 fun v4 =>
 knew #[.int .i64 0, .int .i64 0] 160 w2 fun v5 w6 =>
 kst 2 v5 v3 w6 fun w7 =>
 keq Tryz.prog .neq 41 false true v4 .nilIface w7 fun v8 w9 =>
 kB v8 fun b22 => kIf b22
 (Q (.tuple #[.slice none 0 0, v4]) w9)
 (f42_0 x0 v5 Q w9)
theorem f42_ok {x0 x1 : Value} {Q : PQ} {w : World} (h : f42 x0 x1 Q w) : Meets Tryz.prog 42 #[x0, x1] w Q :=
 sound' (c := Tryz.f42.body.get rfl) [] Tryz.func42 rfl rfl (args := [x0, x1]) rfl (by kernel_rfl) h
def f140_0 (x0 : Value) (Q : PQ) (w : World) : Prop :=
 kN x0 <|
 kfld 6 x0 fun v3 =>
 kld v3 w fun v4 =>
 Q v4 w
def f140 (x0 : Value) (Q : PQ) (w : World) : Prop :=
 keq Tryz.prog .eql 35 false true x0 (.pointer none) w fun v1 w2 =>
 kB v1 fun b5 => kIf b5
 (Q (.int .i64 0) w2)
 (f140_0 x0 Q w2)
theorem f140_ok {x0 : Value} {Q : PQ} {w : World} (h : f140 x0 Q w) : Meets Tryz.prog 140 #[x0] w Q :=
 sound' (c := Tryz.f140.body.get rfl) [] Tryz.func140 rfl rfl (args := [x0]) rfl (by kernel_rfl) h
def f142_2 (x0 x1 x13 : Value) (Q : PQ) (w : World) : Prop :=
 kldN 6 x13 w fun v26 =>
 kcall Tryz.prog 189 #[x0, .int .i64 1, x1, v26] w fun v27 w28 =>
 Q .nilIface w28
def f142_1 (x0 x1 x12 x13 : Value) (Q : PQ) (w : World) : Prop :=
 keq Tryz.prog .neq 41 false true x12 .nilIface w fun v22 w23 =>
 kB v22 fun b29 => kIf b29
 (kcall Tryz.prog 68 #[x12] w23 fun v24 w25 =>
 Q v24 w25)
 (f142_2 x0 x1 x13 Q w23)
def f142_0 (x0 x1 x2 x3 x4 x11 : Value) (Q : PQ) (w : World) : Prop :=
 (kN x0 <|
 kfld 2 x0 fun v10 =>
 kld v10 w.drew fun v11 =>
 kG (w.drew = w.drew) <|
 kldN 2 x11 w.drew fun v12 =>
 kG (w.drew = w.drew) <|
 kN x0 <|
 kfld 6 x0 fun v13 =>
 kld v13 w.drew fun v14 =>
 kG (w.drew = w.drew) <|
 kcall Tryz.prog 188 #[v11, v12, x2, x3, x4, v14] w.drew fun v15 w16 =>
 knew #[.int .i64 0, .int .i64 0, .int .i64 0, .int .i64 0, .int .i64 0, .int .i64 0] 49 w16 fun v17 w18 =>
 kG (kld v13 w18 fun v32 =>
 v32 = v14 ∧ w18 = w18) <|
 kG (kldN 2 x11 w18 fun v31 =>
 v31 = v12 ∧ w18 = w18) <|
 kG (kld v10 w18 fun v30 =>
 v30 = v11 ∧ w18 = w18) <|
 kext v15 0 fun v19 =>
 kst 6 v17 v19 w18 fun w20 =>
 kext v15 1 fun v21 =>
 f142_1 x0 x1 v21 v17 Q w20) ∧
 (knew #[.int .i64 0, .int .i64 0, .int .i64 0, .int .i64 0, .int .i64 0, .int .i64 0] 49 w.drew fun v33 w34 =>
 kN x0 <|
 kfld 2 x0 fun v35 =>
 kld v35 w34 fun v36 =>
 kG (w34 = w34) <|
 kG (kld v35 w.drew fun v47 =>
 v47 = v36 ∧ w.drew = w.drew) <|
 kldN 2 x11 w34 fun v37 =>
 kG (w34 = w34) <|
 kG (kldN 2 x11 w.drew fun v46 =>
 v46 = v37 ∧ w.drew = w.drew) <|
 kN x0 <|
 kfld 6 x0 fun v38 =>
 kld v38 w34 fun v39 =>
 kG (w34 = w34) <|
 kG (kld v38 w.drew fun v45 =>
 v45 = v39 ∧ w.drew = w.drew) <|
 kcall Tryz.prog 188 #[v36, v37, x2, x3, x4, v39] w34 fun v40 w41 =>
 kext v40 0 fun v42 =>
 kst 6 v33 v42 w41 fun w43 =>
 kext v40 1 fun v44 =>
 f142_1 x0 x1 v44 v33 Q w43)
def f142 (x0 x1 x2 x3 x4 : Value) (Q : PQ) (w : World) : Prop :=
 kcall Tryz.prog 84 #[x0, x1] w fun v1 w2 =>
 kext v1 0 fun v3 =>
 kext v1 1 fun v4 =>
 knew #[.int .i64 0, .int .i64 0] 160 w2 fun v5 w6 =>
 kst 2 v5 v3 w6 fun w7 =>
 keq Tryz.prog .neq 41 false true v4 .nilIface w7 fun v8 w9 =>
 kB v8 fun b48 => kIf b48
 (Q v4 w9)
 (f142_0 x0 x1 x2 x3 x4 v5 Q w9)
theorem f142_ok {x0 x1 x2 x3 x4 : Value} {Q : PQ} {w : World} (h : f142 x0 x1 x2 x3 x4 Q w) : Meets Tryz.prog 142 #[x0, x1, x2, x3, x4] w Q :=
 sound' (c := Tryz.f142.body.get rfl) [] Tryz.func142 rfl rfl (args := [x0, x1, x2, x3, x4]) rfl (by kernel_rfl) h
def f143_1 (x0 x1 x7 : Value) (Q : PQ) (w : World) : Prop :=
 kbld [.int .i64 0, .int .i64 0, .int .i64 0, .int .i64 0, .int .i64 0, .int .i64 0, .int .i64 0, .int .i64 0, .slice none 0 0, .int .i64 0, .int .i64 0] [(0, 1, (.int .i64 6)), (9, 1, x1), (10, 1, x7)] fun v16 =>
 kcall Tryz.prog 77 #[x0, v16] w fun v17 w18 =>
 Q .nilIface w18
def f143_0 (x0 x1 x2 : Value) (Q : PQ) (w : World) : Prop :=
 kN x0 <|
 kfld 4 x0 fun v6 =>
 kld v6 w fun v7 =>
 kcall Tryz.prog 190 #[v7, x1, x2] w fun v8 w9 =>
 kext v8 0 fun v10 =>
 kext v8 1 fun v11 =>
 keq Tryz.prog .neq 41 false true v11 .nilIface w9 fun v12 w13 =>
 kB v12 fun b19 => kIf b19
 (kcall Tryz.prog 68 #[v11] w13 fun v14 w15 =>
 Q v14 w15)
 (f143_1 x0 x1 v10 Q w13)
def f143 (x0 x1 x2 : Value) (Q : PQ) (w : World) : Prop :=
 keq Tryz.prog .eql 35 false true x0 (.pointer none) w fun v1 w2 =>
 kB v1 fun b20 => kIf b20
 (kld (.pointer (some ⟨0, 0, none⟩)) w2 fun v3 =>
 kcall Tryz.prog 68 #[v3] w2 fun v4 w5 =>
 Q v4 w5)
 (f143_0 x0 x1 x2 Q w2)
theorem f143_ok {x0 x1 x2 : Value} {Q : PQ} {w : World} (h : f143 x0 x1 x2 Q w) : Meets Tryz.prog 143 #[x0, x1, x2] w Q :=
 sound' (c := Tryz.f143.body.get rfl) [] Tryz.func143 rfl rfl (args := [x0, x1, x2]) rfl (by kernel_rfl) h
def f141_0 (x0 x1 : Value) (Q : PQ) (w : World) : Prop :=
 kN x0 <|
 kfld 7 x0 fun v6 =>
 kld v6 w fun v7 =>
 kbld [.int .i64 0, .int .i64 0, .int .i64 0, .int .i64 0, .int .i64 0, .int .i64 0, .int .i64 0, .int .i64 0, .slice none 0 0, .int .i64 0, .int .i64 0] [(0, 1, (.int .i64 8)), (10, 1, v7)] fun v8 =>
 kcall Tryz.prog 77 #[x0, v8] w fun v9 w10 =>
 kN x0 <|
 kfld 7 x0 fun v11 =>
 kld v11 w10 fun v12 =>
 kcall Tryz.prog 187 #[v12, x1] w10 fun v13 w14 =>
 kext v13 0 fun v15 =>
 kext v13 1 fun v16 =>
 kN x0 <|
 kfld 7 x0 fun v17 =>
 kst 1 v17 v15 w14 fun w18 =>
 Q (.tuple #[v16, .nilIface]) w18
def f141 (x0 x1 : Value) (Q : PQ) (w : World) : Prop :=
 keq Tryz.prog .eql 35 false true x0 (.pointer none) w fun v1 w2 =>
 kB v1 fun b19 => kIf b19
 (kld (.pointer (some ⟨0, 0, none⟩)) w2 fun v3 =>
 kcall Tryz.prog 68 #[v3] w2 fun v4 w5 =>
 Q (.tuple #[.int .i64 0, v4]) w5)
 (f141_0 x0 x1 Q w2)
theorem f141_ok {x0 x1 : Value} {Q : PQ} {w : World} (h : f141 x0 x1 Q w) : Meets Tryz.prog 141 #[x0, x1] w Q :=
 sound' (c := Tryz.f141.body.get rfl) [] Tryz.func141 rfl rfl (args := [x0, x1]) rfl (by kernel_rfl) h
def f37_0 (x0 : Value) (Q : PQ) (w : World) : Prop :=
 kN x0 <|
 kfld 6 x0 fun v12 =>
 kld v12 w fun v13 =>
 kbld [.int .i64 0, .int .i64 0, .int .i64 0, .int .i64 0, .int .i64 0, .int .i64 0, .int .i64 0, .int .i64 0, .slice none 0 0, .int .i64 0, .int .i64 0] [(0, 1, (.int .i64 9)), (10, 1, v13)] fun v14 =>
 kcall Tryz.prog 77 #[x0, v14] w fun v15 w16 =>
 kN x0 <|
 kfld 6 x0 fun v17 =>
 kld v17 w16 fun v18 =>
 kint .i64 .add v18 (.int .i64 1) fun v19 =>
 kN x0 <|
 kfld 6 x0 fun v20 =>
 kst 1 v20 v19 w16 fun w21 =>
 Q .nilIface w21
def f37 (x0 : Value) (Q : PQ) (w : World) : Prop :=
 keq Tryz.prog .eql 35 false true x0 (.pointer none) w fun v1 w2 =>
 kB v1 fun b23 => kIf b23
 (kld (.pointer (some ⟨0, 0, none⟩)) w2 fun v3 =>
 kcall Tryz.prog 68 #[v3] w2 fun v4 w5 =>
 Q v4 w5)
 (kN x0 <|
 kfld 6 x0 fun v6 =>
 kld v6 w2 fun v7 =>
 kint .i64 .geq v7 (.int .i64 1073741824) fun v8 =>
 kB v8 fun b22 => kIf b22
 (kld (.pointer (some ⟨4, 0, none⟩)) w2 fun v9 =>
 kcall Tryz.prog 68 #[v9] w2 fun v10 w11 =>
 Q v10 w11)
 (f37_0 x0 Q w2))
theorem f37_ok {x0 : Value} {Q : PQ} {w : World} (h : f37 x0 Q w) : Meets Tryz.prog 37 #[x0] w Q :=
 sound' (c := Tryz.f37.body.get rfl) [] Tryz.func37 rfl rfl (args := [x0]) rfl (by kernel_rfl) h
def f139_0 (x0 x1 : Value) (Q : PQ) (w : World) : Prop :=
 kN x0 <|
 kfld 4 x0 fun v3 =>
 kld v3 w fun v4 =>
 kcall Tryz.prog 186 #[v4, x1] w fun v5 w6 =>
 kext v5 0 fun v7 =>
 kext v5 1 fun v8 =>
 Q (.tuple #[v7, v8]) w6
def f139 (x0 x1 : Value) (Q : PQ) (w : World) : Prop :=
 keq Tryz.prog .eql 35 false true x0 (.pointer none) w fun v1 w2 =>
 kB v1 fun b9 => kIf b9
 (Q (.tuple #[.int .i64 0, .bool false]) w2)
 (f139_0 x0 x1 Q w2)
theorem f139_ok {x0 x1 : Value} {Q : PQ} {w : World} (h : f139 x0 x1 Q w) : Meets Tryz.prog 139 #[x0, x1] w Q :=
 sound' (c := Tryz.f139.body.get rfl) [] Tryz.func139 rfl rfl (args := [x0, x1]) rfl (by kernel_rfl) h
def f187_0 (x1 x6 x7 : Value) (Q : PQ) (w : World) : Prop :=
 kcnv .u64 x1 fun v6 =>
 kint .u64 .rem x7 v6 fun v7 =>
 kcnv .i64 v7 fun v8 =>
 Q (.tuple #[x6, v8]) w.drew
def f187 (x0 x1 : Value) (Q : PQ) (w : World) : Prop :=
 kcall Tryz.prog 216 #[x0] w fun v1 w2 =>
 kext v1 0 fun v3 =>
 kext v1 1 fun v4 =>
 kint .i64 .leq x1 (.int .i64 0) fun v5 =>
 kB v5 fun b9 => kIf b9
 (Q (.tuple #[v3, .int .i64 0]) w2)
 (f187_0 x1 v3 v4 Q w2)
theorem f187_ok {x0 x1 : Value} {Q : PQ} {w : World} (h : f187 x0 x1 Q w) : Meets Tryz.prog 187 #[x0, x1] w Q :=
 sound' (c := Tryz.f187.body.get rfl) [] Tryz.func187 rfl rfl (args := [x0, x1]) rfl (by kernel_rfl) h
def f216 (x0 : Value) (Q : PQ) (w : World) : Prop :=
 kcall Tryz.prog 234 #[x0, .int .i64 1] w fun v1 w2 =>
 kcnv .u64 v1 fun v3 =>
 kcall Tryz.prog 235 #[v3] w2 fun v4 w5 =>
 Q (.tuple #[v1, v4]) w5
theorem f216_ok {x0 : Value} {Q : PQ} {w : World} (h : f216 x0 Q w) : Meets Tryz.prog 216 #[x0] w Q :=
 sound' (c := Tryz.f216.body.get rfl) [] Tryz.func216 rfl rfl (args := [x0]) rfl (by kernel_rfl) h
def f234 (x0 x1 : Value) (Q : PQ) (w : World) : Prop :=
 kcnv .u64 x0 fun v1 =>
 kcnv .u64 x1 fun v2 =>
 kint .u64 .mul v2 (.int .u64 11400714819323198485) fun v3 =>
 kint .u64 .add v1 v3 fun v4 =>
 kcnv .i64 v4 fun v5 =>
 Q v5 w
theorem f234_ok {x0 x1 : Value} {Q : PQ} {w : World} (h : f234 x0 x1 Q w) : Meets Tryz.prog 234 #[x0, x1] w Q :=
 sound' (c := Tryz.f234.body.get rfl) [] Tryz.func234 rfl rfl (args := [x0, x1]) rfl (by kernel_rfl) h
def f235 (x0 : Value) (Q : PQ) (w : World) : Prop :=
 kint .u64 .shr x0 (.int .u64 30) fun v1 =>
 kint .u64 .xor x0 v1 fun v2 =>
 kint .u64 .mul v2 (.int .u64 13787848793156543929) fun v3 =>
 kint .u64 .shr v3 (.int .u64 27) fun v4 =>
 kint .u64 .xor v3 v4 fun v5 =>
 kint .u64 .mul v5 (.int .u64 10723151780598845931) fun v6 =>
 kint .u64 .shr v6 (.int .u64 31) fun v7 =>
 kint .u64 .xor v6 v7 fun v8 =>
 Q v8 w
theorem f235_ok {x0 : Value} {Q : PQ} {w : World} (h : f235 x0 Q w) : Meets Tryz.prog 235 #[x0] w Q :=
 sound' (c := Tryz.f235.body.get rfl) [] Tryz.func235 rfl rfl (args := [x0]) rfl (by kernel_rfl) h
def f9_3 (x0 x2 x13 x14 x15 : Value) (J4 : Value → Value → World → Prop) (Q : PQ) (w : World) : Prop :=
 kint .i64 .add x15 (.int .i64 1) fun v18 =>
 J4 x2 v18 w
def f9_4 (x0 x2 x4 x5 x13 x14 x15 : Value) (J4 : Value → Value → World → Prop) (Q : PQ) (w : World) : Prop :=
 kbld [.int .i64 0, .slice none 0 0] [(0, 1, x4), (1, 1, x5)] fun v19 =>
 kbldS [.int .i64 0, .slice none 0 0] 1 [(0, 2, v19)] 46 w fun v20 w21 =>
 ksem Tryz.prog (Builtin.append_ #[34, 34] 0 #[x2, v20]) w21 fun v22 w23 =>
 f9_3 x0 v22 x13 x14 x15 J4 Q w23
def f9_2 (x0 x2 x13 x14 x15 : Value) (J4 : Value → Value → World → Prop) (Q : PQ) (w : World) : Prop :=
 kix (some (.slice 3)) (some 1) x13 x15 fun v10 =>
 kld v10 w fun v11 =>
 kcall Tryz.prog 42 #[x0, v11] w fun v12 w13 =>
 kext v12 0 fun v14 =>
 kext v12 1 fun v15 =>
 keq Tryz.prog .neq 41 false true v15 .nilIface w13 fun v16 w17 =>
 kB v16 fun b24 => kIf b24
 (f9_3 x0 x2 x13 x14 x15 J4 Q w17)
 (f9_4 x0 x2 v11 v14 x13 x14 x15 J4 Q w17)
def f9_5 (x2 : Value) (Q : PQ) (w : World) : Prop :=
 Q x2 w
def f9_1 (x2 x15 x0 x13 x14 : Value) (J4 : Value → Value → World → Prop) (Q : PQ) (w : World) : Prop :=
 kint .i64 .lss x15 x14 fun v9 =>
 kB v9 fun b25 => kIf b25
 (f9_2 x0 x2 x13 x14 x15 J4 Q w)
 (f9_5 x2 Q w)
def f9_0 (x0 x2 : Value) (Q : PQ) (w : World) : Prop :=
 kN x0 <|
 kfld 3 x0 fun v3 =>
 kld v3 w fun v4 =>
 kcall Tryz.prog 41 #[v4] w fun v5 w6 =>
 klen v5 fun v7 =>
 kL fun (I : Value → Value → World → Prop) (μ : Value → Value → World → Nat) => I x2 (.int .i64 0) w6 ∧ ∀ (x2 x15 : Value) (w1 : World), I x2 x15 w1 →
 f9_1 x2 x15 x0 v5 v7 (fun y2 y15 w2 => I y2 y15 w2 ∧ μ y2 y15 w2 < μ x2 x15 w1) Q w1
def f9 (x0 : Value) (Q : PQ) (w : World) : Prop :=
 keq Tryz.prog .eql 35 false true x0 (.pointer none) w fun v1 w2 =>
 kB v1 fun b26 => kIf b26
 (Q (.slice none 0 0) w2)
 (f9_0 x0 (.slice none 0 0) Q w2)
theorem f9_ok {x0 : Value} {Q : PQ} {w : World} (h : f9 x0 Q w) : Meets Tryz.prog 9 #[x0] w Q :=
 sound' (c := Tryz.f9.body.get rfl) [(4, [2, 15])] Tryz.func9 rfl rfl (args := [x0]) rfl (by kernel_rfl) h
def f19_3 (x1 x2 x3 x12 x13 : Value) (J5 : Value → World → Prop) (Q : PQ) (w : World) : Prop :=
 kint .i64 .add x13 (.int .i64 1) fun v24 =>
 J5 v24 w
def f19_2 (x1 x2 x3 x12 x13 : Value) (J5 : Value → World → Prop) (Q : PQ) (w : World) : Prop :=
 kix (some (.slice 46)) (some 2) x3 x13 fun v17 =>
 kN v17 <|
 kfld 1 v17 fun v18 =>
 kld v18 w fun v19 =>
 kcall Tryz.prog 56 #[v19, (.func (.func 57) #[] #[x1])] w fun v20 w21 =>
 kN v17 <|
 kfld 1 v17 fun v22 =>
 kst 1 v22 v20 w21 fun w23 =>
 f19_3 x1 x2 x3 x12 x13 J5 Q w23
def f19_4 (x1 x2 x3 : Value) (Q : PQ) (w : World) : Prop :=
 kld x1 w.drew fun v25 =>
 kG (w.drew = w.drew) <|
 kN v25 <|
 kfld 6 v25 fun v26 =>
 kld v26 w.drew fun v27 =>
 kG (w.drew = w.drew) <|
 kld x1 w.drew fun v28 =>
 kG (w.drew = w.drew) <|
 kN v28 <|
 kfld 3 v28 fun v29 =>
 kld v29 w.drew fun v30 =>
 kG (w.drew = w.drew) <|
 kcall Tryz.prog 59 #[v30] w.drew fun v31 w32 =>
 kG (kld v26 w32 fun v53 =>
 v53 = v27 ∧ w32 = w32) <|
 kG (kld x1 w32 fun v52 =>
 v52 = v25 ∧ w32 = w32) <|
 kld x1 w32 fun v33 =>
 kG (w32 = w32) <|
 kG (kld x1 w.drew fun v51 =>
 v51 = v33 ∧ w.drew = w.drew) <|
 kN v33 <|
 kfld 7 v33 fun v34 =>
 kld v34 w32 fun v35 =>
 kG (w32 = w32) <|
 kG (kld v34 w.drew fun v50 =>
 v50 = v35 ∧ w.drew = w.drew) <|
 kld x1 w32 fun v36 =>
 kG (w32 = w32) <|
 kG (kld x1 w.drew fun v49 =>
 v49 = v36 ∧ w.drew = w.drew) <|
 kN v36 <|
 kfld 4 v36 fun v37 =>
 kld v37 w32 fun v38 =>
 kG (w32 = w32) <|
 kG (kld v37 w.drew fun v48 =>
 v48 = v38 ∧ w.drew = w.drew) <|
 kcall Tryz.prog 60 #[v38] w32 fun v39 w40 =>
 kG (kld v34 w40 fun v47 =>
 v47 = v35 ∧ w40 = w40) <|
 kG (kld x1 w40 fun v46 =>
 v46 = v33 ∧ w40 = w40) <|
 kG (kld v26 w40 fun v45 =>
 v45 = v27 ∧ w40 = w40) <|
 kG (kld x1 w40 fun v44 =>
 v44 = v25 ∧ w40 = w40) <|
 kbld [.int .i64 0, .int .i64 0, .int .i64 0, .slice none 0 0, .slice none 0 0] [(0, 1, v27), (1, 1, v31), (2, 1, v35), (3, 1, x3), (4, 1, v39)] fun v41 =>
 kst 5 x2 v41 w40 fun w42 =>
 kldN 5 x2 w42 fun v43 =>
 Q v43 w42
def f19_1 (x13 x1 x2 x3 x12 : Value) (J5 : Value → World → Prop) (Q : PQ) (w : World) : Prop :=
 kint .i64 .lss x13 x12 fun v16 =>
 kB v16 fun b54 => kIf b54
 (f19_2 x1 x2 x3 x12 x13 J5 Q w)
 (f19_4 x1 x2 x3 Q w)
def f19_0 (x1 x2 : Value) (Q : PQ) (w : World) : Prop :=
 kld x1 w fun v11 =>
 kcall Tryz.prog 9 #[v11] w fun v12 w13 =>
 klen v12 fun v14 =>
 kL fun (I : Value → World → Prop) (μ : Value → World → Nat) => I (.int .i64 0) w13 ∧ ∀ (x13 : Value) (w1 : World), I x13 w1 →
 f19_1 x13 x1 x2 v12 v14 (fun y13 w2 => I y13 w2 ∧ μ y13 w2 < μ x13 w1) Q w1
def f19 (x0 : Value) (Q : PQ) (w : World) : Prop :=
 knew (Value.cells x0) 35 w fun v1 w2 =>
 knew #[.int .i64 0, .int .i64 0, .int .i64 0, .slice none 0 0, .slice none 0 0] 61 w2 fun v3 w4 =>
 kld v1 w4 fun v5 =>
 keq Tryz.prog .eql 35 false true v5 (.pointer none) w4 fun v6 w7 =>
 kB v6 fun b55 => kIf b55
 (kbld [.int .i64 0, .int .i64 0, .int .i64 0, .slice none 0 0, .slice none 0 0] [] fun v8 =>
 kst 5 v3 v8 w7 fun w9 =>
 kldN 5 v3 w9 fun v10 =>
 Q v10 w9)
 (f19_0 v1 v3 Q w7)
theorem f19_ok {x0 : Value} {Q : PQ} {w : World} (h : f19 x0 Q w) : Meets Tryz.prog 19 #[x0] w Q :=
 sound' (c := Tryz.f19.body.get rfl) [(5, [13])] Tryz.func19 rfl rfl (args := [x0]) rfl (by kernel_rfl) h
def f57 (x0 x1 : Value) (Q : PQ) (w : World) : Prop :=
 knew (Value.cells x0) 49 w fun v1 w2 =>
 kld x1 w2.drew fun v3 =>
 kG (w2.drew = w2.drew) <|
 kN v3 <|
 kfld 5 v3 fun v4 =>
 kld v4 w2.drew fun v5 =>
 kG (w2.drew = w2.drew) <|
 kfld 0 v1 fun v6 =>
 kld v6 w2.drew fun v7 =>
 kG (w2.drew = w2.drew) <|
 kcall Tryz.prog 58 #[v5, v7] w2.drew fun v8 w9 =>
 kun .not (some .bool) v8 fun v10 =>
 Q v10 w9
theorem f57_ok {x0 x1 : Value} {Q : PQ} {w : World} (h : f57 x0 x1 Q w) : Meets Tryz.prog 57 #[x0, x1] w Q :=
 sound' (c := Tryz.f57.body.get rfl) [] Tryz.func57 rfl rfl (args := [x0, x1]) rfl (by kernel_rfl) h
def f18 (x0 x1 : Value) (Q : PQ) (w : World) : Prop :=
 knew (Value.cells x0) 61 w fun v1 w2 =>
 knew (Value.cells x1) 61 w2 fun v3 w4 =>
 kfld 0 v1 fun v5 =>
 kld v5 w4 fun v6 =>
 kfld 0 v3 fun v7 =>
 kld v7 w4 fun v8 =>
 kint .i64 .eql v6 v8 fun v9 =>
 kB v9 fun b10 => kIf b10
 (kfld 1 v1 fun v11 =>
 kld v11 w4 fun v12 =>
 kfld 1 v3 fun v13 =>
 kld v13 w4 fun v14 =>
 kint .i64 .eql v12 v14 fun v15 =>
 kB v15 fun b16 => kIf b16
 (kfld 2 v1 fun v17 =>
 kld v17 w4 fun v18 =>
 kfld 2 v3 fun v19 =>
 kld v19 w4 fun v20 =>
 kint .i64 .eql v18 v20 fun v21 =>
 kB v21 fun b22 => kIf b22
 (kfld 3 v1 fun v23 =>
 kld v23 w4 fun v24 =>
 kfld 3 v3 fun v25 =>
 kld v25 w4 fun v26 =>
 kcall Tryz.prog 54 #[v24, v26, (.func (.func 52) #[] #[])] w4 fun v27 w28 =>
 kB v27 fun b29 => kIf b29
 (kfld 4 v1 fun v30 =>
 kld v30 w28 fun v31 =>
 kfld 4 v3 fun v32 =>
 kld v32 w28 fun v33 =>
 kcall Tryz.prog 55 #[v31, v33] w28 fun v34 w35 =>
 Q v34 w35)
 (Q (.bool false) w28))
 (Q (.bool false) w4))
 (Q (.bool false) w4))
 (Q (.bool false) w4)
theorem f18_ok {x0 x1 : Value} {Q : PQ} {w : World} (h : f18 x0 x1 Q w) : Meets Tryz.prog 18 #[x0, x1] w Q :=
 sound' (c := Tryz.f18.body.get rfl) [] Tryz.func18 rfl rfl (args := [x0, x1]) rfl (by kernel_rfl) h
def f52 (x0 x1 : Value) (Q : PQ) (w : World) : Prop :=
 knew (Value.cells x0) 46 w fun v1 w2 =>
 knew (Value.cells x1) 46 w2 fun v3 w4 =>
 kfld 0 v1 fun v5 =>
 kld v5 w4 fun v6 =>
 kfld 0 v3 fun v7 =>
 kld v7 w4 fun v8 =>
 kint .i64 .eql v6 v8 fun v9 =>
 kB v9 fun b10 => kIf b10
 (kfld 1 v1 fun v11 =>
 kld v11 w4 fun v12 =>
 kfld 1 v3 fun v13 =>
 kld v13 w4 fun v14 =>
 kcall Tryz.prog 53 #[v12, v14] w4 fun v15 w16 =>
 Q v15 w16)
 (Q (.bool false) w4)
theorem f52_ok {x0 x1 : Value} {Q : PQ} {w : World} (h : f52 x0 x1 Q w) : Meets Tryz.prog 52 #[x0, x1] w Q :=
 sound' (c := Tryz.f52.body.get rfl) [] Tryz.func52 rfl rfl (args := [x0, x1]) rfl (by kernel_rfl) h
def f73 (x0 : Value) (Q : PQ) (w : World) : Prop :=
 knew (Value.cells x0) 78 w fun v1 w2 =>
 kldN 2 v1 w2 fun v3 =>
 kcall Tryz.prog 111 #[v3, .bool true] w2 fun v4 w5 =>
 Q v4 w5
theorem f73_ok {x0 : Value} {Q : PQ} {w : World} (h : f73 x0 Q w) : Meets Tryz.prog 73 #[x0] w Q :=
 sound' (c := Tryz.f73.body.get rfl) [] Tryz.func73 rfl rfl (args := [x0]) rfl (by kernel_rfl) h
def f111_2 (x1 x4 x8 x9 x10 : Value) (J2 : Value → Value → World → Prop) (Q : PQ) (w : World) : Prop :=
 kint .i64 .add x10 (.int .i64 1) fun v18 =>
 J2 x4 v18 w
def f111_1 (x1 x4 x8 x9 x10 : Value) (J2 : Value → Value → World → Prop) (Q : PQ) (w : World) : Prop :=
 kix (some (.slice 147)) (some 7) x8 x10 fun v8 =>
 kldN 7 v8 w fun v9 =>
 knew #[(.string ⟨#[]⟩), .int .i64 0, .bool false, .int .i64 0, .int .i64 0, .int .i64 0, .int .i64 0] 147 w fun v10 w11 =>
 kst 7 v10 v9 w11 fun w12 =>
 kfld 2 v10 fun v13 =>
 kld v13 w12 fun v14 =>
 kbool .eql v14 x1 fun v15 =>
 kB v15 fun b19 => kIf b19
 (kcall Tryz.prog 159 #[x4, x10] w12 fun v16 w17 =>
 f111_2 x1 v16 x8 x9 x10 J2 Q w17)
 (f111_2 x1 x4 x8 x9 x10 J2 Q w12)
def f111_3 (x4 : Value) (Q : PQ) (w : World) : Prop :=
 Q x4 w
def f111_0 (x4 x10 x1 x8 x9 : Value) (J2 : Value → Value → World → Prop) (Q : PQ) (w : World) : Prop :=
 kint .i64 .lss x10 x9 fun v7 =>
 kB v7 fun b20 => kIf b20
 (f111_1 x1 x4 x8 x9 x10 J2 Q w)
 (f111_3 x4 Q w)
def f111 (x0 x1 : Value) (Q : PQ) (w : World) : Prop :=
 knew (Value.cells x0) 78 w fun v1 w2 =>
 kfld 0 v1 fun v3 =>
 kld v3 w2 fun v4 =>
 klen v4 fun v5 =>
 kL fun (I : Value → Value → World → Prop) (μ : Value → Value → World → Nat) => I (.int .u32 0) (.int .i64 0) w2 ∧ ∀ (x4 x10 : Value) (w1 : World), I x4 x10 w1 →
 f111_0 x4 x10 x1 v4 v5 (fun y4 y10 w2 => I y4 y10 w2 ∧ μ y4 y10 w2 < μ x4 x10 w1) Q w1
theorem f111_ok {x0 x1 : Value} {Q : PQ} {w : World} (h : f111 x0 x1 Q w) : Meets Tryz.prog 111 #[x0, x1] w Q :=
 sound' (c := Tryz.f111.body.get rfl) [(2, [4, 10])] Tryz.func111 rfl rfl (args := [x0, x1]) rfl (by kernel_rfl) h
end
section
def f34_2 (x1 x2 : Value) (Q : PQ) (w : World) : Prop :=
 kfld 0 x2 fun v16 =>
 kld v16 w fun v17 =>
 kcall Tryz.prog 70 #[v17] w fun v18 w19 =>
 kbld [.slice none 0 0, .slice none 0 0] [(0, 1, v18)] fun v20 =>
 knew #[.slice none 0 0, .slice none 0 0] 78 w19 fun v21 w22 =>
 kst 2 v21 v20 w22 fun w23 =>
 kldN 2 v21 w23 fun v24 =>
 kbld [.slice none 0 0, .slice none 0 0, .int .i64 0, .slice none 0 0, .int .i64 0, .int .i64 0] [(0, 2, v24), (2, 1, x1)] fun v25 =>
 knew (Value.cells v25) 140 w23 fun v26 w27 =>
 Q (.tuple #[v26, .nilIface]) w27
def f34_1 (x1 x2 x19 : Value) (Q : PQ) (w : World) : Prop :=
 kB x19 fun b28 => kIf b28
 (kld (.pointer (some ⟨3, 0, none⟩)) w fun v13 =>
 kcall Tryz.prog 75 #[v13] w fun v14 w15 =>
 Q (.tuple #[.pointer none, v14]) w15)
 (f34_2 x1 x2 Q w)
def f34_0 (x1 x2 : Value) (Q : PQ) (w : World) : Prop :=
 kint .i64 .lss x1 (.int .i64 0) fun v10 =>
 kB v10 fun b11 => kIf (!b11)
 (kint .i64 .gtr x1 (.int .i64 64) fun v12 =>
 f34_1 x1 x2 v12 Q w)
 (f34_1 x1 x2 (.bool true) Q w)
def f34 (x0 x1 : Value) (Q : PQ) (w : World) : Prop :=
 knew (Value.cells x0) 78 w fun v1 w2 =>
 kldN 2 v1 w2 fun v3 =>
 kcall Tryz.prog 74 #[v3] w2 fun v4 w5 =>
 keq Tryz.prog .neq 41 false true v4 .nilIface w5 fun v6 w7 =>
 kB v6 fun b29 => kIf b29
 (kcall Tryz.prog 75 #[v4] w7 fun v8 w9 =>
 Q (.tuple #[.pointer none, v8]) w9)
 (f34_0 x1 v1 Q w7)
theorem f34_ok {x0 x1 : Value} {Q : PQ} {w : World} (h : f34 x0 x1 Q w) : Meets Tryz.prog 34 #[x0, x1] w Q :=
 sound' (c := Tryz.f34.body.get rfl) [] Tryz.func34 rfl rfl (args := [x0, x1]) rfl (by kernel_rfl) h
def f75 (x0 : Value) (Q : PQ) (w : World) : Prop :=
 kcall Tryz.prog 86 #[(.string ⟨#[111, 114, 100, 101, 114, 115]⟩), x0] w fun v1 w2 =>
 Q v1 w2
theorem f75_ok {x0 : Value} {Q : PQ} {w : World} (h : f75 x0 Q w) : Meets Tryz.prog 75 #[x0] w Q :=
 sound' (c := Tryz.f75.body.get rfl) [] Tryz.func75 rfl rfl (args := [x0]) rfl (by kernel_rfl) h
def f191_1 (Q : PQ) (w : World) : Prop :=
 Q (.bool false) w
def f191_0 (x3 x5 x23 : Value) (Q : PQ) (w : World) : Prop :=
 kB x23 fun b24 => kIf b24
 (kfld 3 x3 fun v17 =>
 kld v17 w fun v18 =>
 kint .i64 .geq v18 (.int .i64 0) fun v19 =>
 kB v19 fun b20 => kIf b20
 (kfld 3 x3 fun v21 =>
 kld v21 w fun v22 =>
 kint .i64 .lss v22 x5 fun v23 =>
 Q v23 w)
 (Q (.bool false) w))
 (f191_1 Q w)
def f191 (x0 x1 : Value) (Q : PQ) (w : World) : Prop :=
 knew (Value.cells x1) 137 w fun v1 w2 =>
 kN x0 <|
 kfld 0 x0 fun v3 =>
 kfld 0 v3 fun v4 =>
 kld v4 w2 fun v5 =>
 klen v5 fun v6 =>
 kfld 0 v1 fun v8 =>
 kld v8 w2 fun v9 =>
 kint .i64 .eql v9 (.int .i64 1) fun v10 =>
 kB v10 fun b28 => kIf b28
 (kfld 2 v1 fun v11 =>
 kld v11 w2 fun v12 =>
 kint .u32 .shr v12 v6 fun v13 =>
 kint .u32 .eql v13 (.int .u32 0) fun v14 =>
 Q v14 w2)
 (kint .i64 .eql v9 (.int .i64 2) fun v15 =>
 kB v15 fun b27 => kIf b27
 (Q (.bool true) w2)
 (kint .i64 .eql v9 (.int .i64 3) fun v16 =>
 kB v16 fun b26 => kIf b26
 (f191_0 v1 v6 v16 Q w2)
 (kint .i64 .eql v9 (.int .i64 4) fun v25 =>
 f191_0 v1 v6 v25 Q w2)))
theorem f191_ok {x0 x1 : Value} {Q : PQ} {w : World} (h : f191 x0 x1 Q w) : Meets Tryz.prog 191 #[x0, x1] w Q :=
 sound' (c := Tryz.f191.body.get rfl) [] Tryz.func191 rfl rfl (args := [x0, x1]) rfl (by kernel_rfl) h
def f144_0 (x0 x3 : Value) (Q : PQ) (w : World) : Prop :=
 kN x0 <|
 kfld 4 x0 fun v28 =>
 kld v28 w fun v29 =>
 kint .i64 .add v29 (.int .i64 1) fun v30 =>
 kN x0 <|
 kfld 4 x0 fun v31 =>
 kst 1 v31 v30 w fun w32 =>
 kN x0 <|
 kfld 3 x0 fun v33 =>
 kld v33 w32.drew fun v34 =>
 kG (w32.drew = w32.drew) <|
 kldN 4 x3 w32.drew fun v35 =>
 kG (w32.drew = w32.drew) <|
 kbldS [.int .i64 0, .int .i64 0, .int .u32 0, .int .i64 0] 1 [(0, 4, v35)] 137 w32.drew fun v36 w37 =>
 kG (kld v33 w37 fun v42 =>
 v42 = v34 ∧ w37 = w37) <|
 ksem Tryz.prog (Builtin.append_ #[83, 83] 0 #[v34, v36]) w37 fun v38 w39 =>
 kN x0 <|
 kfld 3 x0 fun v40 =>
 kst 1 v40 v38 w39 fun w41 =>
 Q .nilIface w41
def f144 (x0 x1 : Value) (Q : PQ) (w : World) : Prop :=
 knew (Value.cells x1) 137 w fun v1 w2 =>
 keq Tryz.prog .eql 36 false true x0 (.pointer none) w2 fun v3 w4 =>
 kB v3 fun b45 => kIf b45
 (kld (.pointer (some ⟨0, 0, none⟩)) w4 fun v5 =>
 kcall Tryz.prog 75 #[v5] w4 fun v6 w7 =>
 Q v6 w7)
 (kldN 4 v1 w4 fun v8 =>
 kcall Tryz.prog 191 #[x0, v8] w4 fun v9 w10 =>
 kun .not (some .bool) v9 fun v11 =>
 kB v11 fun b44 => kIf b44
 (kld (.pointer (some ⟨3, 0, none⟩)) w10 fun v12 =>
 kcall Tryz.prog 75 #[v12] w10 fun v13 w14 =>
 Q v13 w14)
 (kN x0 <|
 kfld 4 x0 fun v15 =>
 kld v15 w10.drew fun v16 =>
 kG (w10.drew = w10.drew) <|
 kN x0 <|
 kfld 2 x0 fun v17 =>
 kld v17 w10.drew fun v18 =>
 kG (w10.drew = w10.drew) <|
 kint .i64 .geq v16 v18 fun v19 =>
 kB v19 fun b43 => kIf b43
 (kN x0 <|
 kfld 5 x0 fun v20 =>
 kld v20 w10.drew fun v21 =>
 kint .i64 .add v21 (.int .i64 1) fun v22 =>
 kN x0 <|
 kfld 5 x0 fun v23 =>
 kst 1 v23 v22 w10.drew fun w24 =>
 kld (.pointer (some ⟨4, 0, none⟩)) w24 fun v25 =>
 kcall Tryz.prog 75 #[v25] w24 fun v26 w27 =>
 Q v26 w27)
 (f144_0 x0 v1 Q w10.drew)))
theorem f144_ok {x0 x1 : Value} {Q : PQ} {w : World} (h : f144 x0 x1 Q w) : Meets Tryz.prog 144 #[x0, x1] w Q :=
 sound' (c := Tryz.f144.body.get rfl) [] Tryz.func144 rfl rfl (args := [x0, x1]) rfl (by kernel_rfl) h
end
section
def rollF (l : List Bool) : Nat := l.zipIdx.foldl (fun m p => if p.1 then m ||| bitF p.2 else m) 0
theorem rollF_snoc (l : List Bool) (x : Bool) : rollF (l ++ [x]) = if x then rollF l ||| bitF l.length else rollF l := by
 simp [rollF, List.zipIdx_append]
theorem fold_lt {α : Type} (f : Nat → α → Nat) (hf : ∀ m x, m < 4294967296 → f m x < 4294967296) : ∀ (l : List α) (m : Nat), m < 4294967296 → l.foldl f m < 4294967296
 | [], m, h => h
 | x :: l, m, h => fold_lt f hf l _ (hf m x h)
theorem or_lt {a b : Nat} (ha : a < 4294967296) (hb : b < 4294967296) : a ||| b < 4294967296 := Nat.or_lt_two_pow (n := 32) (by omega) (by omega)
theorem rollF_lt (l : List Bool) : rollF l < 4294967296 := by
 refine fold_lt _ (fun m x h => ?_) _ 0 (by omega)
 split
 ·exact or_lt h (bitF_lt _)
 ·exact h
def KindsInv (w : World) (l : List Comp) (x y : Value) (wr : World) : Prop := ∃ i : Nat, i ≤ l.length ∧ y = .int .i64 i ∧ x = msk (rollF ((l.map (·.rb)).take i)) ∧ Same w wr
theorem kinds_spec (l : List Comp) (hn : l.length ≤ 4611686018427387903) (a : Option Addr) (c : Nat) (r : Value) (w : World) (hs : SlIs w a l.length 7 (l.flatMap Comp.cells)) (hr : r.cells = #[r]) :
  Meets Tryz.prog 111 #[.agg #[.slice a l.length c, r], .bool true] w fun v w' => v = msk (rollF (l.map (·.rb))) ∧ Same w w' := by
 refine f111_ok ?_
 unfold f111
 simp -dsimp [Value.cells]
 refine kL_of (KindsInv w l) (fun _ y _ => l.length - (RowKit.intOf y).toNat) ⟨⟨0, by omega, rfl, by simp [rollF, msk], (Mod.refl _ _).alloc _⟩, ?_⟩
 rintro x y wr ⟨i, hi, rfl, rfl, hm⟩
 unfold f111_0
 simp -dsimp
 refine kIf_dec (fun hlt => ?_) (fun hge => ?_)
 ·have hlt : i < l.length := by omega
  obtain ⟨b, o, c', t', f', rfl, hb, hle, hcs⟩ := (hs.same hm).at hlt (by omega)
  rw [flat_get Comp.cells 7 (fun _ => rfl) l i hlt] at hcs
  have htk : (l.map (·.rb)).take (i + 1) = (l.map (·.rb)).take i ++ [l[i].rb] := by rw [List.take_succ_eq_append_getElem (by simpa using hlt)]; simp
  have hlen : ((l.map (·.rb)).take i).length = i := by simp; omega
  generalize l[i] = p at *
  have hadd := i64_succ (i := i) (by omega)
  unfold f111_1
  simp -dsimp [hlt, hb, hle, hcs, Comp.cells]
  have hal : ∀ o, Same w (wr.alloc o) := fun o => hm.alloc o
  cases hrb : p.rb with
  | true =>
   simp -dsimp
   refine kcall_of (with_spec _ _ (rollF_lt _) (by omega) (by omega) _) ?_
   rintro v w' ⟨rfl, rfl⟩
   unfold f111_2
   simp -dsimp [hadd]
   refine ⟨⟨i + 1, by omega, rfl, ?_, hal _⟩, by simp [RowKit.intOf]; omega⟩
   rw [htk, rollF_snoc, hrb, if_pos rfl, hlen]
  | false =>
   simp -dsimp
   unfold f111_2
   simp -dsimp [hadd]
   refine ⟨⟨i + 1, by omega, rfl, ?_, hal _⟩, by simp [RowKit.intOf]; omega⟩
   rw [htk, rollF_snoc, hrb, if_neg (by decide)]
 ·have : i = l.length := by omega
  subst this
  unfold f111_3
  exact ⟨by rw [List.take_of_length_le (by simp)], hm⟩
theorem Rollback_spec (l : List Comp) (hn : l.length ≤ 4611686018427387903) (a : Option Addr) (c : Nat) (r : Value) (w : World) (hs : SlIs w a l.length 7 (l.flatMap Comp.cells)) (hr : r.cells = #[r]) :
  Meets Tryz.prog 73 #[.agg #[.slice a l.length c, r]] w fun v w' => v = msk (rollF (l.map (·.rb))) ∧ Same w w' := by
 refine f73_ok ?_
 unfold f73
 simp -dsimp [Value.cells]
 refine kcall_of (kinds_spec l hn a c r _ (hs.same (same_alloc _ _)) hr) ?_
 rintro v w' ⟨rfl, hm⟩
 exact ⟨rfl, (same_alloc _ _).trans hm⟩
end
section
attribute [local irreducible] kO kB kStr kInt kN kG kIf kfld kld kldN kst knew kmap kbld kbldS kext kcnv klenStr klen kcap kprt kprtN kbool kint kstr keq kun ksl kix kiv kta kmk kmm ksem ksemU kextf kcallV kcallM kcall kL
end
section
structure OrdM where
 kind : Int
 id : Int
 mask : Nat
 comp : Int
def OrdM.cells (x : OrdM) : List Value := [.int .i64 x.kind, .int .i64 x.id, msk x.mask, .int .i64 x.comp]
def OrdM.fit (n : Nat) (x : OrdM) : Prop := (x.kind = 1 ∧ x.mask < 2 ^ n) ∨ x.kind = 2 ∨ ((x.kind = 3 ∨ x.kind = 4) ∧ 0 ≤ x.comp ∧ x.comp < n)
theorem viewS_len (S : SM) (B : BdM) : (viewS S B).length = B.l.length := by unfold viewS; simp
theorem Link.full {S : SM} {B : BdM} (h : Link S B) : S.free = [] ↔ ¬ (viewS S B).length < S.gens.length := by
 have := h.cnt
 rw [viewS_len]
 constructor
 ·intro e
  rw [e] at this
  simp at this
  omega
 ·intro hn
  exact List.eq_nil_of_length_eq_zero (by omega)
theorem Link.le {S : SM} {B : BdM} (h : Link S B) (hg : S.gens.length ≤ 64) : B.l.length ≤ 64 := by
 have := h.cnt
 omega
theorem findV_mem {V : List (Nat × List Part)} {x : Int} {y : Nat × List Part} (h : findV V x = some y) : y ∈ V ∧ ((y.1 : Nat) : Int) = x := by
 unfold findV at h
 refine ⟨List.mem_of_find?_eq_some h, ?_⟩
 have := List.find?_some h
 simpa using this
end
section
def f69_3 (x5 x18 x19 x20 : Value) (J6 : Value → World → Prop) (Q : PQ) (w : World) : Prop :=
 kint .i64 .add x20 (.int .i64 1) fun v41 =>
 J6 v41 w
def f69_2 (x5 x18 x19 x20 : Value) (J6 : Value → World → Prop) (Q : PQ) (w : World) : Prop :=
 kix (some (.slice 150)) (some 2) x18 x20 fun v20 =>
 kldN 2 v20 w fun v21 =>
 knew #[(.string ⟨#[]⟩), .int .i64 0] 150 w fun v22 w23 =>
 kst 2 v22 v21 w23 fun w24 =>
 kN x5 <|
 kfld 0 x5 fun v25 =>
 kld v25 w24.drew fun v26 =>
 kG (w24.drew = w24.drew) <|
 kfld 0 v22 fun v27 =>
 kld v27 w24.drew fun v28 =>
 kG (w24.drew = w24.drew) <|
 ksemU Tryz.prog (Instr.mapUpdate 200 v26 v28 x20) w24.drew fun _ w30 =>
 kN x5 <|
 kfld 1 x5 fun v31 =>
 kld v31 w30.drew fun v32 =>
 kG (w30.drew = w30.drew) <|
 kfld 1 v22 fun v33 =>
 kld v33 w30.drew fun v34 =>
 kG (w30.drew = w30.drew) <|
 kbldS [.int .i64 0] 1 [(0, 1, v34)] 3 w30.drew fun v35 w36 =>
 kG (kld v31 w36 fun v42 =>
 v42 = v32 ∧ w36 = w36) <|
 ksem Tryz.prog (Builtin.append_ #[55, 55] 0 #[v32, v35]) w36 fun v37 w38 =>
 kN x5 <|
 kfld 1 x5 fun v39 =>
 kst 1 v39 v37 w38 fun w40 =>
 f69_3 x5 x18 x19 x20 J6 Q w40
def f69_4 (x5 : Value) (Q : PQ) (w : World) : Prop :=
 Q (.tuple #[x5, .nilIface]) w
def f69_1 (x20 x5 x18 x19 : Value) (J6 : Value → World → Prop) (Q : PQ) (w : World) : Prop :=
 kint .i64 .lss x20 x19 fun v19 =>
 kB v19 fun b43 => kIf b43
 (f69_2 x5 x18 x19 x20 J6 Q w)
 (f69_4 x5 Q w)
def f69_0 (x1 : Value) (Q : PQ) (w : World) : Prop :=
 kmap w fun v10 w11 =>
 kbld [.map none, .slice none 0 0, .int .i64 0] [(0, 1, v10)] fun v12 =>
 knew (Value.cells v12) 202 w11 fun v13 w14 =>
 kfld 1 x1 fun v15 =>
 kld v15 w14 fun v16 =>
 klen v16 fun v17 =>
 kL fun (I : Value → World → Prop) (μ : Value → World → Nat) => I (.int .i64 0) w14 ∧ ∀ (x20 : Value) (w1 : World), I x20 w1 →
 f69_1 x20 v13 v16 v17 (fun y20 w2 => I y20 w2 ∧ μ y20 w2 < μ x20 w1) Q w1
def f69 (x0 : Value) (Q : PQ) (w : World) : Prop :=
 knew (Value.cells x0) 78 w fun v1 w2 =>
 kldN 2 v1 w2 fun v3 =>
 kcall Tryz.prog 74 #[v3] w2 fun v4 w5 =>
 keq Tryz.prog .neq 41 false true v4 .nilIface w5 fun v6 w7 =>
 kB v6 fun b44 => kIf b44
 (kcall Tryz.prog 110 #[v4] w7 fun v8 w9 =>
 Q (.tuple #[.pointer none, v8]) w9)
 (f69_0 v1 Q w7)
theorem f69_ok {x0 : Value} {Q : PQ} {w : World} (h : f69 x0 Q w) : Meets Tryz.prog 69 #[x0] w Q :=
 sound' (c := Tryz.f69.body.get rfl) [(6, [20])] Tryz.func69 rfl rfl (args := [x0]) rfl (by kernel_rfl) h
def f110 (x0 : Value) (Q : PQ) (w : World) : Prop :=
 kcall Tryz.prog 86 #[(.string ⟨#[103, 111, 111, 100, 115]⟩), x0] w fun v1 w2 =>
 Q v1 w2
theorem f110_ok {x0 : Value} {Q : PQ} {w : World} (h : f110 x0 Q w) : Meets Tryz.prog 110 #[x0] w Q :=
 sound' (c := Tryz.f110.body.get rfl) [] Tryz.func110 rfl rfl (args := [x0]) rfl (by kernel_rfl) h
def f60_0 (x0 : Value) (Q : PQ) (w : World) : Prop :=
 kN x0 <|
 kfld 1 x0 fun v3 =>
 kld v3 w fun v4 =>
 kcall Tryz.prog 50 #[v4] w fun v5 w6 =>
 Q v5 w6
def f60 (x0 : Value) (Q : PQ) (w : World) : Prop :=
 keq Tryz.prog .eql 103 false true x0 (.pointer none) w fun v1 w2 =>
 kB v1 fun b7 => kIf b7
 (Q (.slice none 0 0) w2)
 (f60_0 x0 Q w2)
theorem f60_ok {x0 : Value} {Q : PQ} {w : World} (h : f60 x0 Q w) : Meets Tryz.prog 60 #[x0] w Q :=
 sound' (c := Tryz.f60.body.get rfl) [] Tryz.func60 rfl rfl (args := [x0]) rfl (by kernel_rfl) h
def f215_0 (x0 : Value) (Q : PQ) (w : World) : Prop :=
 kN x0 <|
 kfld 1 x0 fun v3 =>
 kld v3 w fun v4 =>
 klen v4 fun v5 =>
 Q v5 w
def f215 (x0 : Value) (Q : PQ) (w : World) : Prop :=
 keq Tryz.prog .eql 103 false true x0 (.pointer none) w fun v1 w2 =>
 kB v1 fun b7 => kIf b7
 (Q (.int .i64 0) w2)
 (f215_0 x0 Q w2)
theorem f215_ok {x0 : Value} {Q : PQ} {w : World} (h : f215 x0 Q w) : Meets Tryz.prog 215 #[x0] w Q :=
 sound' (c := Tryz.f215.body.get rfl) [] Tryz.func215 rfl rfl (args := [x0]) rfl (by kernel_rfl) h
def f186_1 (x0 x1 : Value) (Q : PQ) (w : World) : Prop :=
 kN x0 <|
 kfld 1 x0 fun v6 =>
 kld v6 w fun v7 =>
 kix (some (.slice 3)) (some 1) v7 x1 fun v8 =>
 kld v8 w fun v9 =>
 Q (.tuple #[v9, .bool true]) w
def f186_0 (x0 x1 x13 : Value) (Q : PQ) (w : World) : Prop :=
 kB x13 fun b10 => kIf b10
 (Q (.tuple #[.int .i64 0, .bool false]) w)
 (f186_1 x0 x1 Q w)
def f186 (x0 x1 : Value) (Q : PQ) (w : World) : Prop :=
 kint .i64 .lss x1 (.int .i64 0) fun v1 =>
 kB v1 fun b2 => kIf (!b2)
 (kcall Tryz.prog 215 #[x0] w fun v3 w4 =>
 kint .i64 .geq x1 v3 fun v5 =>
 f186_0 x0 x1 v5 Q w4)
 (f186_0 x0 x1 (.bool true) Q w)
theorem f186_ok {x0 x1 : Value} {Q : PQ} {w : World} (h : f186 x0 x1 Q w) : Meets Tryz.prog 186 #[x0, x1] w Q :=
 sound' (c := Tryz.f186.body.get rfl) [] Tryz.func186 rfl rfl (args := [x0, x1]) rfl (by kernel_rfl) h
def f190_0 (x0 x1 x2 x8 : Value) (Q : PQ) (w : World) : Prop :=
 kN x0 <|
 kfld 1 x0 fun v14 =>
 kld v14 w fun v15 =>
 kix (some (.slice 3)) (some 1) v15 x1 fun v16 =>
 kst 1 v16 x2 w fun w17 =>
 kN x0 <|
 kfld 2 x0 fun v18 =>
 kld v18 w17 fun v19 =>
 kint .i64 .add v19 (.int .i64 1) fun v20 =>
 kN x0 <|
 kfld 2 x0 fun v21 =>
 kst 1 v21 v20 w17 fun w22 =>
 Q (.tuple #[x8, .nilIface]) w22
def f190 (x0 x1 x2 : Value) (Q : PQ) (w : World) : Prop :=
 kcall Tryz.prog 186 #[x0, x1] w fun v1 w2 =>
 kext v1 0 fun v3 =>
 kext v1 1 fun v4 =>
 keq Tryz.prog .eql 103 false true x0 (.pointer none) w2 fun v5 w6 =>
 kB v5 fun b24 => kIf b24
 (kld (.pointer (some ⟨0, 0, none⟩)) w6 fun v7 =>
 kcall Tryz.prog 110 #[v7] w6 fun v8 w9 =>
 Q (.tuple #[.int .i64 0, v8]) w9)
 (kun .not (some .bool) v4 fun v10 =>
 kB v10 fun b23 => kIf b23
 (kld (.pointer (some ⟨13, 0, none⟩)) w6 fun v11 =>
 kcall Tryz.prog 110 #[v11] w6 fun v12 w13 =>
 Q (.tuple #[.int .i64 0, v12]) w13)
 (f190_0 x0 x1 x2 v3 Q w6))
theorem f190_ok {x0 x1 x2 : Value} {Q : PQ} {w : World} (h : f190 x0 x1 x2 Q w) : Meets Tryz.prog 190 #[x0, x1, x2] w Q :=
 sound' (c := Tryz.f190.body.get rfl) [] Tryz.func190 rfl rfl (args := [x0, x1, x2]) rfl (by kernel_rfl) h
end
section
attribute [local irreducible] kO kB kStr kInt kN kG kIf kfld kld kldN kst knew kmap kbld kbldS kext kcnv klenStr klen kcap kprt kprtN kbool kint kstr keq kun ksl kix kiv kta kmk kmm ksem ksemU kextf kcallV kcallM kcall kL
structure WC where
 bw : Nat
 bs : Nat
 bb : Nat
 ca : Option Addr
 cc : Nat
 rv : Value
 bg : Nat
 gm : Value
 gs : Value
 gn : Value
 R : List Int
 L : List Comp
 rolled : Nat
 frame : Int
 seed : Int
def WC.cells (c : WC) : Array Value := #[.slice c.ca c.L.length c.cc, c.rv, .pointer (some ⟨c.bs, 0, none⟩), .pointer (some ⟨c.bb, 0, none⟩), .pointer (some ⟨c.bg, 0, none⟩), msk c.rolled, .int .i64 c.frame, .int .i64 c.seed, .pointer none]
def WC.mine (c : WC) (k : Nat) : Prop := k = c.bw ∨ (∃ f, c.ca = some ⟨k, f, none⟩) ∨ k = c.bg ∨ vblk c.gs k
structure WdAt (c : WC) (w0 : World) (fx : Nat → Prop) (w : World) (S : SM) (t : Nat) (B : BdM) : Prop where
 here : blk w c.bw = some (.cells c.cells 106)
 fm : ∀ k, c.mine k → fx k
 comps : SlIs w c.ca c.L.length 7 (c.L.flatMap Comp.cells)
 gh : blk w c.bg = some (.cells #[c.gm, c.gs, c.gn] 202)
 go : Own w c.gs 1 (c.R.map (Value.int .i64))
 rvc : c.rv.cells = #[c.rv]
 good : GoodSc c.L
 rl : c.rolled < 4294967296
 A : WAt w0 fx c.bs c.bb w S t B
 link : Link S B
 cs : S.cs = c.L
 gi : ∃ n : Int, c.gn = .int .i64 n
 ap : (∀ k, vblk c.gs k → k ≠ c.bg ∧ k ≠ c.bw ∧ ∀ f, c.ca ≠ some ⟨k, f, none⟩) ∧ c.bg ≠ c.bw ∧ ∀ k f, c.ca = some ⟨k, f, none⟩ → k ≠ c.bg ∧ k ≠ c.bw
theorem WdAt.fw {c : WC} {w0 : World} {fx : Nat → Prop} {w : World} {S : SM} {t : Nat} {B : BdM} (h : WdAt c w0 fx w S t B) : fx c.bw := h.fm _ (.inl rfl)
theorem WdAt.part {c : WC} {w0 : World} {fx fp : Nat → Prop} {w w' : World} {S : SM} {t : Nat} {B : BdM} (h : WdAt c w0 fx w S t B) (m : Mod fp w w') (hf : ∀ k, c.mine k → ¬ fp k) {fx' : Nat → Prop} {S' : SM} {t' : Nat} {B' : BdM} (hs : ∀ k, c.mine k → fx' k) (hA : WAt w0 fx' c.bs c.bb w' S' t' B') (hl : Link S' B') (hcs : S'.cs = S.cs) : WdAt c w0 fx' w' S' t' B' :=
 ⟨m.get h.here (hf _ (.inl rfl)), hs, h.comps.mod m (fun k f e => hf k (.inr (.inl ⟨f, e⟩))), m.get h.gh (hf _ (.inr (.inr (.inl rfl)))), h.go.mod m (fun k hk => hf k (.inr (.inr (.inr hk)))), h.rvc, h.good, h.rl, hA, hl, hcs.trans h.cs, h.gi, h.ap⟩
theorem WdAt.loc {c : WC} {w0 : World} {fx : Nat → Prop} {w w' : World} {S : SM} {t : Nat} {B : BdM} (h : WdAt c w0 fx w S t B) (m : Same w w') : WdAt c w0 fx w' S t B :=
 h.part m (fun _ _ h => h) h.fm (h.A.loc m) h.link rfl
theorem WdAt.step {c : WC} {w0 : World} {fx : Nat → Prop} {w w' : World} {S S' : SM} {t t' : Nat} {B B' : BdM} (h : WdAt c w0 fx w S t B) (hA : WAt w0 fx c.bs c.bb w' S' t' B') (m : Mod (fun k => w0.heap.size ≤ k ∧ ¬ fx k) w w') (hl : Link S' B') (hcs : S'.cs = S.cs) : WdAt c w0 fx w' S' t' B' :=
 h.part m (fun k hk hn => hn.2 (h.fm k hk)) h.fm hA hl hcs
theorem WdAt.other {c : WC} {w0 : World} {fx fp : Nat → Prop} {w w' : World} {S : SM} {t : Nat} {B : BdM} (h : WdAt c w0 fx w S t B) (m : Mod fp w w') (hfp : ∀ k, fp k → fx k ∧ ¬ c.mine k) : WdAt c w0 (fun k => fx k ∨ (w.heap.size ≤ k ∧ k < w'.heap.size)) w' S t B :=
 h.part m (fun k hk hn => (hfp k hn).2 hk) (fun k hk => .inl (h.fm k hk)) (h.A.other m (fun k hk => (hfp k hk).1)) h.link rfl
theorem WdAt.less {c : WC} {w0 : World} {fx fx' : Nat → Prop} {w : World} {S : SM} {t : Nat} {B : BdM} (h : WdAt c w0 fx w S t B) (hs : ∀ k, fx' k → fx k) (h1 : ∀ k, c.mine k → fx' k) : WdAt c w0 fx' w S t B :=
 h.part (Mod.refl (fun _ => False) _) (fun _ _ h => h) h1 (h.A.less hs) h.link rfl
theorem WdAt.gs {c : WC} {w0 : World} {fx : Nat → Prop} {w : World} {S : SM} {t : Nat} {B : BdM} (h : WdAt c w0 fx w S t B) : GS S t := by
 obtain ⟨o, p, U, C, _⟩ := h.A
 exact C.gs
theorem WdAt.wf {c : WC} {w0 : World} {fx : Nat → Prop} {w : World} {S : SM} {t : Nat} {B : BdM} (h : WdAt c w0 fx w S t B) : B.WF := by
 obtain ⟨o, p, U, _, ⟨bo, bi, sv, q⟩, _⟩ := h.A
 exact q.wf
def Out (c : WC) (w0 : World) (fx : Nat → Prop) (w : World) (S : SM) (t : Nat) (B : BdM) (res : Option (List (Nat × List Part) × Nat)) (w' : World) : Prop :=
 ∃ S' B', WdAt c w0 fx w' S' (t + 1) B' ∧ S'.gens.length = S.gens.length ∧ Mod (fun k => w0.heap.size ≤ k ∧ ¬ fx k) w w' ∧ viewS S' B' = (match res with | some x => x.1 | none => viewS S B) ∧ B'.nx = (match res with | some x => x.2 | none => B.nx)
theorem WAt.more {w0 : World} {fx : Nat → Prop} {bs bb : Nat} {w : World} {S : SM} {t t' : Nat} {B : BdM} (h : WAt w0 fx bs bb w S t B) (ht : t ≤ t') : WAt w0 fx bs bb w S t' B := by
 obtain ⟨o, p, U, C, hb, hU, hf⟩ := h
 exact ⟨o, p, U, ⟨C.sp, C.gs.more ht, C.lo, C.hi, C.same⟩, hb, hU, hf⟩
theorem WdAt.more {c : WC} {w0 : World} {fx : Nat → Prop} {w : World} {S : SM} {t t' : Nat} {B : BdM} (h : WdAt c w0 fx w S t B) (ht : t ≤ t') : WdAt c w0 fx w S t' B :=
 h.part (Mod.refl (fun _ => False) _) (fun _ _ h => h) h.fm (h.A.more ht) h.link rfl
theorem Out.none {c : WC} {w0 : World} {fx : Nat → Prop} {w w' : World} {S : SM} {t : Nat} {B : BdM} (h : WdAt c w0 fx w S t B) (m : Same w w') : Out c w0 fx w S t B none w' :=
 ⟨S, B, (h.loc m).more (Nat.le_succ t), rfl, Mod.of_same m, rfl, rfl⟩
theorem ptWor : isPtrT Tryz.prog 35 = true := by kernel_rfl
theorem ptJou : isPtrT Tryz.prog 104 = true := by kernel_rfl
theorem wWrong {Sa : Nat → Addr} {k lo : Nat} {x : Value} {w : World} (h : ErrX Sa k lo x w) (hlo : lo ≤ w.heap.size) : Meets Tryz.prog 68 #[x] w fun v w' => ErrX Sa k lo v w' ∧ Same w w' := by
 refine f68_ok ?_
 unfold f68
 refine kcall_of (atX_spec _ h hlo) ?_
 rintro v w' ⟨h1, h2⟩
 exact ⟨h1, h2⟩
theorem wNote {c : WC} {w : World} (h : blk w c.bw = some (.cells c.cells 106)) (u : Value) : Meets Tryz.prog 77 #[.pointer (some ⟨c.bw, 0, none⟩), u] w fun v w' => v = .tuple #[] ∧ Same w w' := by
 refine f77_ok ?_
 unfold f77
 refine knew_of fun w2 h2 hs2 hb2 => ?_
 have hh := h2.get h (fun h => h)
 refine kN_at ?_
 refine kfld_of ?_
 refine kld_of (v := .pointer none) hh rfl ?_
 rw [keq_ptr_nil' ptJou]
 refine kB_at ?_
 refine kIf_F rfl ?_
 exact ⟨rfl, h2⟩
theorem wNoteOf {c : WC} {w : World} (h : blk w c.bw = some (.cells c.cells 106)) (hr : c.rolled < 4294967296) (kd id : Int) (q : Part) (hq : I64 q.comp) : Meets Tryz.prog 189 #[.pointer (some ⟨c.bw, 0, none⟩), .int .i64 kd, .int .i64 id, .agg q.cells.toArray] w fun v w' => v = .tuple #[] ∧ Same w w' := by
 refine f189_ok ?_
 unfold f189
 refine knew_of fun w2 h2 hs2 hb2 => ?_
 have hb2 : blk w2 w.heap.size = some (.cells q.cells.toArray 49) := hb2
 have md : Same w2 w2.drew := (Mod.refl (fun _ => False) _).drew
 have hh := (h2.trans md).get h (fun h => h)
 have hbd := md.get hb2 (fun h => h)
 refine kN_at ?_
 refine kfld_of ?_
 refine kld_of (v := msk c.rolled) hh rfl ?_
 refine kG_of rfl ?_
 refine kfld_of ?_
 refine kld_of (v := .int .i64 q.comp) hbd (by simp [Part.cells]) ?_
 refine kG_of rfl ?_
 refine kcall_of (has_spec c.rolled q.comp hr hq.1 hq.2 _) ?_
 rintro v w8 ⟨rfl, rfl⟩
 have m2 := h2.trans md
 refine kB_at ?_
 refine kIf_dec (fun _ => ?_) (fun _ => ⟨rfl, m2⟩)
 refine kldN_at (cs := q.cells) hbd rfl (by omega) ?_
 refine kbld_of (cs := .int .i64 kd :: .int .i64 id :: (q.cells ++ [.slice none 0 0, .int .i64 0, .int .i64 0])) rfl ?_
 refine kcall_of (wNote (m2.get h (fun h => h)) _) ?_
 rintro v w12 ⟨rfl, h12⟩
 exact ⟨rfl, m2.trans h12⟩
theorem wEntity_ok {c : WC} {w0 : World} {fx : Nat → Prop} {w : World} {S : SM} {t : Nat} {B : BdM} (h : WdAt c w0 fx w S t B) {x : Int} {y : Nat × EK} (hf : B.l.find? (fun z => decide (((z.1 : Nat) : Int) = x)) = some y) :
  Meets Tryz.prog 84 #[.pointer (some ⟨c.bw, 0, none⟩), .int .i64 x] w fun v w' => v = .tuple #[y.2.v, .nilIface] ∧ Same w w' := by
 refine f84_ok ?_
 unfold f84
 refine knew_of fun w2 h2 hs2 hb2 => ?_
 have hb2 : blk w2 w.heap.size = some (.cells #[.int .i64 0, .int .i64 0] 160) := hb2
 rw [keq_ptr_nil ptWor]
 refine kB_at ?_
 refine kIf_F rfl ?_
 unfold f84_0
 have hh := h2.get h.here (fun h => h)
 refine kN_at ?_
 refine kfld_of ?_
 refine kld_of (v := .pointer (some ⟨c.bb, 0, none⟩)) hh rfl ?_
 obtain ⟨o, p, U, C, hb, hU, hfx⟩ := h.A
 refine kcall_of (bdEntity (hb.same h2) x) ?_
 rintro v w14 ⟨rfl, h14⟩
 rw [hf]
 refine kext_at rfl ?_
 refine kext_at rfl ?_
 have m14 := h2.trans h14
 refine knew_of fun w18 h18 hs18 hb18 => ?_
 refine kst_of (vs := [.int .i64 y.2.i, .int .i64 y.2.g]) hb18 rfl rfl rfl (by simp) (by simp) fun w19 h19 hs19 hb19 => ?_
 have hb19 : blk w19 w14.heap.size = some (.cells #[.int .i64 y.2.i, .int .i64 y.2.g] 160) := hb19
 have m19 : Same w14 w19 := h18.trans' (h19.mono fun k _ e => .inr (by omega))
 have hb219 := m19.get (h14.get hb2 (fun h => h)) (fun h => h)
 have hz14 := m14.size
 refine not_at ?_
 refine kB_at ?_
 refine kIf_F rfl ?_
 unfold f84_1
 refine kldN_at (cs := [.int .i64 y.2.i, .int .i64 y.2.g]) hb19 rfl (by omega) ?_
 refine kst_of (vs := [.int .i64 y.2.i, .int .i64 y.2.g]) hb219 rfl rfl rfl (by simp) (by simp) fun w28 h28 hs28 hb28 => ?_
 have hb28 : blk w28 w.heap.size = some (.cells #[.int .i64 y.2.i, .int .i64 y.2.g] 160) := hb28
 refine kldN_at (cs := [.int .i64 y.2.i, .int .i64 y.2.g]) hb28 rfl (by omega) ?_
 exact ⟨rfl, (m14.trans m19).trans' (h28.mono fun k _ e => .inr (by omega))⟩
theorem wEntity_no {pr : Nat → Prop} {Sa : Nat → Addr} {c : WC} {w0 : World} (hL : LaidP pr Sa w0) (h17 : pr 17) {fx : Nat → Prop} {w : World} {S : SM} {t : Nat} {B : BdM} (h : WdAt c w0 fx w S t B) {x : Int} (hf : B.l.find? (fun z => decide (((z.1 : Nat) : Int) = x)) = none) :
  Meets Tryz.prog 84 #[.pointer (some ⟨c.bw, 0, none⟩), .int .i64 x] w fun v w' => (∃ e, v = .tuple #[entV 0 0, e] ∧ ErrX Sa 17 w.heap.size e w') ∧ Same w w' := by
 refine f84_ok ?_
 unfold f84
 refine knew_of fun w2 h2 hs2 hb2 => ?_
 have hb2 : blk w2 w.heap.size = some (.cells #[.int .i64 0, .int .i64 0] 160) := hb2
 rw [keq_ptr_nil ptWor]
 refine kB_at ?_
 refine kIf_F rfl ?_
 unfold f84_0
 have hh := h2.get h.here (fun h => h)
 refine kN_at ?_
 refine kfld_of ?_
 refine kld_of (v := .pointer (some ⟨c.bb, 0, none⟩)) hh rfl ?_
 have hs0 := h.A.same0
 obtain ⟨o, p, U, C, hb, hU, hfx⟩ := h.A
 refine kcall_of (bdEntity (hb.same h2) x) ?_
 rintro v w14 ⟨rfl, h14⟩
 rw [hf]
 refine kext_at rfl ?_
 refine kext_at rfl ?_
 have m14 := h2.trans h14
 refine knew_of fun w18 h18 hs18 hb18 => ?_
 refine kst_of (vs := [.int .i64 0, .int .i64 0]) hb18 rfl rfl rfl (by simp) (by simp) fun w19 h19 hs19 hb19 => ?_
 have m19 : Same w14 w19 := h18.trans' (h19.mono fun k _ e => .inr (by omega))
 have hb219 := m19.get (h14.get hb2 (fun h => h)) (fun h => h)
 have hz14 := m14.size
 refine not_at ?_
 refine kB_at ?_
 refine kIf_T rfl ?_
 refine kbld_of (cs := [.int .i64 0, .int .i64 0]) rfl ?_
 have mw := m14.trans m19
 refine kld_err (hL.same (hs0.trans mw)) h17 rfl rfl ?_
 have hz2 := h2.size
 refine kcall_of (wWrong (ErrX.sent Sa 17 (w.heap.size + 1) w19) (by have := m19.size; have := h14.size; omega)) ?_
 rintro v w24 ⟨hE, h24⟩
 have hb224 := h24.get hb219 (fun h => h)
 refine kst_of (vs := [.int .i64 0, .int .i64 0]) hb224 rfl rfl rfl (by simp) (by simp) fun w25 h25 hs25 hb25 => ?_
 have hb25 : blk w25 w.heap.size = some (.cells #[.int .i64 0, .int .i64 0] 160) := hb25
 refine kldN_at (cs := [.int .i64 0, .int .i64 0]) hb25 rfl (by omega) ?_
 refine ⟨⟨_, rfl, ?_⟩, (mw.trans h24).trans' (h25.mono fun k _ e => .inr (by omega))⟩
 exact (hE.mod h25 (fun b hlo _ e => by omega)).mono (by omega)
end
section
attribute [local irreducible] kO kB kStr kInt kN kG kIf kfld kld kldN kst knew kmap kbld kbldS kext kcnv klenStr klen kcap kprt kprtN kbool kint kstr keq kun ksl kix kiv kta kmk kmm ksem ksemU kextf kcallV kcallM kcall kL
def ErrI (v : Value) : Prop := ∃ ty y, v = .iface ty y
theorem ek_of {S : SM} {t : Nat} (hG : GS S t) (ht : t ≤ 10000) {i : Nat} {x : Int × Bool} (h : S.gens[i]? = some x) {g : Int} (hg : 0 ≤ g) (hg2 : g ≤ x.1 + 1) : ∃ e : EK, e.i = (i : Int) ∧ e.g = g := by
 have h1 := hG.gen i x h
 have h2 := (List.getElem?_eq_some_iff.1 h).1
 have h3 := hG.g64
 exact ⟨⟨(i : Int), g, by unfold I64; omega, by unfold I64; omega⟩, rfl, rfl⟩
theorem wSpawn_ok {pr : Nat → Prop} {Sa : Nat → Addr} {c : WC} {w0 : World} (hL : LaidP pr Sa w0) (h6 : pr 6) (hD : DeAt w0) {fx : Nat → Prop} {w : World} {S : SM} {t : Nat} {B : BdM} (h : WdAt c w0 fx w S t B) (ht : t ≤ 10000) (hnx : B.nx ≤ 1000000)
  {P : List Part} {a : Option Addr} {cp : Nat} (hs : SlIs w a P.length 6 (P.flatMap Part.cells)) (hfa : ∀ k f, a = some ⟨k, f, none⟩ → fx k) (hn : P.length ≤ 64) (hf : ∀ q ∈ P, FitsP c.L q) (hnt : NoTwice P) (hso : SortP P) (hlt : (viewS S B).length < S.gens.length) :
  Meets Tryz.prog 39 #[.pointer (some ⟨c.bw, 0, none⟩), .slice a P.length cp] w fun v w' => v = .tuple #[natV B.nx, .nilIface] ∧ Out c w0 fx w S t B (some (viewS S B ++ [(B.nx, P)], B.nx + 1)) w' := by
 have hs0 := h.A.same0
 have hh := h.here
 have hbwlt := lt_of_blk h.here
 have hwf := h.wf
 have hA := h.A
 obtain ⟨o, p, U, C, hb, hU, hfx⟩ := hA
 refine f39_ok ?_
 unfold f39
 rw [keq_ptr_nil ptWor]
 refine kB_at ?_
 refine kIf_F rfl ?_
 unfold f39_0
 refine kN_at ?_
 refine kfld_of ?_
 refine kld_of (v := .pointer (some ⟨c.bs, 0, none⟩)) hh rfl ?_
 have hfull : S.free ≠ [] := fun e => h.link.full.1 e hlt
 have hsp := spawn_at (L := P) (c := cp) (hD.same C.same) C.sp (C.lo _ hD.lt) C.gs ht hfull hs (fun k f e => (hfx k (hfa k f e)).2.2) (by omega) (by rw [h.cs]; exact hf) hnt
 rw [ptrV] at hsp
 refine kcall_of hsp ?_
 rintro v w9 ⟨i, g0, L1, S1, hi1, hg1, rfl, hp1, hs1', hG1, B1, T1⟩
 have eL : L1 = P := (sorted_unique hp1.symm hso hs1' hnt).symm
 subst eL
 obtain ⟨hA9, hm9⟩ := WAt.turned C hb hU hfx T1 hG1
 obtain ⟨ek, hei, heg⟩ := ek_of C.gs ht hg1 (g := g0 + 1) (by have := (C.gs.gen i _ hg1).1; omega) (by omega)
 have hids : B.ids ek = none := BdM.ids_none.2 fun x hx e => by
  obtain ⟨j, h1, h2⟩ := h.link.live x hx
  rw [e, hei] at h1
  have : i = j := by omega
  subst this
  rw [hg1] at h2
  cases h2
 have hBl : B.l.length < 64 := by
  have := C.gs.g64
  rw [viewS_len] at hlt
  omega
 refine kext_at rfl ?_
 refine kext_at rfl ?_
 have hz9 := hm9.size
 refine knew_of fun w13 h13 hs13 hb13 => ?_
 refine kst_of (vs := [.int .i64 i, .int .i64 (g0 + 1)]) hb13 rfl rfl rfl (by simp) (by simp) fun w14 h14 hs14 hb14 => ?_
 have hb14 : blk w14 w9.heap.size = some (.cells #[.int .i64 i, .int .i64 (g0 + 1)] 160) := hb14
 have m14 : Same w9 w14 := h13.trans' (h14.mono fun k _ e => .inr (by omega))
 rw [keq_nil_nil' ifErr]
 refine kB_at ?_
 refine kIf_F rfl ?_
 unfold f39_1
 have hA14 := hA9.loc m14
 have hm14 : Mod (fun k => w0.heap.size ≤ k ∧ ¬ fx k) w w14 := hm9.trans (Mod.of_same m14)
 have hh14 := hm14.get hh (fun hk => hk.2 h.fw)
 obtain ⟨o4, p4, U4, C4, hb4, hU4, hfx4⟩ := hA14
 refine kN_at ?_
 refine kfld_of ?_
 refine kld_of (v := .pointer (some ⟨c.bb, 0, none⟩)) hh14 rfl ?_
 refine kcall_of (bdNext hb4) ?_
 rintro v w22 ⟨rfl, rfl⟩
 have md : Same w22 w22.drew := (Mod.refl (fun _ => False) _).drew
 refine kN_at ?_
 refine kfld_of ?_
 refine kld_of (v := .pointer (some ⟨c.bb, 0, none⟩)) (md.get hh14 (fun h => h)) rfl ?_
 refine kG_of rfl ?_
 refine kldN_at (cs := [.int .i64 i, .int .i64 (g0 + 1)]) (md.get hb14 (fun h => h)) rfl (by omega) ?_
 refine kG_of rfl ?_
 have hgv := bdGive (hb4.same md) ek hids hBl (by omega)
 have hev : ek.v = .agg #[.int .i64 i, .int .i64 (g0 + 1)] := by unfold EK.v entV; rw [hei, heg]
 rw [hev] at hgv
 refine kcall_of hgv ?_
 rintro v w27 ⟨rfl, hB27, hm27⟩
 have C4d := C4.loc md
 obtain ⟨hA27, hm27'⟩ := WAt.badged C4d (fun k hk => hU4 k hk) (fun k hk => ⟨(hfx4 k hk).1, Nat.lt_of_lt_of_le (hfx4 k hk).2.1 md.size, (hfx4 k hk).2.2⟩) hB27 hm27
 refine kext_at rfl ?_
 refine kext_at rfl ?_
 rw [keq_nil_nil' ifErr]
 refine kB_at ?_
 refine kIf_F rfl ?_
 unfold f39_2
 have hm27w : Mod (fun k => w0.heap.size ≤ k ∧ ¬ fx k) w w27 := (hm14.trans (Mod.of_same md)).trans hm27'
 have hh27 := hm27w.get hh (fun hk => hk.2 h.fw)
 refine kbld_of (cs := [.int .i64 7, .int .i64 0, .int .i64 0, .int .i64 0, .int .i64 0, .int .i64 0, .int .i64 0, .int .i64 0, .slice none 0 0, .int .i64 0, natV B.nx]) rfl ?_
 refine kcall_of (wNote hh27 _) ?_
 rintro v w41 ⟨rfl, h41⟩
 refine kbld_of (cs := [.int .i64 2, natV B.nx, .int .i64 0, .int .i64 0, .int .i64 0, .int .i64 0, .int .i64 0, .int .i64 0, .slice none 0 0, .int .i64 0, .int .i64 0]) rfl ?_
 refine kcall_of (wNote (h41.get hh27 (fun h => h)) _) ?_
 rintro v w44 ⟨rfl, h44⟩
 have m44 := h41.trans h44
 have hfr := hfull
 refine ⟨rfl, S1, _, (h.step hA27 hm27w (h.link.born hfr B1 hg1 hei heg) B1.cs).loc m44, by rw [B1.gens, List.length_set], hm27w.trans (Mod.of_same m44), view_born h.link B1 hg1 hei, rfl⟩
end
section
attribute [local irreducible] kO kB kStr kInt kN kG kIf kfld kld kldN kst knew kmap kbld kbldS kext kcnv klenStr klen kcap kprt kprtN kbool kint kstr keq kun ksl kix kiv kta kmk kmm ksem ksemU kextf kcallV kcallM kcall kL
end
section
attribute [local irreducible] kO kB kStr kInt kN kG kIf kfld kld kldN kst knew kmap kbld kbldS kext kcnv klenStr klen kcap kprt kprtN kbool kint kstr keq kun ksl kix kiv kta kmk kmm ksem ksemU kextf kcallV kcallM kcall kL
theorem Out.back {c : WC} {w0 : World} {fx fx' : Nat → Prop} {w w8 w' : World} {S : SM} {t : Nat} {B : BdM} {res : Option (List (Nat × List Part) × Nat)} (h : Out c w0 fx' w8 S t B res w') (hs : ∀ k, fx k → fx' k) (m : Same w w8) (h1 : ∀ k, c.mine k → fx k) : Out c w0 fx w S t B res w' := by
 obtain ⟨S', B', hW, hg, hm, hv, hn⟩ := h
 exact ⟨S', B', hW.less hs h1, hg, (Mod.of_same m).trans (hm.mono fun k _ hk => ⟨hk.1, fun hx => hk.2 (hs k hx)⟩), hv, hn⟩
theorem WdAt.ext {c : WC} {w0 : World} {fx : Nat → Prop} {w w' : World} {S : SM} {t : Nat} {B : BdM} (h : WdAt c w0 fx w S t B) (m : Same w w') : WdAt c w0 (fun k => fx k ∨ (w.heap.size ≤ k ∧ k < w'.heap.size)) w' S t B :=
 h.other m fun k hk => hk.elim
theorem Out.then {c : WC} {w0 : World} {fx fx1 : Nat → Prop} {w w1 w2 w' : World} {S : SM} {t : Nat} {B : BdM} {res : Option (List (Nat × List Part) × Nat)} (h : WdAt c w0 fx w S t B) (hO : Out c w0 fx1 w1 S t B res w2) (hs : ∀ k, fx k → fx1 k) (m : Same w w1) (m2 : Mod (fun k => w.heap.size ≤ k ∧ fx1 k) w2 w') : Out c w0 fx w S t B res w' := by
 obtain ⟨S', B', hW, hg, hm, hv, hn⟩ := hO
 have hz := h.A.same0.size
 have hlt := fun k hk => (h.A.lt (k := k) hk).2
 refine ⟨S', B', (hW.other m2 fun k hk => ⟨hk.2, fun e => ?_⟩).less (fun k hk => .inl (hs k hk)) h.fm, hg, ?_, hv, hn⟩
 ·have := hlt _ (h.fm k e); omega
 ·exact ((Mod.of_same m).trans (hm.mono fun k _ hk => ⟨hk.1, fun hx => hk.2 (hs k hx)⟩)).trans' (m2.mono fun k _ e => .inr e.1)
theorem wFrame {c : WC} {w : World} (h : blk w c.bw = some (.cells c.cells 106)) : Meets Tryz.prog 140 #[.pointer (some ⟨c.bw, 0, none⟩)] w fun v w' => v = .int .i64 c.frame ∧ w' = w := by
 refine f140_ok ?_
 unfold f140
 rw [keq_ptr_nil ptWor]
 refine kB_at ?_
 refine kIf_F rfl ?_
 unfold f140_0
 refine kN_at ?_
 refine kfld_of ?_
 refine kld_of (v := .int .i64 c.frame) h rfl ?_
 exact ⟨rfl, rfl⟩
end
section
structure OC where
 bo : Nat
 ca : Option Addr
 cc : Nat
 rv : Value
 L : List Comp
 most : Nat
def OC.cells (o : OC) (sv : Value) (gv dr : Nat) : Array Value := #[.slice o.ca o.L.length o.cc, o.rv, natV o.most, sv, natV gv, natV dr]
def OrdM.ok (x : OrdM) : Prop := I64 x.kind ∧ I64 x.id ∧ x.mask < 4294967296 ∧ I64 x.comp
structure OAt (o : OC) (U : Nat → Prop) (w : World) (l : List OrdM) (gv dr : Nat) : Prop where
 ex : ∃ sv, blk w o.bo = some (.cells (o.cells sv gv dr) 140) ∧ Own w sv 4 (l.flatMap OrdM.cells) ∧ ∀ k, vblk sv k → U k ∧ k ≠ o.bo ∧ ∀ f, o.ca ≠ some ⟨k, f, none⟩
 comps : SlIs w o.ca o.L.length 7 (o.L.flatMap Comp.cells)
 own : U o.bo
 ca : ∀ k f, o.ca = some ⟨k, f, none⟩ → U k ∧ k ≠ o.bo
 good : GoodSc o.L
 rvc : o.rv.cells = #[o.rv]
 fit : ∀ x ∈ l, x.fit o.L.length ∧ x.ok
theorem OAt.mod {o : OC} {U fp : Nat → Prop} {w w' : World} {l : List OrdM} {gv dr : Nat} (h : OAt o U w l gv dr) (m : Mod fp w w') (hf : ∀ k, U k → ¬ fp k) : OAt o U w' l gv dr := by
 obtain ⟨⟨sv, h1, h2, h3⟩, h4, h5, h6, h7, h8, h9⟩ := h
 exact ⟨⟨sv, m.get h1 (hf _ h5), h2.mod m (fun k hk => hf k (h3 k hk).1), h3⟩, h4.mod m (fun k f e => hf k (h6 k f e).1), h5, h6, h7, h8, h9⟩
theorem OAt.same {o : OC} {U : Nat → Prop} {w w' : World} {l : List OrdM} {gv dr : Nat} (h : OAt o U w l gv dr) (m : Same w w') : OAt o U w' l gv dr := h.mod m fun _ _ h => h
theorem sl_lt {w : World} {a : Option Addr} {n sz : Nat} {vs : List Value} (h : SlIs w a n sz vs) (hn : 0 < n) (hs : 0 < sz) : ∀ k f, a = some ⟨k, f, none⟩ → k < w.heap.size := by
 intro k f e
 obtain ⟨b, o, c, t, z, e2, hb, _⟩ := h.at hn hs
 rw [e] at e2
 cases e2
 exact lt_of_blk hb
theorem OAt.cut {o : OC} {U : Nat → Prop} {w : World} {l : List OrdM} {gv dr : Nat} (h : OAt o U w l gv dr) (h0 : 0 < o.L.length) : OAt o (fun k => U k ∧ k < w.heap.size) w l gv dr := by
 obtain ⟨⟨sv, h1, h2, h3⟩, h4, h5, h6, h7, h8, h9⟩ := h
 exact ⟨⟨sv, h1, h2, fun k hk => ⟨⟨(h3 k hk).1, h2.vblk_lt hk⟩, (h3 k hk).2⟩⟩, h4, ⟨h5, lt_of_blk h1⟩, fun k f e => ⟨⟨(h6 k f e).1, sl_lt h4 h0 (by omega) k f e⟩, (h6 k f e).2⟩, h7, h8, h9⟩
structure Pair (c : WC) (w0 : World) (o : OC) (X : Nat → Prop) (w : World) (S : SM) (t : Nat) (B : BdM) (l : List OrdM) (gv dr : Nat) : Prop where
 ex : ∃ fx U, WdAt c w0 fx w S t B ∧ OAt o U w l gv dr ∧ (∀ k, U k → fx k ∧ ¬ X k ∧ ¬ c.mine k) ∧ ∀ k, X k → fx k
 pos : 0 < o.L.length
theorem Pair.order {c : WC} {w0 : World} {o : OC} {X fx U : Nat → Prop} {w w' : World} {S : SM} {t : Nat} {B : BdM} {l' : List OrdM} {gv' dr' : Nat} (h0 : 0 < o.L.length) (hW : WdAt c w0 fx w S t B) (hU : ∀ k, U k → fx k ∧ ¬ X k ∧ ¬ c.mine k) (hX : ∀ k, X k → fx k)
  (hO : OAt o (fun k => U k ∨ w.heap.size ≤ k) w' l' gv' dr') (m : Mod U w w') : Pair c w0 o X w' S t B l' gv' dr' ∧ Mod (fun k => w0.heap.size ≤ k ∧ ¬ X k) w w' := by
 refine ⟨⟨⟨_, _, hW.other m (fun k hk => ⟨(hU k hk).1, (hU k hk).2.2⟩), hO.cut h0, fun k hk => ?_, fun k hk => .inl (hX k hk)⟩, h0⟩, m.mono fun k _ hk => ⟨(hW.A.lt (hU k hk).1).1, (hU k hk).2.1⟩⟩
 obtain ⟨hk, hlt⟩ := hk
 rcases hk with hk | hk
 ·exact ⟨.inl (hU k hk).1, (hU k hk).2⟩
 ·refine ⟨.inr ⟨hk, hlt⟩, fun hx => ?_, fun e => ?_⟩
  ·have := (hW.A.lt (hX k hx)).2; omega
  ·have := (hW.A.lt (hW.fm k e)).2; omega
theorem Pair.act {c : WC} {w0 : World} {o : OC} {X fx U : Nat → Prop} {w w' : World} {S' : SM} {t' : Nat} {B' : BdM} {l : List OrdM} {gv dr : Nat} (h0 : 0 < o.L.length) (hO : OAt o U w l gv dr) (hU : ∀ k, U k → fx k ∧ ¬ X k ∧ ¬ c.mine k) (hX : ∀ k, X k → fx k)
  (hW' : WdAt c w0 fx w' S' t' B') (m : Mod (fun k => w0.heap.size ≤ k ∧ ¬ fx k) w w') : Pair c w0 o X w' S' t' B' l gv dr ∧ Mod (fun k => w0.heap.size ≤ k ∧ ¬ X k) w w' :=
 ⟨⟨⟨fx, U, hW', hO.mod m (fun k hk hn => hn.2 (hU k hk).1), hU, hX⟩, h0⟩, m.mono fun k _ hk => ⟨hk.1, fun hx => hk.2 (hX k hx)⟩⟩
theorem Pair.grow {c : WC} {w0 : World} {o : OC} {X : Nat → Prop} {w w' : World} {S : SM} {t : Nat} {B : BdM} {l : List OrdM} {gv dr : Nat} (h : Pair c w0 o X w S t B l gv dr) {fp : Nat → Prop} (m : Mod fp w w') (hp : ∀ k, fp k → X k ∧ ¬ c.mine k) : Pair c w0 o (fun k => X k ∨ (w.heap.size ≤ k ∧ k < w'.heap.size)) w' S t B l gv dr := by
 obtain ⟨⟨fx, U, hW, hO, hU, hX⟩, h0⟩ := h
 refine ⟨⟨_, U, hW.other m (fun k hk => ⟨hX k (hp k hk).1, (hp k hk).2⟩), hO.mod m (fun k hk hf => (hU k hk).2.1 (hp k hf).1), fun k hk => ⟨.inl (hU k hk).1, fun hx => ?_, (hU k hk).2.2⟩, fun k hk => ?_⟩, h0⟩
 ·rcases hx with hx | hx
  ·exact (hU k hk).2.1 hx
  ·have := (hW.A.lt (hU k hk).1).2; omega
 ·rcases hk with hk | hk
  ·exact .inl (hX k hk)
  ·exact .inr hk
theorem Pair.loc {c : WC} {w0 : World} {o : OC} {X : Nat → Prop} {w w' : World} {S : SM} {t : Nat} {B : BdM} {l : List OrdM} {gv dr : Nat} (h : Pair c w0 o X w S t B l gv dr) (m : Same w w') : Pair c w0 o X w' S t B l gv dr := by
 obtain ⟨⟨fx, U, hW, hO, hU, hX⟩, h0⟩ := h
 exact ⟨⟨fx, U, hW.loc m, hO.same m, hU, hX⟩, h0⟩
theorem Pair.less {c : WC} {w0 : World} {o : OC} {X X' : Nat → Prop} {w : World} {S : SM} {t : Nat} {B : BdM} {l : List OrdM} {gv dr : Nat} (h : Pair c w0 o X w S t B l gv dr) (hs : ∀ k, X' k → X k) : Pair c w0 o X' w S t B l gv dr := by
 obtain ⟨⟨fx, U, hW, hO, hU, hX⟩, h0⟩ := h
 exact ⟨⟨fx, U, hW, hO, fun k hk => ⟨(hU k hk).1, fun hx => (hU k hk).2.1 (hs k hx), (hU k hk).2.2⟩, fun k hk => hX k (hs k hk)⟩, h0⟩
theorem Pair.lt {c : WC} {w0 : World} {o : OC} {X : Nat → Prop} {w : World} {S : SM} {t : Nat} {B : BdM} {l : List OrdM} {gv dr : Nat} (h : Pair c w0 o X w S t B l gv dr) {k : Nat} (hk : X k) : w0.heap.size ≤ k ∧ k < w.heap.size := by
 obtain ⟨⟨fx, U, hW, hO, hU, hX⟩, h0⟩ := h
 exact hW.A.lt (hX k hk)
theorem Pair.same0 {c : WC} {w0 : World} {o : OC} {X : Nat → Prop} {w : World} {S : SM} {t : Nat} {B : BdM} {l : List OrdM} {gv dr : Nat} (h : Pair c w0 o X w S t B l gv dr) : Same w0 w := by
 obtain ⟨⟨fx, U, hW, hO, hU, hX⟩, h0⟩ := h
 exact hW.A.same0
theorem WdAt.base {c : WC} {w00 w0 : World} {fx : Nat → Prop} {w : World} {S : SM} {t : Nat} {B : BdM} (h : WdAt c w0 fx w S t B) (m : Same w00 w0) : WdAt c w00 (fun k => fx k ∨ (w00.heap.size ≤ k ∧ k < w0.heap.size)) w S t B := by
 have hz := m.size
 obtain ⟨o, p, U, C, hb, hU, hf⟩ := h.A
 have hzw := C.same.size
 refine ⟨h.here, fun k hk => .inl (h.fm k hk), h.comps, h.gh, h.go, h.rvc, h.good, h.rl, ⟨o, p, U, ⟨C.sp, C.gs, fun k hk => C.lo k (by omega), C.hi, m.trans C.same⟩, hb, fun k hk => ⟨by have := (hU k hk).1; omega, (hU k hk).2.1, fun hx => ?_⟩, fun k hk => ?_⟩, h.link, h.cs, h.gi, h.ap⟩
 ·rcases hx with hx | hx
  ·exact (hU k hk).2.2 hx
  ·have := (hU k hk).1; omega
 ·rcases hk with hk | hk
  ·exact ⟨by have := (hf k hk).1; omega, (hf k hk).2⟩
  ·exact ⟨hk.1, by omega, C.lo k hk.2⟩
theorem WdAt.le {c : WC} {w0 : World} {fx : Nat → Prop} {w : World} {S : SM} {t : Nat} {B : BdM} (h : WdAt c w0 fx w S t B) : B.l.length ≤ 64 := h.link.le h.gs.g64
def newB (w w' : World) (X : Nat → Prop) : Nat → Prop := fun k => X k ∨ (w.heap.size ≤ k ∧ k < w'.heap.size)
end
section
abbrev ViewT : Type := List (Nat × List Part)
def okV (V : ViewT) : Prop := ∀ y ∈ V, ∀ q ∈ y.2, q.ok
end
section
attribute [local irreducible] kO kB kStr kInt kN kG kIf kfld kld kldN kst knew kmap kbld kbldS kext kcnv klenStr klen kcap kprt kprtN kbool kint kstr keq kun ksl kix kiv kta kmk kmm ksem ksemU kextf kcallV kcallM kcall kL
instance (n : Nat) (x : OrdM) : Decidable (x.fit n) := by unfold OrdM.fit; infer_instance
def OrdM.val (x : OrdM) : Value := .agg x.cells.toArray
theorem ptOrd : isPtrT Tryz.prog 36 = true := by kernel_rfl
theorem apOrd : appT Tryz.prog 83 4 32 = true := by kernel_rfl
theorem slOrd_is : ∃ e, Tryz.prog.underlying 83 = some (.slice e) := slT_of (by kernel_rfl)
theorem oWrong {Sa : Nat → Addr} {k lo : Nat} {x : Value} {w : World} (h : ErrX Sa k lo x w) (hlo : lo ≤ w.heap.size) : Meets Tryz.prog 75 #[x] w fun v w' => ErrX Sa k lo v w' ∧ Same w w' := by
 refine f75_ok ?_
 unfold f75
 refine kcall_of (atX_spec _ h hlo) ?_
 rintro v w' ⟨h1, h2⟩
 exact ⟨h1, h2⟩
theorem oIs_spec {o : OC} {w : World} {sv : Value} {gv dr : Nat} (h : blk w o.bo = some (.cells (o.cells sv gv dr) 140)) (hn : o.L.length ≤ 32) (x : OrdM) (hx : x.ok) :
  Meets Tryz.prog 191 #[.pointer (some ⟨o.bo, 0, none⟩), x.val] w fun v w' => v = .bool (decide (x.fit o.L.length)) ∧ Same w w' := by
 obtain ⟨h1, h2', h3, h4⟩ := hx
 have hfit : x.fit o.L.length ↔ (x.kind = 1 ∧ x.mask < 2 ^ o.L.length) ∨ x.kind = 2 ∨ ((x.kind = 3 ∨ x.kind = 4) ∧ 0 ≤ x.comp ∧ x.comp < o.L.length) := Iff.rfl
 unfold OrdM.val
 refine f191_ok ?_
 unfold f191
 refine knew_of fun w2 h2 hs2 hb2 => ?_
 have hb2 : blk w2 w.heap.size = some (.cells x.cells.toArray 137) := hb2
 have hh := h2.get h (fun h => h)
 refine kN_at ?_
 refine kfld_of ?_
 refine kfld_of ?_
 refine kld_of (v := .slice o.ca o.L.length o.cc) hh rfl ?_
 refine klen_at ?_
 refine kfld_of ?_
 refine kld_of (v := .int .i64 x.kind) hb2 rfl ?_
 refine eql_at ?_
 refine kB_at ?_
 have rest : ∀ b : Bool, b = decide (x.kind = 3 ∨ x.kind = 4) → x.kind ≠ 1 → x.kind ≠ 2 → f191_0 (.pointer (some ⟨w.heap.size, 0, none⟩)) (.int .i64 o.L.length) (.bool b) (fun v w' => v = .bool (decide (x.fit o.L.length)) ∧ Same w w') w2 := by
  intro b hb n1 n2
  unfold f191_0
  refine kB_at ?_
  refine kIf_of (fun e => ?_) (fun e => ?_)
  ·have h34 : x.kind = 3 ∨ x.kind = 4 := of_decide_eq_true (hb.symm.trans e)
   refine kfld_of ?_
   refine kld_of (v := .int .i64 x.comp) hb2 rfl ?_
   refine geq_at ?_
   refine kB_at ?_
   refine kIf_dec (fun hc => ?_) (fun hc => ?_)
   ·refine kfld_of ?_
    refine kld_of (v := .int .i64 x.comp) hb2 rfl ?_
    refine lss_at ?_
    refine ⟨?_, h2⟩
    congr 1
    rw [decide_eq_decide, hfit]
    omega
   ·refine ⟨?_, h2⟩
    congr 1
    symm
    rw [decide_eq_false_iff_not, hfit]
    omega
  ·have h34 : ¬ (x.kind = 3 ∨ x.kind = 4) := of_decide_eq_false (hb.symm.trans e)
   unfold f191_1
   refine ⟨?_, h2⟩
   congr 1
   symm
   rw [decide_eq_false_iff_not, hfit]
   omega
 refine kIf_dec (fun e1 => ?_) (fun e1 => ?_)
 ·refine kfld_of ?_
  refine kld_of (v := msk x.mask) hb2 rfl ?_
  rw [msk, kint_shr]
  refine kG_of (by omega) ?_
  rw [shr_nat x.mask o.L.length (by show o.L.length ≤ 32; omega)]
  refine eql_at ?_
  refine ⟨?_, h2⟩
  congr 1
  rw [decide_eq_decide, hfit]
  have hp : 0 < 2 ^ o.L.length := Nat.pow_pos (by omega)
  constructor
  ·intro e
   have e : x.mask / 2 ^ o.L.length = 0 := by omega
   exact .inl ⟨e1, by rcases (Nat.div_eq_zero_iff).1 e with h | h; omega; exact h⟩
  ·intro e
   have : x.mask < 2 ^ o.L.length := by
    rcases e with e | e | e
    ·exact e.2
    ·omega
    ·omega
   rw [Nat.div_eq_of_lt this]; rfl
 ·refine eql_at ?_
  refine kB_at ?_
  refine kIf_dec (fun e2 => ?_) (fun e2 => ?_)
  ·refine ⟨?_, h2⟩
   congr 1
   symm
   rw [decide_eq_true_eq, hfit]
   omega
  ·refine eql_at ?_
   refine kB_at ?_
   refine kIf_dec (fun e3 => ?_) (fun e3 => ?_)
   ·rw [decT e3]
    exact rest true (by rw [decT (Or.inl e3)]) e1 e2
   ·refine eql_at ?_
    refine rest _ ?_ e1 e2
    rw [decide_eq_decide]
    omega
theorem oAdd_bad {pr : Nat → Prop} {Sa : Nat → Addr} {o : OC} {U : Nat → Prop} {w : World} {l : List OrdM} {gv dr : Nat} (hL : LaidP pr Sa w) (h1 : pr 1) (h : OAt o U w l gv dr) (x : OrdM) (hx : x.ok) (hb : ¬ x.fit o.L.length) :
  Meets Tryz.prog 144 #[.pointer (some ⟨o.bo, 0, none⟩), x.val] w fun v w' => ErrX Sa 1 w.heap.size v w' ∧ Same w w' := by
 have hl := h.good.len
 obtain ⟨sv, hh, hO, hv⟩ := h.ex
 unfold OrdM.val
 refine f144_ok ?_
 unfold f144
 refine knew_of fun w2 h2 hs2 hb2 => ?_
 have hb2 : blk w2 w.heap.size = some (.cells x.cells.toArray 137) := hb2
 have hh2 := h2.get hh (fun h => h)
 rw [keq_ptr_nil ptOrd]
 refine kB_at ?_
 refine kIf_F rfl ?_
 refine kldN_at (cs := x.cells) hb2 rfl (by omega) ?_
 have his := oIs_spec hh2 (by omega) x hx
 rw [OrdM.val] at his
 refine kcall_of his ?_
 rintro v w10 ⟨rfl, h10⟩
 refine not_at ?_
 rw [decF hb]
 refine kB_at ?_
 refine kIf_T rfl ?_
 refine kld_err (hL.same (h2.trans h10)) h1 rfl rfl ?_
 have hz := (h2.trans h10).size
 refine kcall_of (oWrong (ErrX.sent Sa 1 w.heap.size w10) hz) ?_
 rintro v w14 ⟨hE, h14⟩
 exact ⟨hE, (h2.trans h10).trans h14⟩
theorem oAdd_full {pr : Nat → Prop} {Sa : Nat → Addr} {o : OC} {U : Nat → Prop} {w0 w : World} {l : List OrdM} {gv dr : Nat} (hL : LaidP pr Sa w0) (h6 : pr 6) (hs0 : Same w0 w) (hlo : ∀ k, U k → w0.heap.size ≤ k) (h : OAt o U w l gv dr) (x : OrdM) (hx : x.ok) (hb : x.fit o.L.length) (hf : o.most ≤ gv) (hdr : dr ≤ 1000000) :
  Meets Tryz.prog 144 #[.pointer (some ⟨o.bo, 0, none⟩), x.val] w fun v w' => ErrX Sa 6 w.heap.size v w' ∧ OAt o U w' l gv (dr + 1) ∧ Mod U w w' := by
 have hl := h.good.len
 obtain ⟨⟨sv, hh, hO, hv⟩, hcm, hown, hca, hgood, hrv, hfit⟩ := h
 have hbl := lt_of_blk hh
 unfold OrdM.val
 refine f144_ok ?_
 unfold f144
 refine knew_of fun w2 h2 hs2 hb2 => ?_
 have hb2 : blk w2 w.heap.size = some (.cells x.cells.toArray 137) := hb2
 have hh2 := h2.get hh (fun h => h)
 rw [keq_ptr_nil ptOrd]
 refine kB_at ?_
 refine kIf_F rfl ?_
 refine kldN_at (cs := x.cells) hb2 rfl (by omega) ?_
 have his := oIs_spec hh2 (by omega) x hx
 rw [OrdM.val] at his
 refine kcall_of his ?_
 rintro v w10 ⟨rfl, h10⟩
 refine not_at ?_
 rw [decT hb]
 refine kB_at ?_
 refine kIf_F rfl ?_
 have md : Same w10 w10.drew := (Mod.refl (fun _ => False) _).drew
 have mw : Same w w10.drew := (h2.trans h10).trans md
 have hhd := mw.get hh (fun h => h)
 have hz := mw.size
 generalize w10.drew = wd at *
 refine kN_at ?_
 refine kfld_of ?_
 refine kld_of (v := natV gv) hhd rfl ?_
 refine kG_of rfl ?_
 refine kN_at ?_
 refine kfld_of ?_
 refine kld_of (v := natV o.most) hhd rfl ?_
 refine kG_of rfl ?_
 refine geq_at ?_
 rw [decT (by omega)]
 refine kB_at ?_
 refine kIf_T rfl ?_
 refine kN_at ?_
 refine kfld_of ?_
 refine kld_of (v := natV dr) hhd rfl ?_
 refine add_at (by omega) (by omega) ?_
 refine kN_at ?_
 refine kfld_of ?_
 refine kst1_of hhd rfl rfl (by show 5 < 6; omega) fun w24 h24 hs24 hb24 => ?_
 have hb24 : blk w24 o.bo = some (.cells (o.cells sv gv (dr + 1)) 140) := hb24
 have m24 : Mod (fun k => k = o.bo) w w24 := (Mod.of_same mw).trans h24
 have hbo := hlo _ hown
 have s024 : Same w0 w24 := hs0.trans' (m24.mono fun k _ e => .inr (by omega))
 refine kld_err (hL.same s024) h6 rfl rfl ?_
 refine kcall_of (oWrong (ErrX.sent Sa 6 w.heap.size w24) m24.size) ?_
 rintro v w27 ⟨hE, h27⟩
 have m27 : Mod (fun k => k = o.bo) w w27 := m24.trans (Mod.of_same h27)
 exact ⟨hE, ⟨⟨sv, h27.get hb24 (fun h => h), hO.mod m27 (fun k hk e => (hv k hk).2.1 e), hv⟩, hcm.mod m27 (fun k f e hk => (hca k f e).2 hk), hown, hca, hgood, hrv, hfit⟩, m27.mono fun k _ e => by rw [e]; exact hown⟩
theorem oAdd_ok {o : OC} {U : Nat → Prop} {w : World} {l : List OrdM} {gv dr : Nat} (h : OAt o U w l gv dr) (x : OrdM) (hx : x.ok) (hb : x.fit o.L.length) (hf : gv < o.most) (hmo : o.most ≤ 1000000) (hln : l.length ≤ 1000000) (h0 : 0 < o.L.length) :
  Meets Tryz.prog 144 #[.pointer (some ⟨o.bo, 0, none⟩), x.val] w fun v w' => v = .nilIface ∧ OAt o (fun k => U k ∨ w.heap.size ≤ k) w' (l ++ [x]) (gv + 1) dr ∧ Mod U w w' := by
 have hl := h.good.len
 obtain ⟨⟨sv, hh, hO, hv⟩, hcm, hown, hca, hgood, hrv, hfit⟩ := h
 have hbl := lt_of_blk hh
 have hfl := flat_len OrdM.cells 4 (fun _ => rfl) l
 unfold OrdM.val
 refine f144_ok ?_
 unfold f144
 refine knew_of fun w2 h2 hs2 hb2 => ?_
 have hb2 : blk w2 w.heap.size = some (.cells x.cells.toArray 137) := hb2
 have hh2 := h2.get hh (fun h => h)
 rw [keq_ptr_nil ptOrd]
 refine kB_at ?_
 refine kIf_F rfl ?_
 refine kldN_at (cs := x.cells) hb2 rfl (by omega) ?_
 have his := oIs_spec hh2 (by omega) x hx
 rw [OrdM.val] at his
 refine kcall_of his ?_
 rintro v w10 ⟨rfl, h10⟩
 refine not_at ?_
 rw [decT hb]
 refine kB_at ?_
 refine kIf_F rfl ?_
 have md : Same w10 w10.drew := (Mod.refl (fun _ => False) _).drew
 have mw : Same w w10.drew := (h2.trans h10).trans md
 have hhd := mw.get hh (fun h => h)
 have hbd := (h10.trans md).get hb2 (fun h => h)
 have hz := mw.size
 generalize w10.drew = wd at *
 refine kN_at ?_
 refine kfld_of ?_
 refine kld_of (v := natV gv) hhd rfl ?_
 refine kG_of rfl ?_
 refine kN_at ?_
 refine kfld_of ?_
 refine kld_of (v := natV o.most) hhd rfl ?_
 refine kG_of rfl ?_
 refine geq_at ?_
 rw [decF (by omega)]
 refine kB_at ?_
 refine kIf_F rfl ?_
 unfold f144_0
 refine kN_at ?_
 refine kfld_of ?_
 refine kld_of (v := natV gv) hhd rfl ?_
 refine add_at (by omega) (by omega) ?_
 refine kN_at ?_
 refine kfld_of ?_
 refine kst1_of hhd rfl rfl (by show 4 < 6; omega) fun w32 h32 hs32 hb32 => ?_
 have hb32 : blk w32 o.bo = some (.cells (o.cells sv (gv + 1) dr) 140) := hb32
 have m32 : Mod (fun k => k = o.bo) w w32 := (Mod.of_same mw).trans h32
 have md2 : Same w32 w32.drew := (Mod.refl (fun _ => False) _).drew
 have m32d := m32.trans (Mod.of_same md2)
 have hhe := md2.get hb32 (fun h => h)
 have hbe := md2.get (h32.get hbd (by omega)) (fun h => h)
 have hOd : Own w32.drew sv 4 (l.flatMap OrdM.cells) := hO.mod m32d (fun k hk e => (hv k hk).2.1 e)
 have hzd := m32d.size
 generalize w32.drew = we at *
 refine kN_at ?_
 refine kfld_of ?_
 refine kld_of (v := sv) hhe rfl ?_
 refine kG_of rfl ?_
 refine kldN_at (cs := x.cells) hbe rfl (by omega) ?_
 refine kG_of rfl ?_
 refine kbldS_of (cs := x.cells) rfl fun w37 h37 hs37 hb37 => ?_
 refine kG_of (kld_of (v := sv) (h37.get hhe (fun h => h)) rfl ⟨rfl, rfl⟩) ?_
 refine ksem_append apOrd (by omega) (hOd.same h37) (Src.ofSlIs (hk := slOrd_is.choose_spec) 1 (SlIs.blk hb37 rfl) rfl) (by simp [OrdM.cells, hfl]; omega) (by simp [OrdM.cells, hfl]; omega) ?_
 intro v' w39 hO39 m39 hf39
 have hh39 := m39.get (h37.get hhe (fun h => h)) (fun hk => (hv _ hk).2.1 rfl)
 refine kN_at ?_
 refine kfld_of ?_
 obtain ⟨a', n', c', rfl, _, _⟩ := hO39.is
 refine kst1_of hh39 rfl rfl (by show 3 < 6; omega) fun w41 h41 hs41 hb41 => ?_
 have hb41 : blk w41 o.bo = some (.cells (o.cells (.slice a' n' c') (gv + 1) dr) 140) := hb41
 have m37 : Mod (fun k => k = o.bo) w w37 := m32d.trans (Mod.of_same h37)
 have hz37 := m37.size
 have hvn : ∀ k, vblk (.slice a' n' c') k → (vblk sv k ∨ w.heap.size ≤ k) := fun k hk => by
  rcases hf39 k hk with h | h
  ·exact .inl h
  ·exact .inr (by omega)
 have mall : Mod U w w41 := ((m37.mono fun k _ e => by rw [e]; exact hown).trans (m39.mono fun k _ hk => (hv k hk).1)).trans (h41.mono fun k _ e => by rw [e]; exact hown)
 have hcb : ∀ k f, o.ca = some ⟨k, f, none⟩ → ¬ (k = o.bo) ∧ ¬ vblk sv k := fun k f e => ⟨(hca k f e).2, fun hk => (hv k hk).2.2 f e⟩
 refine ⟨rfl, ⟨⟨.slice a' n' c', hb41, ?_, fun k hk => ?_⟩, ?_, .inl hown, fun k f e => ⟨.inl (hca k f e).1, (hca k f e).2⟩, hgood, hrv, fun y hy => ?_⟩, mall⟩
 ·rw [List.flatMap_append]
  have : Own w39 (.slice a' n' c') 4 (l.flatMap OrdM.cells ++ [x].flatMap OrdM.cells) := by simpa using hO39
  refine this.mod h41 fun k hk e => ?_
  rcases hvn k hk with h | h
  ·exact (hv k h).2.1 e
  ·omega
 ·rcases hvn k hk with h | h
  ·exact ⟨.inl (hv k h).1, (hv k h).2⟩
  ·refine ⟨.inr h, by omega, fun f e => ?_⟩
   have := sl_lt hcm h0 (by omega) k f e
   omega
 ·exact ((hcm.mod m37 (fun k f e => (hcb k f e).1)).mod m39 (fun k f e => (hcb k f e).2)).mod h41 (fun k f e => (hcb k f e).1)
 ·rcases List.mem_append.1 hy with hy | hy
  ·exact hfit y hy
  ·have : y = x := by simpa using hy
   subst this; exact ⟨hb, hx⟩
end
section
attribute [local irreducible] kO kB kStr kInt kN kG kIf kfld kld kldN kst knew kmap kbld kbldS kext kcnv klenStr klen kcap kprt kprtN kbool kint kstr keq kun ksl kix kiv kta kmk kmm ksem ksemU kextf kcallV kcallM kcall kL
end
section
attribute [local irreducible] kO kB kStr kInt kN kG kIf kfld kld kldN kst knew kmap kbld kbldS kext kcnv klenStr klen kcap kprt kprtN kbool kint kstr keq kun ksl kix kiv kta kmk kmm ksem ksemU kextf kcallV kcallM kcall kL
end
end Go.Proofs.YtmdcoaljjnbhlaaGreatDoor
namespace Go.Ev
open Go
section
section
variable {P : Program} {kt : TypeId}
theorem text_beq (a b : ByteArray) : (a == b) = decide (a = b) := by
 cases a with | mk a =>
 cases b with | mk b =>
 show (a == b) = _
 rw [Bool.eq_iff_iff, decide_eq_true_eq, ByteArray.mk.injEq]
 exact beq_iff_eq
theorem findNow_entsS (n : ByteArray) : ∀ (i j : Nat) (kv : List (ByteArray × Value)), Instr.findNow .string (.string n) (entsG Value.string i kv) j = some ((lkG n kv).map fun x => (j + x.1, x.2))
 | _, _, [] => by simp [entsG, Instr.findNow, lkG]
 | i, j, (m, v) :: r => by
  simp only [entsG, Instr.findNow, Instr.sameNow, lkG]
  by_cases h : n = m
  ·subst h
   rw [text_beq, decide_eq_true rfl]; simp
  ·rw [text_beq, decide_eq_false h]
   simp only [h, if_false]
   rw [findNow_entsS n (i + 1) (j + 1) r]
   cases lkG n r with
   | none => simp
   | some x => simp; omega
theorem KeyT.string (hk : P.underlying kt = some .string) : KeyT P kt Value.string where
 find n kv w := by
  simp only [Instr.findKey, Sem.run_bind, run_underlying hk, Result.andThen_ok, findNow_entsS, Sem.run_pure]
  cases lkG n kv <;> simp
 check e a w := by
  rw [Instr.checkKey]
  simp [run_underlying hk]
 stays a := by simp [Instr.sameBits, text_beq]
end
end
end Go.Ev
namespace Go.Proofs.YtmdcoaljjnbhlaaGreatDoor
open Go Go.Ev
section
attribute [local irreducible] kO kB kStr kInt kN kG kIf kfld kld kldN kst knew kmap kbld kbldS kext kcnv klenStr klen kcap kprt kprtN kbool kint kstr keq kun ksl kix kiv kta kmk kmm ksem ksemU kextf kcallV kcallM kcall kL
theorem mapGoo : Tryz.prog.underlying 200 = some (.map 9 3) := by kernel_rfl
theorem strKey : Tryz.prog.underlying 9 = some .string := by kernel_rfl
theorem gNew {w : World} {a : Option Addr} {L : List Comp} {cp : Nat} {ra : Option Addr} {R : List ResM} {rc : Nat} (hs : SlIs w a L.length 7 (L.flatMap Comp.cells)) (hG : GoodSc L) (hr : SlIs w ra R.length 2 (R.flatMap ResM.cells)) (hGR : GoodR L R) :
  Meets Tryz.prog 69 #[scV a L.length cp (.slice ra R.length rc)] w fun v w' => (∃ g gm gs, v = .tuple #[.pointer (some ⟨g, 0, none⟩), .nilIface] ∧ w.heap.size ≤ g ∧ blk w' g = some (.cells #[gm, gs, .int .i64 0] 202) ∧ Own w' gs 1 ((R.map (·.value)).map (Value.int .i64)) ∧ ∀ k, vblk gs k → w.heap.size ≤ k ∧ k ≠ g) ∧ Same w w' := by
 have hlR := hGR.len
 rw [scV]
 refine f69_ok ?_
 unfold f69
 refine knew_of fun w2 h2 hs2 hb2 => ?_
 have hb2 : blk w2 w.heap.size = some (.cells #[.slice a L.length cp, .slice ra R.length rc] 78) := hb2
 refine kldN_at (cs := [.slice a L.length cp, .slice ra R.length rc]) hb2 rfl (by omega) ?_
 have hck := checkR_spec (ra := ra) (rc := rc) (cp := cp) (hs.same h2) hG (hr.same h2) hGR
 rw [scV] at hck
 refine kcall_of hck ?_
 rintro v w5 ⟨rfl, h5⟩
 rw [keq_nil_nil' ifErr]
 refine kB_at ?_
 refine kIf_F rfl ?_
 unfold f69_0
 refine kmap_of fun w11 h11 hs11 hm11 => ?_
 refine kbld_of (cs := [.map (some w5.heap.size), .slice none 0 0, .int .i64 0]) rfl ?_
 refine knew_of fun w14 h14 hs14 hb14 => ?_
 have hb14 : blk w14 w11.heap.size = some (.cells #[.map (some w5.heap.size), .slice none 0 0, .int .i64 0] 202) := hb14
 have m14 := (h2.trans h5).trans (h11.trans h14)
 have hz2 := h2.size
 have hz5 := h5.size
 have hmp : MapG Value.string w14 w5.heap.size [] := (show MapG Value.string w11 w5.heap.size [] from hm11 .i64).same h14
 refine kfld_of ?_
 refine kld_of (v := .slice ra R.length rc) ((h5.trans (h11.trans h14)).get hb2 (fun h => h)) rfl ?_
 refine klen_at ?_
 refine kL1_of R.length (fun j y wr => y = .int .i64 j ∧ ∃ gs kv, blk wr w11.heap.size = some (.cells #[.map (some w5.heap.size), gs, .int .i64 0] 202) ∧ MapG Value.string wr w5.heap.size kv ∧ Own wr gs 1 (((R.take j).map (·.value)).map (Value.int .i64)) ∧ (∀ k, vblk gs k → w14.heap.size ≤ k) ∧ Same w wr ∧ w14.heap.size ≤ wr.heap.size) ⟨lI1_0 ⟨rfl, _, _, hb14, hmp, Own.nil _ _, (fun k hk => by obtain ⟨_, _, _, e⟩ := hk; cases e), m14, Nat.le_refl _⟩, fun y wr hx => ?_⟩
 obtain ⟨j, hj, ⟨rfl, gs, kv, hbg, hmr, hO, hgk, hwr, hzr⟩, hJ⟩ := lI1_step hx
 unfold f69_1
 refine lss_at ?_
 refine kB_at ?_
 refine kIf_dec (fun hlt => ?_) (fun hge => ?_)
 ·have hlt : j < R.length := by omega
  have htk : ((R.take (j + 1)).map (·.value)).map (Value.int .i64) = ((R.take j).map (·.value)).map (Value.int .i64) ++ [.int .i64 (R[j]).value] := by
   rw [List.take_succ_eq_append_getElem hlt, List.map_append, List.map_append]; rfl
  have hlo : (((R.take j).map (·.value)).map (Value.int .i64)).length = j := by
   rw [List.length_map, List.length_map, List.length_take]; omega
  unfold f69_2
  refine kixldN_of (F := ResM.cells) (sz := 2) (fun _ => rfl) (by omega) (hr.same hwr) hlt rfl ?_
  refine knew_of fun w23 h23 hs23 hb23 => ?_
  refine kst_of (vs := (R[j]).cells) hb23 rfl rfl rfl (by simp) (by simp [ResM.cells]) fun w24 h24 hs24 hb24 => ?_
  have hb24 : blk w24 wr.heap.size = some (.cells (R[j]).cells.toArray 150) := hb24
  have m24 : Same wr w24 := h23.trans' (h24.mono fun k _ e => .inr (by omega))
  have md : Same w24 w24.drew := (Mod.refl (fun _ => False) _).drew
  have mrd := m24.trans md
  have hb24 := md.get hb24 (fun h => h)
  have hgd := mrd.get hbg (fun h => h)
  have hmd := hmr.same mrd
  have hOd := hO.same mrd
  have hzd := mrd.size
  generalize w24.drew = wd at *
  refine kN_at ?_
  refine kfld_of ?_
  refine kld_of (v := .map (some w5.heap.size)) hgd rfl ?_
  refine kG_of rfl ?_
  refine kfld_of ?_
  refine kld_of (v := .string (R[j]).name) hb24 rfl ?_
  refine kG_of rfl ?_
  refine kmapUpG mapGoo (KeyT.string strKey) hmd fun w30 h30 hs30 hm30 => ?_
  have md2 : Same w30 w30.drew := (Mod.refl (fun _ => False) _).drew
  have hr30 := md2.get (h30.get hb24 (by omega)) (fun h => h)
  have hg30 := md2.get (h30.get hgd (by omega)) (fun h => h)
  have hO30 := (hOd.mod h30 fun k hk e => by have := hgk k hk; omega).same md2
  have hm30 := hm30.same md2
  have n30 : Mod (fun k => k = w5.heap.size) wd w30.drew := h30.trans (Mod.of_same md2)
  have hz30 := n30.size
  generalize w30.drew = we at *
  refine kN_at ?_
  refine kfld_of ?_
  refine kld_of (v := gs) hg30 rfl ?_
  refine kG_of rfl ?_
  refine kfld_of ?_
  refine kld_of (v := .int .i64 (R[j]).value) hr30 rfl ?_
  refine kG_of rfl ?_
  refine kbldS_of (cs := [.int .i64 (R[j]).value]) rfl fun w36 h36 hs36 hb36 => ?_
  refine kG_of (kld_of (v := gs) (h36.get hg30 (fun h => h)) rfl ⟨rfl, rfl⟩) ?_
  refine ksem_append apNums (by omega) (hO30.same h36) (Src.ofSlIs (hk := slNums_is.choose_spec) 1 (SlIs.blk hb36 rfl) rfl) (by rw [hlo]; simp; omega) (by rw [hlo]; simp; omega) ?_
  intro v' w38 hO38 m38 hf38
  have hgk2 : ∀ k, vblk v' k → w14.heap.size ≤ k := fun k hk => by
   rcases hf38 k hk with h | h
   ·exact hgk k h
   ·omega
  have hg38 := m38.get (h36.get hg30 (fun h => h)) (fun hk => by have := hgk _ hk; omega)
  obtain ⟨av, nv, cv, rfl, _, _⟩ := hO38.is
  refine kN_at ?_
  refine kfld_of ?_
  refine kst1_of hg38 rfl rfl (by show 1 < 3; omega) fun w40 h40 hs40 hb40 => ?_
  have hb40 : blk w40 w11.heap.size = some (.cells #[.map (some w5.heap.size), .slice av nv cv, .int .i64 0] 202) := hb40
  unfold f69_3
  refine add_at (by omega) (by omega) ?_
  rw [cast_succ]
  have hz38 := m38.size
  have hz36 := h36.size
  refine hJ _ _ hlt ⟨rfl, .slice av nv cv, _, hb40, ((hm30.same h36).mod m38 (fun hk => by have := hgk _ hk; omega)).mod h40 (by omega), ?_, hgk2, ?_, by omega⟩
  ·rw [htk]
   exact (show Own w38 (.slice av nv cv) 1 (((R.take j).map (·.value)).map (Value.int .i64) ++ [.int .i64 (R[j]).value]) from hO38).mod h40 fun k hk e => by have := hgk2 k hk; omega
  ·exact (((hwr.trans mrd).trans' (n30.mono fun k _ e => .inr (by omega))).trans h36).trans' ((m38.mono fun k _ e => .inr (by have := hgk k e; omega)).trans (h40.mono fun k _ e => .inr (by omega)))
 ·have : j = R.length := by omega
  subst this
  unfold f69_4
  rw [List.take_length] at hO
  exact ⟨⟨_, _, gs, rfl, by omega, hbg, hO, fun k hk => by have := hgk k hk; have := lt_of_blk hb14; omega⟩, hwr⟩
theorem oNewR {w : World} {a : Option Addr} {L : List Comp} {cp : Nat} {ra : Option Addr} {R : List ResM} {rc : Nat} (hs : SlIs w a L.length 7 (L.flatMap Comp.cells)) (hG : GoodSc L) (hr : SlIs w ra R.length 2 (R.flatMap ResM.cells)) (hGR : GoodR L R) (h0 : 0 < L.length) {most : Nat} (hm : most ≤ 64) :
  Meets Tryz.prog 34 #[scV a L.length cp (.slice ra R.length rc), .int .i64 most] w fun v w' => ∃ o : OC, v = .tuple #[.pointer (some ⟨o.bo, 0, none⟩), .nilIface] ∧ o.L = L ∧ o.most = most ∧ OAt o (fun k => w.heap.size ≤ k) w' [] 0 0 ∧ Same w w' := by
 have hl := hG.len
 rw [scV]
 refine f34_ok ?_
 unfold f34
 refine knew_of fun w2 h2 hs2 hb2 => ?_
 have hb2 : blk w2 w.heap.size = some (.cells #[.slice a L.length cp, .slice ra R.length rc] 78) := hb2
 refine kldN_at (cs := [.slice a L.length cp, .slice ra R.length rc]) hb2 rfl (by omega) ?_
 have hck := checkR_spec (ra := ra) (rc := rc) (cp := cp) (hs.same h2) hG (hr.same h2) hGR
 rw [scV] at hck
 refine kcall_of hck ?_
 rintro v w5 ⟨rfl, h5⟩
 rw [keq_nil_nil' ifErr]
 refine kB_at ?_
 refine kIf_F rfl ?_
 unfold f34_0
 refine lss_at ?_
 rw [decF (by omega)]
 refine kB_at ?_
 refine kIf_T rfl ?_
 refine gtr_at ?_
 rw [decF (by omega)]
 unfold f34_1
 refine kB_at ?_
 refine kIf_F rfl ?_
 unfold f34_2
 refine kfld_of ?_
 refine kld_of (v := .slice a L.length cp) (h5.get hb2 (fun h => h)) rfl ?_
 have m5 := h2.trans h5
 have hz5 := m5.size
 refine kcall_of (cloneC_spec (hs.same m5) (by omega)) ?_
 rintro v w19 ⟨hO19, h19, hf19⟩
 obtain ⟨a1, n1, c1, rfl, hs19, _⟩ := hO19.is
 have hfl := flat_len Comp.cells 7 (fun _ => rfl) L
 have hn1 : n1 = L.length := by have h1 := hs19.1; omega
 subst hn1
 refine kbld_of (cs := [.slice a1 L.length c1, .slice none 0 0]) rfl ?_
 refine knew_of fun w22 h22 hs22 hb22 => ?_
 refine kst_of (vs := [.slice a1 L.length c1, .slice none 0 0]) hb22 rfl rfl rfl (by simp) (by simp) fun w23 h23 hs23 hb23 => ?_
 have hb23 : blk w23 w19.heap.size = some (.cells #[.slice a1 L.length c1, .slice none 0 0] 78) := hb23
 have m23 : Same w19 w23 := h22.trans' (h23.mono fun k _ e => .inr (by omega))
 refine kldN_at (cs := [.slice a1 L.length c1, .slice none 0 0]) hb23 rfl (by omega) ?_
 refine kbld_of (cs := [.slice a1 L.length c1, .slice none 0 0, natV most, .slice none 0 0, natV 0, natV 0]) rfl ?_
 refine knew_of fun w27 h27 hs27 hb27 => ?_
 have hz19 := h19.size
 have hz23 := m23.size
 have hlt1 := sl_lt hs19 h0 (by omega)
 refine ⟨⟨w23.heap.size, a1, c1, .slice none 0 0, L, most⟩, rfl, rfl, rfl, ⟨⟨.slice none 0 0, hb27, Own.nil _ _, fun k hk => by obtain ⟨_, _, _, e⟩ := hk; cases e⟩, hs19.same (m23.trans h27), by show w.heap.size ≤ w23.heap.size; omega, fun k f e => ?_, hG, rfl, fun x hx => by cases hx⟩, (m5.trans h19).trans (m23.trans h27)⟩
 have e : a1 = some ⟨k, f, none⟩ := e
 have h1 := hf19 k ⟨f, L.length, c1, by rw [e]⟩
 have h2 := hlt1 k f e
 exact ⟨by omega, by show k ≠ w23.heap.size; omega⟩
theorem newS_link (L : List Comp) (most : Nat) : Link (newS L most) ⟨[], 1⟩ where
 live x hx := by cases hx
 all i g hg := by
  have : (List.replicate most ((0 : Int), false))[i]? = some (g, true) := hg
  obtain ⟨_, e⟩ := List.getElem?_eq_some_iff.1 this
  rw [List.getElem_replicate] at e; cases e
 tm := by simp [newS, newS0, layS]
 cnt := by simp [newS, newS0, layS]
theorem wNew_tail {g : Nat} {gm gs : Value} {w0 w : World} {o : Lab} {b : Nat} {p : Ptrs} {L : List Comp} {most : Nat} (hG : GoodSc L) (C : Cur w0 o w b p (newS L most) 0) {a : Option Addr} {cp : Nat} {ra : Option Addr} {rn rc : Nat} (hs : SlIs w a L.length 7 (L.flatMap Comp.cells)) {bs : Nat} (hbs : blk w bs = some (.cells #[.slice a L.length cp, .slice ra rn rc] 78))
  {a1 : Option Addr} {c1 : Nat} {a2 : Option Addr} {n2 c2 : Nat} (hs1 : SlIs w a1 L.length 7 (L.flatMap Comp.cells)) (ha1 : ∀ k f, a1 = some ⟨k, f, none⟩ → w0.heap.size ≤ k ∧ k < w.heap.size ∧ o k = none) (hag : ∀ k f, a1 = some ⟨k, f, none⟩ → k ≠ g ∧ ¬ vblk gs k) (hsg : ∀ k, vblk gs k → k ≠ g) {bc : Nat} (hbc : blk w bc = some (.cells #[.slice a1 L.length c1, .slice a2 n2 c2] 78)) (seed : Int) {Rv : List Int} (hg : blk w g = some (.cells #[gm, gs, .int .i64 0] 202)) (hglo : w0.heap.size ≤ g ∧ o g = none) (hgo : Own w gs 1 (Rv.map (Value.int .i64))) (hgs : ∀ k, vblk gs k → w0.heap.size ≤ k ∧ o k = none) {Q : Value → World → Prop}
  (hQ : ∀ (c : WC) w', c.L = L → c.frame = 0 → c.seed = seed → c.rolled = rollF (L.map (·.rb)) → c.R = Rv → WdAt c w0 c.mine w' (newS L most) 0 ⟨[], 1⟩ → Q (.tuple #[.pointer (some ⟨c.bw, 0, none⟩), .nilIface]) w') :
  f32_2 (.int .i64 seed) (.pointer (some ⟨bs, 0, none⟩)) (ptrV b) (.pointer (some ⟨g, 0, none⟩)) (.pointer (some ⟨bc, 0, none⟩)) Q w := by
 have hl := hG.len
 rw [ptrV]
 unfold f32_2
 have md : Same w w.drew := (Mod.refl (fun _ => False) _).drew
 have hbs := md.get hbs (fun h => h)
 have hbc := md.get hbc (fun h => h)
 have C := C.loc md
 have hgd := md.get hg (fun h => h)
 have hgl := lt_of_blk hgd
 have hs := hs.same md
 have hs1 := hs1.same md
 have hzd := md.size
 have hwz : w.heap.size = w.drew.heap.size := rfl
 generalize w.drew = wd at *
 refine kldN_at (cs := [.slice a1 L.length c1, .slice a2 n2 c2]) hbc rfl (by omega) ?_
 refine kG_of rfl ?_
 refine kcall_of (bdNew wd) ?_
 rintro v w35 ⟨bb, rfl, hB, h35⟩
 refine kG_of (kldN_at (cs := [.slice a1 L.length c1, .slice a2 n2 c2]) (h35.get hbc (fun h => h)) rfl (by omega) ⟨rfl, rfl⟩) ?_
 refine kldN_at (cs := [.slice a L.length cp, .slice ra rn rc]) (h35.get hbs (fun h => h)) rfl (by omega) ?_
 refine kG_of rfl ?_
 refine kG_of (kldN_at (cs := [.slice a L.length cp, .slice ra rn rc]) hbs rfl (by omega) ⟨rfl, rfl⟩) ?_
 refine kcall_of (Rollback_spec L (by omega) a cp (.slice ra rn rc) w35 (hs.same h35) rfl) ?_
 rintro v w38 ⟨rfl, h38⟩
 refine kG_of (kldN_at (cs := [.slice a1 L.length c1, .slice a2 n2 c2]) ((h35.trans h38).get hbc (fun h => h)) rfl (by omega) ⟨rfl, rfl⟩) ?_
 refine kbld_of (cs := [.slice a1 L.length c1, .slice a2 n2 c2, .pointer (some ⟨b, 0, none⟩), .pointer (some ⟨bb, 0, none⟩), .pointer (some ⟨g, 0, none⟩), msk (rollF (L.map (·.rb))), .int .i64 0, .int .i64 seed, .pointer none]) rfl ?_
 refine knew_of fun w41 h41 hs41 hb41 => ?_
 have m41 := (h35.trans h38).trans h41
 have hz35 := h35.size
 have hz38 := h38.size
 have hz0 := C.same.size
 refine hQ ⟨w38.heap.size, b, bb, a1, c1, .slice a2 n2 c2, g, gm, gs, .int .i64 0, Rv, L, rollF (L.map fun x : Comp => x.rb), 0, seed⟩ w41 rfl rfl rfl rfl rfl ⟨hb41, fun k hk => hk, hs1.same m41, m41.get hgd (fun h => h), hgo.same (md.trans m41), rfl, hG, rollF_lt _, ⟨o, p, fun k => wd.heap.size ≤ k ∧ k < w35.heap.size, C.loc m41, (hB.mono (U' := fun k => wd.heap.size ≤ k ∧ k < w35.heap.size) fun k hk hu => ⟨hu, hk⟩).same (h38.trans h41), fun k hk => ⟨by omega, C.hi k hk.1, fun hx => ?_⟩, fun k hx => ?_⟩, newS_link L most, rfl, ⟨0, rfl⟩, fun k hk => ⟨hsg k hk, by have := hgo.vblk_lt hk; show k ≠ w38.heap.size; omega, fun f e => (hag k f e).2 hk⟩, by show g ≠ w38.heap.size; omega, fun k f e => ⟨(hag k f e).1, by have := (ha1 k f e).2.1; show k ≠ w38.heap.size; omega⟩⟩
 ·have hx : k = w38.heap.size ∨ (∃ f, a1 = some ⟨k, f, none⟩) ∨ k = g ∨ vblk gs k := hx
  rcases hx with e | ⟨f, e⟩ | e | e
  ·omega
  ·have := (ha1 k f e).2.1; omega
  ·omega
  ·have := hgo.vblk_lt e; omega
 ·have hx : k = w38.heap.size ∨ (∃ f, a1 = some ⟨k, f, none⟩) ∨ k = g ∨ vblk gs k := hx
  rcases hx with e | ⟨f, e⟩ | e | e
  ·exact ⟨by omega, by omega, C.hi k (by omega)⟩
  ·obtain ⟨h1, h2, h3⟩ := ha1 k f e
   exact ⟨h1, by omega, h3⟩
  ·rw [e]; exact ⟨hglo.1, by omega, hglo.2⟩
  ·exact ⟨(hgs k e).1, by have := hgo.vblk_lt e; omega, (hgs k e).2⟩
theorem wNewR {w : World} (hD : DeAt w) {a : Option Addr} {L : List Comp} {cp : Nat} {ra : Option Addr} {R : List ResM} {rc : Nat} (hs : SlIs w a L.length 7 (L.flatMap Comp.cells)) (hG : GoodSc L) (hr : SlIs w ra R.length 2 (R.flatMap ResM.cells)) (hGR : GoodR L R) (h0 : 0 < L.length) {most : Nat} (hm : most ≤ 64) (seed : Int) :
  Meets Tryz.prog 32 #[scV a L.length cp (.slice ra R.length rc), .int .i64 most, .int .i64 seed] w fun v w' => ∃ c : WC, v = .tuple #[.pointer (some ⟨c.bw, 0, none⟩), .nilIface] ∧ c.L = L ∧ c.frame = 0 ∧ c.seed = seed ∧ c.rolled = rollF (L.map (·.rb)) ∧ c.R = R.map (·.value) ∧ WdAt c w c.mine w' (newS L most) 0 ⟨[], 1⟩ := by
 have hl := hG.len
 have hfl := flat_len Comp.cells 7 (fun _ => rfl) L
 have hsc : scV a L.length cp (.slice ra R.length rc) = .agg #[.slice a L.length cp, .slice ra R.length rc] := rfl
 rw [hsc]
 refine f32_ok ?_
 unfold f32
 refine knew_of fun w2 h2 hs2 hb2 => ?_
 have hb2 : blk w2 w.heap.size = some (.cells #[.slice a L.length cp, .slice ra R.length rc] 78) := hb2
 refine kldN_at (cs := [.slice a L.length cp, .slice ra R.length rc]) hb2 rfl (by omega) ?_
 have hsn := sNewR_spec (hD.same h2) (ra := ra) (rc := rc) (cp := cp) (hs.same h2) hG (hr.same h2) hGR hm
 rw [hsc] at hsn
 refine kcall_of hsn ?_
 rintro v w5 ⟨b, rfl, o, p, hP5, hlo5, hhi5, h5⟩
 have hz2 := h2.size
 have C5 : Cur w o w5 b p (newS L most) 0 := ⟨hP5, newS_gs hm, fun k hk => hlo5 k (by omega), hhi5, h2.trans h5⟩
 refine kext_at rfl ?_
 refine kext_at rfl ?_
 rw [keq_nil_nil' ifErr]
 refine kB_at ?_
 refine kIf_F rfl ?_
 unfold f32_0
 have hb5 := h5.get hb2 (fun h => h)
 refine kldN_at (cs := [.slice a L.length cp, .slice ra R.length rc]) hb5 rfl (by omega) ?_
 have hgn := gNew (ra := ra) (rc := rc) (cp := cp) (hs.same C5.same) hG (hr.same C5.same) hGR
 rw [hsc] at hgn
 refine kcall_of hgn ?_
 rintro v w14 ⟨⟨g, gm, gs, rfl, hglo, hg14, hgo14, hgs14⟩, h14⟩
 refine kext_at rfl ?_
 refine kext_at rfl ?_
 rw [keq_nil_nil' ifErr]
 refine kB_at ?_
 refine kIf_F rfl ?_
 unfold f32_1
 have md : Same w14 w14.drew := (Mod.refl (fun _ => False) _).drew
 have Cd := C5.loc (h14.trans md)
 have hbd := (h14.trans md).get hb5 (fun h => h)
 have hgd := md.get hg14 (fun h => h)
 have hgo : w.heap.size ≤ g ∧ o g = none := ⟨by have := C5.same.size; omega, C5.hi g hglo⟩
 have hgsd := hgo14.same md
 have hgsl : ∀ k, vblk gs k → w.heap.size ≤ k ∧ o k = none := fun k hk => ⟨by have := (hgs14 k hk).1; have := C5.same.size; omega, C5.hi k (hgs14 k hk).1⟩
 have hlR := hGR.len
 generalize w14.drew = wd at *
 have hsd := hs.same Cd.same
 have hrd := hr.same Cd.same
 have fin : ∀ (w' : World) (a1 : Option Addr) (c1 : Nat) (a2 : Option Addr) (n2 c2 : Nat) (bc : Nat), Same wd w' → SlIs w' a1 L.length 7 (L.flatMap Comp.cells) → (∀ k f, a1 = some ⟨k, f, none⟩ → wd.heap.size ≤ k) → blk w' bc = some (.cells #[.slice a1 L.length c1, .slice a2 n2 c2] 78) →
   f32_2 (.int .i64 seed) (.pointer (some ⟨w.heap.size, 0, none⟩)) (ptrV b) (.pointer (some ⟨g, 0, none⟩)) (.pointer (some ⟨bc, 0, none⟩)) (fun v w' => ∃ c : WC, v = .tuple #[.pointer (some ⟨c.bw, 0, none⟩), .nilIface] ∧ c.L = L ∧ c.frame = 0 ∧ c.seed = seed ∧ c.rolled = rollF (L.map (·.rb)) ∧ c.R = R.map (·.value) ∧ WdAt c w c.mine w' (newS L most) 0 ⟨[], 1⟩) w' := by
  intro w' a1 c1 a2 n2 c2 bc m hs1 ha1 hbc
  have hz := Cd.same.size
  exact wNew_tail hG (Cd.loc m) (hsd.same m) (m.get hbd (fun h => h)) hs1 (fun k f e => ⟨by have := ha1 k f e; omega, sl_lt hs1 h0 (by omega) k f e, Cd.hi k (ha1 k f e)⟩) (fun k f e => ⟨by have := ha1 k f e; have := lt_of_blk hgd; omega, fun hv => by have := ha1 k f e; have := hgsd.vblk_lt hv; omega⟩) (fun k hk => (hgs14 k hk).2) hbc seed (m.get hgd (fun h => h)) hgo (hgsd.same m) hgsl fun c w'' e1 e2 e3 e4 e5 hW => ⟨c, rfl, e1, e2, e3, e4, e5, hW⟩
 rw [ptrV] at fin ⊢
 refine ⟨?_, ?_⟩
 ·refine kfld_of ?_
  refine kld_of (v := .slice a L.length cp) hbd rfl ?_
  refine kG_of rfl ?_
  refine kcall_of (cloneC_spec hsd (by omega)) ?_
  rintro v w24 ⟨hO24, h24, hf24⟩
  obtain ⟨a1, n1, c1, rfl, hs24, _⟩ := hO24.is
  have hn1 : n1 = L.length := by have h1 := hs24.1; omega
  subst hn1
  have ha1 : ∀ k f, a1 = some ⟨k, f, none⟩ → wd.heap.size ≤ k := fun k f e => hf24 k ⟨f, L.length, c1, by rw [e]⟩
  have hb24 := h24.get hbd (fun h => h)
  refine ⟨?_, ?_⟩
  ·refine kfld_of ?_
   refine kld_of (v := .slice ra R.length rc) hb24 rfl ?_
   refine kG_of rfl ?_
   refine kG_of (kld_of (v := .slice ra R.length rc) hbd rfl ⟨rfl, rfl⟩) ?_
   refine kcall_of (cloneRR_spec (hrd.same h24) (by omega)) ?_
   rintro v w28 ⟨⟨a2, n2, c2, rfl⟩, h28⟩
   refine knew_of fun w30 h30 hs30 hb30 => ?_
   have hb30' := (h28.trans h30).get hb24 (fun h => h)
   refine kG_of (kld_of (v := .slice ra R.length rc) hb30' rfl ⟨rfl, rfl⟩) ?_
   refine kG_of (kld_of (v := .slice a L.length cp) hb30' rfl ⟨rfl, rfl⟩) ?_
   refine kbld_of (cs := [.slice a1 L.length c1, .slice a2 n2 c2]) rfl ?_
   refine kst_of (vs := [.slice a1 L.length c1, .slice a2 n2 c2]) hb30 rfl rfl rfl (by simp) (by simp) fun w32 h32 hs32 hb32 => ?_
   have m32 : Same w28 w32 := h30.trans' (h32.mono fun k _ e => .inr (by omega))
   exact fin w32 a1 c1 _ _ _ _ (h24.trans (h28.trans m32)) (hs24.same (h28.trans m32)) ha1 hb32
  ·refine knew_of fun w49 h49 hs49 hb49 => ?_
   have hb49' := h49.get hb24 (fun h => h)
   refine kG_of (kld_of (v := .slice a L.length cp) hb49' rfl ⟨rfl, rfl⟩) ?_
   refine kfld_of ?_
   refine kld_of (v := .slice ra R.length rc) hb49' rfl ?_
   refine kG_of rfl ?_
   refine kG_of (kld_of (v := .slice ra R.length rc) hb24 rfl ⟨rfl, rfl⟩) ?_
   refine kG_of (kld_of (v := .slice ra R.length rc) hbd rfl ⟨rfl, rfl⟩) ?_
   refine kcall_of (cloneRR_spec (hrd.same (h24.trans h49)) (by omega)) ?_
   rintro v w53 ⟨⟨a2, n2, c2, rfl⟩, h53⟩
   refine kbld_of (cs := [.slice a1 L.length c1, .slice a2 n2 c2]) rfl ?_
   refine kst_of (vs := [.slice a1 L.length c1, .slice a2 n2 c2]) (h53.get hb49 (fun h => h)) rfl rfl rfl (by simp) (by simp) fun w55 h55 hs55 hb55 => ?_
   have m55 : Same w24 w55 := (h49.trans h53).trans' (h55.mono fun k _ e => .inr (by omega))
   exact fin w55 a1 c1 _ _ _ _ (h24.trans m55) (hs24.same m55) ha1 hb55
 ·refine knew_of fun w60 h60 hs60 hb60 => ?_
  have hb60' := h60.get hbd (fun h => h)
  refine kfld_of ?_
  refine kld_of (v := .slice a L.length cp) hb60' rfl ?_
  refine kG_of rfl ?_
  refine kG_of (kld_of (v := .slice a L.length cp) hbd rfl ⟨rfl, rfl⟩) ?_
  refine kcall_of (cloneC_spec (hsd.same h60) (by omega)) ?_
  rintro v w64 ⟨hO64, h64, hf64⟩
  obtain ⟨a1, n1, c1, rfl, hs64, _⟩ := hO64.is
  have hn1 : n1 = L.length := by have h1 := hs64.1; omega
  subst hn1
  have ha1 : ∀ k f, a1 = some ⟨k, f, none⟩ → wd.heap.size ≤ k := fun k f e => by have := hf64 k ⟨f, L.length, c1, by rw [e]⟩; omega
  have hb64 := h64.get hb60' (fun h => h)
  refine kfld_of ?_
  refine kld_of (v := .slice ra R.length rc) hb64 rfl ?_
  refine kG_of rfl ?_
  refine kG_of (kld_of (v := .slice ra R.length rc) hb60' rfl ⟨rfl, rfl⟩) ?_
  refine kG_of (kld_of (v := .slice ra R.length rc) hbd rfl ⟨rfl, rfl⟩) ?_
  refine kcall_of (cloneRR_spec (hrd.same (h60.trans h64)) (by omega)) ?_
  rintro v w68 ⟨⟨a2, n2, c2, rfl⟩, h68⟩
  refine kbld_of (cs := [.slice a1 L.length c1, .slice a2 n2 c2]) rfl ?_
  have hz64 := h64.size
  have hz60 := h60.size
  have hz68 := h68.size
  refine kst_of (vs := [.slice a1 L.length c1, .slice a2 n2 c2]) ((h64.trans h68).get hb60 (fun h => h)) rfl rfl rfl (by simp) (by simp) fun w70 h70 hs70 hb70 => ?_
  have m70 : Same wd w70 := (h60.trans (h64.trans h68)).trans' (h70.mono fun k _ e => .inr (by omega))
  have hs70 : SlIs w70 a1 L.length 7 (L.flatMap Comp.cells) := (hs64.same h68).mod h70 fun k f e hk => by have := hf64 k ⟨f, L.length, c1, by rw [e]⟩; omega
  exact fin w70 a1 c1 _ _ _ _ m70 hs70 ha1 hb70
end
section
attribute [local irreducible] kO kB kStr kInt kN kG kIf kfld kld kldN kst knew kmap kbld kbldS kext kcnv klenStr klen kcap kprt kprtN kbool kint kstr keq kun ksl kix kiv kta kmk kmm ksem ksemU kextf kcallV kcallM kcall kL
theorem Pair.new {c : WC} {w0 : World} {o : OC} {fx : Nat → Prop} {w w' : World} {S : SM} {t : Nat} {B : BdM} {l : List OrdM} {gv dr : Nat} (h0 : 0 < o.L.length) (hW : WdAt c w0 fx w S t B) (m : Same w w') (hO : OAt o (fun k => w.heap.size ≤ k) w' l gv dr) : Pair c w0 o fx w' S t B l gv dr := by
 refine ⟨⟨_, _, hW.ext m, hO.cut h0, fun k hk => ⟨.inr hk, fun hx => ?_, fun e => ?_⟩, fun k hk => .inl hk⟩, h0⟩
 ·have := (hW.A.lt hx).2; omega
 ·have := (hW.A.lt (hW.fm k e)).2; omega
theorem Pair.orderX {c : WC} {w0 : World} {o : OC} {X fx U : Nat → Prop} {w w' : World} {S : SM} {t : Nat} {B : BdM} {l' : List OrdM} {gv' dr' : Nat} (h0 : 0 < o.L.length) (hW : WdAt c w0 fx w S t B) (hU : ∀ k, U k → fx k ∧ ¬ X k ∧ ¬ c.mine k) (hX : ∀ k, X k → fx k)
  (hO : OAt o U w' l' gv' dr') (m : Mod U w w') : Pair c w0 o (fun k => X k ∨ (w.heap.size ≤ k ∧ k < w'.heap.size)) w' S t B l' gv' dr' ∧ Mod (fun k => w0.heap.size ≤ k ∧ ¬ X k) w w' := by
 refine ⟨⟨⟨_, _, hW.other m (fun k hk => ⟨(hU k hk).1, (hU k hk).2.2⟩), hO, fun k hk => ⟨.inl (hU k hk).1, fun hx => ?_, (hU k hk).2.2⟩, fun k hk => ?_⟩, h0⟩, m.mono fun k _ hk => ⟨(hW.A.lt (hU k hk).1).1, (hU k hk).2.1⟩⟩
 ·rcases hx with hx | hx
  ·exact (hU k hk).2.1 hx
  ·have := (hW.A.lt (hU k hk).1).2; omega
 ·rcases hk with hk | hk
  ·exact .inl (hX k hk)
  ·exact .inr hk
theorem pAdd_bad {pr : Nat → Prop} {Sa : Nat → Addr} {c : WC} {w0 : World} (hL : LaidP pr Sa w0) (h1 : pr 1) {o : OC} {X : Nat → Prop} {w : World} {S : SM} {t : Nat} {B : BdM} {l : List OrdM} {gv dr : Nat} (h : Pair c w0 o X w S t B l gv dr) (x : OrdM) (hx : x.ok) (hb : ¬ x.fit o.L.length) :
  Meets Tryz.prog 144 #[.pointer (some ⟨o.bo, 0, none⟩), x.val] w fun v w' => ErrX Sa 1 w.heap.size v w' ∧ Same w w' := by
 have hs := h.same0
 obtain ⟨⟨fx, U, hW, hO, hU, hX⟩, h0⟩ := h
 exact oAdd_bad (hL.same hs) h1 hO x hx hb
theorem pAdd_full {pr : Nat → Prop} {Sa : Nat → Addr} {c : WC} {w0 : World} (hL : LaidP pr Sa w0) (h6 : pr 6) {o : OC} {X : Nat → Prop} {w : World} {S : SM} {t : Nat} {B : BdM} {l : List OrdM} {gv dr : Nat} (h : Pair c w0 o X w S t B l gv dr) (x : OrdM) (hx : x.ok) (hb : x.fit o.L.length) (hf : o.most ≤ gv) (hdr : dr ≤ 1000000) :
  Meets Tryz.prog 144 #[.pointer (some ⟨o.bo, 0, none⟩), x.val] w fun v w' => ErrX Sa 6 w.heap.size v w' ∧ Pair c w0 o (fun k => X k ∨ (w.heap.size ≤ k ∧ k < w'.heap.size)) w' S t B l gv (dr + 1) ∧ Mod (fun k => w0.heap.size ≤ k ∧ ¬ X k) w w' := by
 have hs := h.same0
 obtain ⟨⟨fx, U, hW, hO, hU, hX⟩, h0⟩ := h
 refine (oAdd_full hL h6 hs (fun k hk => (hW.A.lt (hU k hk).1).1) hO x hx hb hf hdr).mono ?_
 rintro v w' ⟨hE, hO', m⟩
 exact ⟨hE, Pair.orderX h0 hW hU hX hO' m⟩
theorem pAdd_ok {c : WC} {w0 : World} {o : OC} {X : Nat → Prop} {w : World} {S : SM} {t : Nat} {B : BdM} {l : List OrdM} {gv dr : Nat} (h : Pair c w0 o X w S t B l gv dr) (x : OrdM) (hx : x.ok) (hb : x.fit o.L.length) (hf : gv < o.most) (hmo : o.most ≤ 1000000) (hln : l.length ≤ 1000000) :
  Meets Tryz.prog 144 #[.pointer (some ⟨o.bo, 0, none⟩), x.val] w fun v w' => v = .nilIface ∧ Pair c w0 o X w' S t B (l ++ [x]) (gv + 1) dr ∧ Mod (fun k => w0.heap.size ≤ k ∧ ¬ X k) w w' := by
 obtain ⟨⟨fx, U, hW, hO, hU, hX⟩, h0⟩ := h
 refine (oAdd_ok hO x hx hb hf hmo hln h0).mono ?_
 rintro v w' ⟨rfl, hO', m⟩
 exact ⟨rfl, Pair.order h0 hW hU hX hO' m⟩
theorem wGet_ok {c : WC} {w0 : World} {fx : Nat → Prop} {w : World} {S : SM} {t : Nat} {B : BdM} (h : WdAt c w0 fx w S t B) {x : Int} {n : Nat} {y : Nat × EK} (hf : B.l.find? (fun z => decide (((z.1 : Nat) : Int) = x)) = some y) {q : Part} (hq : q ∈ partsOf S y.2.i.toNat) (hqc : q.comp = (n : Int)) :
  Meets Tryz.prog 185 #[.pointer (some ⟨c.bw, 0, none⟩), .int .i64 x, .int .i64 n] w fun v w' => v = .tuple #[.agg q.cells.toArray, .nilIface] ∧ Same w w' := by
 have hym := List.mem_of_find?_eq_some hf
 obtain ⟨i, hyi, hg⟩ := h.link.live y hym
 rw [hyi, Int.toNat_natCast] at hq
 refine f185_ok ?_
 unfold f185
 refine knew_of fun w2 h2 hs2 hb2 => ?_
 refine kcall_of (wEntity_ok (h.loc h2) hf) ?_
 rintro v w4 ⟨rfl, h4⟩
 unfold EK.v entV
 rw [hyi]
 refine kext_at rfl ?_
 refine kext_at rfl ?_
 refine knew_of fun w8 h8 hs8 hb8 => ?_
 refine kst_of (vs := [.int .i64 i, .int .i64 y.2.g]) hb8 rfl rfl rfl (by simp) (by simp) fun w9 h9 hs9 hb9 => ?_
 have hb9 : blk w9 w4.heap.size = some (.cells #[.int .i64 i, .int .i64 y.2.g] 160) := hb9
 have m9 : Same w4 w9 := h8.trans' (h9.mono fun k _ e => .inr (by omega))
 rw [keq_nil_nil' ifErr]
 refine kB_at ?_
 refine kIf_F rfl ?_
 unfold f185_0
 have md : Same w9 w9.drew := (Mod.refl (fun _ => False) _).drew
 have m29 : Same w2 w9.drew := (h4.trans m9).trans md
 have hd := h.loc (h2.trans m29)
 have hbd := md.get hb9 (fun h => h)
 have hb2d := m29.get hb2 (fun h => h)
 have hz2 := m29.size
 generalize w9.drew = wd at *
 have key : ∀ {w1 : World}, Same wd w1 → blk w1 c.bw = some (.cells c.cells 106) := fun m => m.get hd.here (fun h => h)
 have tail : ∀ (w1 : World) (bp : Nat), Same wd w1 → bp ≠ w.heap.size → blk w1 bp = some (.cells q.cells.toArray 49) → f185_1 (.pointer (some ⟨w.heap.size, 0, none⟩)) .nilIface (.pointer (some ⟨bp, 0, none⟩)) (fun v w' => v = .tuple #[.agg q.cells.toArray, .nilIface] ∧ Same w w') w1 := by
  intro w1 bp m hne hbp
  unfold f185_1
  rw [keq_nil_nil' ifErr]
  refine kB_at ?_
  refine kIf_F rfl ?_
  unfold f185_2
  refine kldN_at (cs := q.cells) hbp rfl (by omega) ?_
  refine kst_of (vs := q.cells) (m.get hb2d (fun h => h)) rfl rfl rfl (by simp) (by simp [Part.cells]) fun w33 h33 hs33 hb33 => ?_
  have hb33 : blk w33 w.heap.size = some (.cells q.cells.toArray 49) := hb33
  refine kldN_at (cs := q.cells) hb33 rfl (by omega) ?_
  exact ⟨rfl, ((h2.trans m29).trans m).trans' (h33.mono fun k _ e => .inr (by omega))⟩
 obtain ⟨o, p, U, C, hb, hU, hfx⟩ := hd.A
 have hget : ∀ w1, Same wd w1 → Meets Tryz.prog 214 #[.pointer (some ⟨c.bs, 0, none⟩), .agg #[.int .i64 i, .int .i64 y.2.g], .int .i64 n] w1 fun v w' => v = .tuple #[.agg q.cells.toArray, .nilIface] ∧ Same w1 w' := by
  intro w1 m
  have := get_at (C.sp.same m) C.gs hg hq hqc
  rw [ptrV, entV] at this
  exact this
 refine ⟨?_, ?_⟩
 ·refine kN_at ?_
  refine kfld_of ?_
  refine kld_of (v := .pointer (some ⟨c.bs, 0, none⟩)) hd.here rfl ?_
  refine kG_of rfl ?_
  refine kldN_at (cs := [.int .i64 i, .int .i64 y.2.g]) hbd rfl (by omega) ?_
  refine kG_of rfl ?_
  refine kcall_of (hget _ (Mod.refl _ _)) ?_
  rintro v w19 ⟨rfl, h19⟩
  refine knew_of fun w21 h21 hs21 hb21 => ?_
  refine kG_of (kldN_at (cs := [.int .i64 i, .int .i64 y.2.g]) ((h19.trans h21).get hbd (fun h => h)) rfl (by omega) ⟨rfl, rfl⟩) ?_
  refine kG_of (kld_of (v := .pointer (some ⟨c.bs, 0, none⟩)) (key (h19.trans h21)) rfl ⟨rfl, rfl⟩) ?_
  refine kext_at rfl ?_
  refine kst_of (vs := q.cells) hb21 rfl rfl rfl (by simp) (by simp [Part.cells]) fun w23 h23 hs23 hb23 => ?_
  have hb23 : blk w23 w19.heap.size = some (.cells q.cells.toArray 49) := hb23
  refine kext_at rfl ?_
  have hz19 := h19.size
  exact tail _ _ (h19.trans (h21.trans' (h23.mono fun k _ e => .inr (by omega)))) (by omega) hb23
 ·refine knew_of fun w39 h39 hs39 hb39 => ?_
  refine kN_at ?_
  refine kfld_of ?_
  refine kld_of (v := .pointer (some ⟨c.bs, 0, none⟩)) (key h39) rfl ?_
  refine kG_of rfl ?_
  refine kG_of (kld_of (v := .pointer (some ⟨c.bs, 0, none⟩)) hd.here rfl ⟨rfl, rfl⟩) ?_
  refine kldN_at (cs := [.int .i64 i, .int .i64 y.2.g]) (h39.get hbd (fun h => h)) rfl (by omega) ?_
  refine kG_of rfl ?_
  refine kG_of (kldN_at (cs := [.int .i64 i, .int .i64 y.2.g]) hbd rfl (by omega) ⟨rfl, rfl⟩) ?_
  refine kcall_of (hget _ h39) ?_
  rintro v w44 ⟨rfl, h44⟩
  refine kext_at rfl ?_
  refine kst_of (vs := q.cells) (h44.get hb39 (fun h => h)) rfl rfl rfl (by simp) (by simp [Part.cells]) fun w46 h46 hs46 hb46 => ?_
  have hb46 : blk w46 wd.heap.size = some (.cells q.cells.toArray 49) := hb46
  refine kext_at rfl ?_
  exact tail _ _ ((h39.trans h44).trans' (h46.mono fun k _ e => .inr (by omega))) (by omega) hb46
end
section
attribute [local irreducible] kO kB kStr kInt kN kG kIf kfld kld kldN kst knew kmap kbld kbldS kext kcnv klenStr klen kcap kprt kprtN kbool kint kstr keq kun ksl kix kiv kta kmk kmm ksem ksemU kextf kcallV kcallM kcall kL
theorem newS_len (L : List Comp) (most : Nat) : (newS L most).gens.length = most := by simp [newS, newS0, layS]
end
section
attribute [local irreducible] kO kB kStr kInt kN kG kIf kfld kld kldN kst knew kmap kbld kbldS kext kcnv klenStr klen kcap kprt kprtN kbool kint kstr keq kun ksl kix kiv kta kmk kmm ksem ksemU kextf kcallV kcallM kcall kL
structure ActO where
 kind : Int
 x : OrdM
def ActO.cells (a : ActO) : List Value := .int .i64 a.kind :: a.x.cells
end
section
attribute [local irreducible] kO kB kStr kInt kN kG kIf kfld kld kldN kst knew kmap kbld kbldS kext kcnv klenStr klen kcap kprt kprtN kbool kint kstr keq kun ksl kix kiv kta kmk kmm ksem ksemU kextf kcallV kcallM kcall kL
theorem zeros_parts (n : Nat) : (Builtin.zeroCells #[.int .i64 0, .int .i64 0, .int .i64 0, .int .i64 0, .int .i64 0, .int .i64 0] n).toList = List.replicate (n * 6) (.int .i64 0) := by
 rw [List.eq_replicate_iff]
 constructor
 ·rw [Array.length_toList]
  exact size_zeroCells _ _
 ·intro b hb
  unfold Builtin.zeroCells at hb
  rw [Array.toList_map, List.mem_map] at hb
  obtain ⟨i, _, rfl⟩ := hb
  have : i % 6 < 6 := Nat.mod_lt _ (by omega)
  show (#[Value.int .i64 0, .int .i64 0, .int .i64 0, .int .i64 0, .int .i64 0, .int .i64 0] : Array Value)[i % 6]! = _
  have h : i % 6 = 0 ∨ i % 6 = 1 ∨ i % 6 = 2 ∨ i % 6 = 3 ∨ i % 6 = 4 ∨ i % 6 = 5 := by omega
  rcases h with h | h | h | h | h | h <;> rw [h] <;> rfl
theorem ksem_clearP {w : World} {ty : TypeId} {K : Value → World → Prop} {b o n cp : Nat} {arr : Array Value} {tt : TypeId} (hb : blk w b = some (.cells arr tt)) (hle : o + n * 6 ≤ arr.size)
  (h : ∀ w2 arr', Mod (fun k => k = b) w w2 → blk w2 b = some (.cells arr' tt) → arr'.size = arr.size → arr'.toList.take o = arr.toList.take o → K (.tuple #[]) w2) :
  ksem Tryz.prog (Builtin.clear_ #[44] ty #[.slice (some ⟨b, o, none⟩) n cp]) w K := by
 cases n with
 | zero =>
  have hr : (Builtin.clear_ #[44] ty #[.slice (some ⟨b, o, none⟩) 0 cp]).run Tryz.prog w = .ok (.tuple #[]) w := by
   simp only [Builtin.clear_]
   simp [run_underlying elPart, Result.andThen]
  rw [ksem_ok hr]
  exact h w arr (Mod.refl _ _) hb rfl rfl
 | succ n =>
  have hz : ∀ w, (zeroValue 49).run Tryz.prog w = .ok (.agg #[.int .i64 0, .int .i64 0, .int .i64 0, .int .i64 0, .int .i64 0, .int .i64 0]) w := fun w => run_zero' zPartA
  have hst := run_storeCells_cells (P := Tryz.prog) b o (List.replicate ((n + 1) * 6) (Value.int .i64 0)) 0 w
   (fun j hj => by
    rw [List.length_replicate] at hj
    rw [Nat.add_zero, cell_mk, hb, cellO_some]; simp; omega)
   (fun j hj => by simp [World.frozen?, show w.heap[b]? = _ from hb]) (by intro v hv; rw [(List.mem_replicate.1 hv).2]; rfl)
  have hr : (Builtin.clear_ #[44] ty #[.slice (some ⟨b, o, none⟩) (n + 1) cp]).run Tryz.prog w = .ok (.tuple #[]) (w.setCells b o (List.replicate ((n + 1) * 6) (Value.int .i64 0))) := by
   have hzc := zeros_parts (n + 1)
   simp only [Nat.add_zero] at hst
   simp only [Builtin.clear_]
   simp [run_underlying elPart, hz, hzc, hst, Result.andThen]
  rw [ksem_ok hr, setCells_blk _ _ _ _ hb]
  have hsl := setAll_list (List.replicate ((n + 1) * 6) (Value.int .i64 0)) arr o (by rw [List.length_replicate]; exact hle)
  refine h _ _ ((Mod.refl _ _).setBlk _ (.inl rfl)) (by rw [setBlk_heap, if_pos rfl, hb]; rfl) ?_ ?_
  ·rw [← Array.length_toList, hsl, ← Array.length_toList]
   simp
   rw [Array.size_eq_length_toList] at hle
   simp at hle
   omega
  ·rw [hsl, List.append_assoc, List.take_append_of_le_length (by simp; omega), List.take_take, Nat.min_self]
def Tells (v : Value) (w : World) (f : Nat) (caps : Array Value) (L : List Part) (del : Part → Bool) : Prop :=
 ∀ q ∈ L, ∀ w1, Mod (vblk v) w w1 → Meets Tryz.prog f (#[.agg q.cells.toArray] ++ caps) w1 fun r w2 => r = .bool (del q) ∧ Same w1 w2
theorem indexG_spec {v : Value} {w : World} {a : Option Addr} {L : List Part} {cp : Nat} (hs : SlIs w a L.length 6 (L.flatMap Part.cells)) {f : Nat} {caps : Array Value} {del : Part → Bool} (ht : Tells v w f caps L del) (hlen : L.length ≤ 1000000) :
  Meets Tryz.prog 96 #[.slice a L.length cp, .func (.func f) #[] caps] w fun r w' => ((∃ k, ∃ h : k < L.length, r = .int .i64 k ∧ del L[k] = true ∧ ∀ j (hj : j < L.length), j < k → del L[j] = false) ∨ (r = .int .i64 (-1) ∧ ∀ q ∈ L, del q = false)) ∧ Same w w' := by
 refine f96_ok ?_
 unfold f96
 refine klen_at ?_
 refine kL1_of L.length (fun j x wr => x = .int .i64 j ∧ (∀ i (hi : i < L.length), i < j → del L[i] = false) ∧ Same w wr) ⟨lI1_0 ⟨rfl, fun i hi h => by omega, Mod.refl _ _⟩, fun x wr hx => ?_⟩
 obtain ⟨j, hj, ⟨rfl, hbef, hm⟩, hJ⟩ := lI1_step hx
 unfold f96_0
 refine lss_at ?_
 refine kB_at ?_
 refine kIf_dec (fun hlt => ?_) (fun hge => ?_)
 ·have hlt : j < L.length := by omega
  unfold f96_1
  refine kixldN_of (F := Part.cells) (sz := 6) (fun _ => rfl) (by omega) (hs.same hm) hlt rfl ?_
  refine kcallC_of (ht L[j] (List.getElem_mem hlt) wr (Mod.of_same hm)) ?_
  rintro r w7 ⟨rfl, h7⟩
  refine kB_at ?_
  refine kIf_of (fun e => ?_) (fun e => ?_)
  ·exact ⟨.inl ⟨j, hlt, rfl, e, hbef⟩, hm.trans h7⟩
  ·unfold f96_2
   refine add_at (by omega) (by omega) ?_
   rw [cast_succ]
   refine hJ _ _ hlt ⟨rfl, fun i hi h => ?_, hm.trans h7⟩
   by_cases he : i = j
   ·subst he; exact e
   ·exact hbef i hi (by omega)
 ·have : j = L.length := by omega
  subst this
  unfold f96_3
  refine ⟨.inr ⟨rfl, fun q hq => ?_⟩, hm⟩
  obtain ⟨i, hi, rfl⟩ := List.mem_iff_getElem.1 hq
  exact hbef i hi hi
structure Kept2 (L M : List Part) (del : Part → Bool) (i j : Nat) : Prop where
 len : M.length = L.length
 ahead : M.take i = (L.take j).filter fun q => !del q
 rest : ∀ x, j ≤ x → M[x]? = L[x]?
 le : i < j
theorem Kept2.first {L : List Part} {del : Part → Bool} {k : Nat} (hk : k < L.length) (hd : del L[k] = true) (hb : ∀ j (hj : j < L.length), j < k → del L[j] = false) : Kept2 L L del k (k + 1) := by
 refine ⟨rfl, ?_, fun _ _ => rfl, by omega⟩
 rw [List.take_succ_eq_append_getElem hk, List.filter_append, List.filter_eq_self.2, List.filter_cons_of_neg (by simp [hd]), List.filter_nil, List.append_nil]
 intro q hq
 obtain ⟨i, hi, rfl⟩ := List.mem_iff_getElem.1 hq
 rw [List.length_take] at hi
 rw [List.getElem_take, hb i (by omega) (by omega)]
 rfl
theorem Kept2.keep {L M : List Part} {del : Part → Bool} {i j : Nat} (h : Kept2 L M del i j) (hj : j < L.length) (hd : del L[j] = false) : Kept2 L (M.set i L[j]) del (i + 1) (j + 1) := by
 have hle := h.le
 refine ⟨by rw [List.length_set]; exact h.len, ?_, fun x hx => ?_, by omega⟩
 ·have hi : i < (M.set i L[j]).length := by rw [List.length_set, h.len]; omega
  rw [List.take_succ_eq_append_getElem hi, List.getElem_set_self, List.take_set_of_le (Nat.le_refl i), h.ahead, List.take_succ_eq_append_getElem hj, List.filter_append, List.filter_cons_of_pos (by simp [hd]), List.filter_nil]
 ·rw [List.getElem?_set_ne (by omega)]
  exact h.rest x (by omega)
theorem Kept2.drop {L M : List Part} {del : Part → Bool} {i j : Nat} (h : Kept2 L M del i j) (hj : j < L.length) (hd : del L[j] = true) : Kept2 L M del i (j + 1) := by
 have hle := h.le
 refine ⟨h.len, ?_, fun x hx => h.rest x (by omega), by omega⟩
 rw [h.ahead, List.take_succ_eq_append_getElem hj, List.filter_append, List.filter_cons_of_neg (by simp [hd]), List.filter_nil, List.append_nil]
theorem deleteG_spec {w : World} {v : Value} {L : List Part} (hO : Own w v 6 (L.flatMap Part.cells)) {f : Nat} {caps : Array Value} {del : Part → Bool} (ht : Tells v w f caps L del) (hlen : L.length ≤ 1000000) :
  Meets Tryz.prog 56 #[v, .func (.func f) #[] caps] w fun v' w' => Own w' v' 6 ((L.filter fun q => !del q).flatMap Part.cells) ∧ Mod (vblk v) w w' ∧ ∀ b, vblk v' b → vblk v b := by
 obtain ⟨sa, sn, sc, rfl, hsl, _⟩ := hO.is
 have hfl := flat_len Part.cells 6 (fun _ => rfl) L
 have hsn : sn = L.length := by have h1 := hsl.1; omega
 subst hsn
 refine f56_ok ?_
 unfold f56
 refine kcall_of (indexG_spec hsl ht hlen) ?_
 rintro r w2 ⟨hr, h2⟩
 rcases hr with ⟨k, hk, rfl, hkd, hbef⟩ | ⟨rfl, hnone⟩
 rotate_left
 ·refine eql_at ?_
  rw [decT rfl]
  refine kB_at ?_
  refine kIf_T rfl ?_
  rw [List.filter_eq_self.2 fun q hq => by rw [hnone q hq]; rfl]
  exact ⟨hO.same h2, Mod.of_same h2, fun b hb => hb⟩
 refine eql_at ?_
 rw [decF (by omega)]
 refine kB_at ?_
 refine kIf_F rfl ?_
 unfold f56_0
 refine add_at (by omega) (by omega) ?_
 rw [cast_succ]
 obtain ⟨bv, cp, arr, t, e, hbv, s1, s2, s3⟩ := hO.viewF (F := Part.cells) (sz := 6) (fun _ => rfl) (by omega) (show 0 < L.length by omega)
 cases e
 have hmv : ∀ {w1 w2 : World}, Mod (fun k => k = bv) w1 w2 → Mod (vblk (.slice (some ⟨bv, 0, none⟩) L.length sc)) w1 w2 := fun h => h.mono fun k _ e => by subst e; exact ⟨0, _, _, rfl⟩
 refine kL2_of (L.length - (k + 1)) (fun u x y wr => y = .int .i64 ((k + 1 + u : Nat) : Int) ∧ k + 1 + u ≤ L.length ∧ ∃ (i : Nat) (M : List Part), x = .int .i64 (i : Int) ∧ i < L.length ∧ Kept2 L M del i (k + 1 + u) ∧ Own wr (.slice (some ⟨bv, 0, none⟩) L.length sc) 6 (M.flatMap Part.cells) ∧ Mod (fun k => k = bv) w wr) ⟨lI2_0 ⟨rfl, by omega, k, L, rfl, hk, Kept2.first hk hkd hbef, hO.same h2, Mod.of_same h2⟩, fun x y wr hx => ?_⟩
 obtain ⟨u, hu, ⟨rfl, hle, i, M, rfl, hil, hM, hOM, hm⟩, hJ⟩ := lI2_step hx
 have hMl := hM.len
 obtain ⟨bv', cp', arr', t', e', hbv', s1', s2', s3'⟩ := hOM.viewF (F := Part.cells) (sz := 6) (fun _ => rfl) (by omega) (show 0 < M.length by omega)
 rw [hMl] at e' s1' s2'
 cases e'
 unfold f56_1
 refine klen_at ?_
 refine lss_at ?_
 refine kB_at ?_
 refine kIf_dec (fun hlt => ?_) (fun hge => ?_)
 ·have hlt : k + 1 + u < L.length := by omega
  have hMj : M[k + 1 + u]'(by omega) = L[k + 1 + u] := by
   have := hM.rest (k + 1 + u) (Nat.le_refl _)
   rw [List.getElem?_eq_getElem (by omega), List.getElem?_eq_getElem hlt] at this
   exact Option.some.inj this
  have hsj := s3' (k + 1 + u) (by omega)
  rw [hMj] at hsj
  have hmem : L[k + 1 + u] ∈ L := List.getElem_mem hlt
  have hkeep := fun h => hM.keep hlt h
  have hdrop := fun h => hM.drop hlt h
  generalize hq : L[k + 1 + u] = q at *
  unfold f56_2
  rw [kix_slice]
  refine kG_of (by omega) ?_
  rw [add_mk, Nat.zero_add, Int.toNat_natCast]
  refine kldN_at hbv' hsj (by omega) ?_
  refine knew_of fun w11 h11 hs11 hb11 => ?_
  refine kst_of (vs := q.cells) hb11 rfl rfl rfl (by simp) (by simp [Part.cells]) fun w12 h12 hs12 hb12 => ?_
  have hb12 : blk w12 wr.heap.size = some (.cells q.cells.toArray 49) := hb12
  have m12 : Same wr w12 := h11.trans' (h12.mono fun k _ e => .inr (by omega))
  refine kldN_at (cs := q.cells) hb12 rfl (by omega) ?_
  refine kcallC_of (ht q hmem w12 (hmv (hm.trans (Mod.of_same m12)))) ?_
  rintro v w15 ⟨rfl, h15⟩
  have m15 := m12.trans h15
  refine not_at ?_
  refine kB_at ?_
  refine kIf_of (fun e => ?_) (fun e => ?_)
  ·have e : del q = false := by simpa using e
   have hb15 := h15.get hb12 (fun h => h)
   have hbv15 := m15.get hbv' (fun h => h)
   refine kldN_at (cs := q.cells) hb15 rfl (by omega) ?_
   rw [kix_slice]
   refine kG_of (by omega) ?_
   rw [add_mk, Nat.zero_add, Int.toNat_natCast]
   have hsg := (segL_spec _ _ _ _ (s3' i (by omega))).1
   rw [Array.length_toList] at hsg
   refine kst_of (vs := q.cells) hbv15 rfl rfl rfl hsg (by simp [Part.cells]) fun w19 h19 hs19 hb19 => ?_
   refine add_at (by omega) (by omega) ?_
   unfold f56_3
   refine add_at (by omega) (by omega) ?_
   rw [cast_succ, cast_succ]
   have hK := hkeep e
   have hile := hM.le
   refine hJ _ _ _ (by omega) ⟨by rw [Nat.add_assoc], by omega, i + 1, M.set i q, rfl, by omega, hK, ?_, hm.trans ((Mod.of_same m15).trans h19)⟩
   exact Own.setF (F := Part.cells) (fun _ => rfl) hOM hbv' (x := q) (i := i) hb19 (by omega)
  ·have e : del q = true := by simpa using e
   unfold f56_3
   refine add_at (by omega) (by omega) ?_
   rw [cast_succ]
   exact hJ _ _ _ (by omega) ⟨by rw [Nat.add_assoc], by omega, i, M, rfl, hil, hdrop e, hOM.same m15, hm.trans (Mod.of_same m15)⟩
 ·have hge : k + 1 + u = L.length := by omega
  unfold f56_4
  obtain ⟨bc, n', cp', arr, tt, e, hba, v1, v2, v3, v4, v5⟩ := hOM.view (by
   intro e
   have h1 := flat_len Part.cells 6 (fun _ => rfl) M
   rw [e] at h1; simp at h1; omega)
  cases e
  have hile := hM.le
  refine ksl_sl_lo (by omega) v3 (by omega) ?_
  rw [Nat.zero_add]
  refine ksem_clearP hba (by rw [v2]; omega) fun w25 arr2 h25 hb25 z1 z2 => ?_
  refine ksl_sl_hi (by omega) ?_
  refine ⟨?_, hmv (hm.trans h25), ?_⟩
  ·have e1 : (L.filter fun q => !del q) = M.take i := by rw [hM.ahead, hge, List.take_length]
   rw [e1, flat_take (F := Part.cells) (sz := 6) (fun _ => rfl)]
   have hML := flat_len Part.cells 6 (fun _ => rfl) M
   refine ⟨_, i, sc, rfl, by rw [List.length_take]; omega, by omega, v4, .inr ⟨bv, arr2, tt, rfl, hb25, by rw [z1, v2], ?_⟩⟩
   rw [z2, ← v5, List.take_take, Nat.min_eq_left (by omega)]
  ·rintro b ⟨_, _, _, e⟩; cases e; exact ⟨_, _, _, rfl⟩
end
section
attribute [local irreducible] kO kB kStr kInt kN kG kIf kfld kld kldN kst knew kmap kbld kbldS kext kcnv klenStr klen kcap kprt kprtN kbool kint kstr keq kun ksl kix kiv kta kmk kmm ksem ksemU kextf kcallV kcallM kcall kL
theorem slNumsT : isSlT Tryz.prog 55 = true := by kernel_rfl
theorem ones_ints : ∀ l : List Int, oneCells (l.map (Value.int .i64)) = true
 | [] => rfl
 | x :: l => by
  show oneCells (.int .i64 x :: l.map (Value.int .i64)) = true
  simp only [oneCells, ones_ints l]; rfl
theorem cloneN_spec {w : World} {a : Option Addr} {n c : Nat} {l : List Int} (hs : SlIs w a n 1 (l.map (Value.int .i64))) (hn : l.length ≤ 1000000) :
  Meets Tryz.prog 50 #[.slice a n c] w fun v w' => Own w' v 1 (l.map (Value.int .i64)) ∧ (∀ k, vblk v k → w.heap.size ≤ k) ∧ Same w w' := by
 have hl : n = l.length := by have h1 := hs.1; rw [List.length_map] at h1; omega
 subst hl
 refine f50_ok ?_
 unfold f50
 rw [keq_sl_nil slNumsT]
 cases a with
 | none =>
  have hL : l.length = 0 := by rcases hs.2 with h | ⟨_, _, _, _, _, h, _⟩; exact h; cases h
  have : l = [] := List.eq_nil_of_length_eq_zero hL
  subst this
  refine kB_at ?_
  refine kIf_T rfl ?_
  exact ⟨Own.nil _ _, (fun k hk => by obtain ⟨_, _, _, h⟩ := hk; cases h), Mod.refl _ _⟩
 | some a =>
  refine kB_at ?_
  refine kIf_F rfl ?_
  unfold f50_0
  refine kbldS_of (cs := []) rfl fun w5 h5 hs5 hb5 => ?_
  refine ksem_append apNums (by omega) (vs := []) (Own.blk hb5 (n := 0) (by simp) (by simp [maxLen])) (Src.ofSlIs (hk := slNums_is.choose_spec) c (hs.same h5) (ones_ints l)) (by simp; omega) (by simp; omega) ?_
  intro v' w' ho hm hf
  refine ⟨by simpa using ho, fun b hb => ?_, Mod.after h5 hm (fun b hb => by rw [vblk_new hb]; exact Nat.le_refl _)⟩
  rcases hf b hb with h | h
  ·rw [vblk_new h]; exact Nat.le_refl _
  ·omega
theorem bdList {U : Nat → Prop} {w : World} {b : Nat} {B : BdM} (h : BdAt U w b B) :
  Meets Tryz.prog 41 #[.pointer (some ⟨b, 0, none⟩)] w fun v w' => Own w' v 1 (B.nums.map (Value.int .i64)) ∧ (∀ k, vblk v k → w.heap.size ≤ k) ∧ Same w w' := by
 obtain ⟨bo, bi, sv, q⟩ := h
 have hn := q.nums
 have hle := q.le
 obtain ⟨a, n, c, rfl, hs, _⟩ := hn.is
 refine f41_ok ?_
 unfold f41
 rw [keq_ptr_nil ptBad]
 refine kB_at ?_
 refine kIf_F rfl ?_
 unfold f41_0
 refine kN_at ?_
 refine kfld_of ?_
 refine kld_of (v := .slice a n c) q.here rfl ?_
 refine kcall_of (cloneN_spec (l := B.nums) hs (by unfold BdM.nums; rw [List.length_map]; omega)) ?_
 rintro v w6 h
 exact h
theorem ptGoo : isPtrT Tryz.prog 103 = true := by kernel_rfl
theorem gAll {w : World} {bg : Nat} {gm gs gn : Value} {R : List Int} (hb : blk w bg = some (.cells #[gm, gs, gn] 202)) (ho : Own w gs 1 (R.map (Value.int .i64))) (hR : R.length ≤ 1000000) :
  Meets Tryz.prog 60 #[.pointer (some ⟨bg, 0, none⟩)] w fun v w' => Own w' v 1 (R.map (Value.int .i64)) ∧ (∀ k, vblk v k → w.heap.size ≤ k) ∧ Same w w' := by
 obtain ⟨a, n, c, rfl, hs, _⟩ := ho.is
 refine f60_ok ?_
 unfold f60
 rw [keq_ptr_nil ptGoo]
 refine kB_at ?_
 refine kIf_F rfl ?_
 unfold f60_0
 refine kN_at ?_
 refine kfld_of ?_
 refine kld_of (v := .slice a n c) hb rfl ?_
 refine kcall_of (cloneN_spec hs hR) ?_
 rintro v w6 h
 exact h
theorem wParts_ok {c : WC} {w0 : World} {fx : Nat → Prop} {w : World} {S : SM} {t : Nat} {B : BdM} (h : WdAt c w0 fx w S t B) {x : Int} {y : Nat × EK} (hf : B.l.find? (fun z => decide (((z.1 : Nat) : Int) = x)) = some y) :
  Meets Tryz.prog 42 #[.pointer (some ⟨c.bw, 0, none⟩), .int .i64 x] w fun v w' => ∃ s, v = .tuple #[s, .nilIface] ∧ Own w' s 6 ((partsOf S y.2.i.toNat).flatMap Part.cells) ∧ (∀ k, vblk s k → w.heap.size ≤ k) ∧ Same w w' := by
 have hym := List.mem_of_find?_eq_some hf
 obtain ⟨i, hyi, hg⟩ := h.link.live y hym
 rw [hyi, Int.toNat_natCast]
 refine f42_ok ?_
 unfold f42
 refine kcall_of (wEntity_ok h hf) ?_
 rintro v w2 ⟨rfl, h2⟩
 unfold EK.v entV
 rw [hyi]
 refine kext_at rfl ?_
 refine kext_at rfl ?_
 refine knew_of fun w6 h6 hs6 hb6 => ?_
 refine kst_of (vs := [.int .i64 i, .int .i64 y.2.g]) hb6 rfl rfl rfl (by simp) (by simp) fun w7 h7 hs7 hb7 => ?_
 have hb7 : blk w7 w2.heap.size = some (.cells #[.int .i64 i, .int .i64 y.2.g] 160) := hb7
 have m7 : Same w2 w7 := h6.trans' (h7.mono fun k _ e => .inr (by omega))
 rw [keq_nil_nil' ifErr]
 refine kB_at ?_
 refine kIf_F rfl ?_
 unfold f42_0
 have md : Same w7 w7.drew := (Mod.refl (fun _ => False) _).drew
 have mw : Same w w7.drew := (h2.trans m7).trans md
 have hd := h.loc mw
 have hbd := md.get hb7 (fun h => h)
 have hz := mw.size
 generalize w7.drew = wd at *
 refine kN_at ?_
 refine kfld_of ?_
 refine kld_of (v := .pointer (some ⟨c.bs, 0, none⟩)) hd.here rfl ?_
 refine kG_of rfl ?_
 refine kldN_at (cs := [.int .i64 i, .int .i64 y.2.g]) hbd rfl (by omega) ?_
 refine kG_of rfl ?_
 obtain ⟨o, p, U, C, hb, hU, hfx⟩ := hd.A
 have hp := parts_at C.sp C.gs hg
 rw [ptrV, entV] at hp
 refine kcall_of hp ?_
 rintro v w14 ⟨s, rfl, hO, hsk, h14⟩
 refine kext_at rfl ?_
 refine kext_at rfl ?_
 rw [keq_nil_nil' ifErr]
 refine kB_at ?_
 refine kIf_F rfl ?_
 unfold f42_1
 exact ⟨s, rfl, hO, fun k hk => by have := hsk k hk; omega, mw.trans h14⟩
structure BeV where
 id : Nat
 pa : Option Addr
 pc : Nat
 parts : List Part
def BeV.pv (b : BeV) : Value := .slice b.pa b.parts.length b.pc
def BeV.cells (b : BeV) : List Value := [natV b.id, .slice b.pa b.parts.length b.pc]
def BeV.key (b : BeV) : Nat × List Part := (b.id, b.parts)
structure BsAt (lo : Nat) (w : World) (x : Value) (bl : List BeV) : Prop where
 own : Own w x 2 (bl.flatMap BeV.cells)
 parts : ∀ b ∈ bl, Own w b.pv 6 (b.parts.flatMap Part.cells)
 xlo : ∀ k, vblk x k → lo ≤ k
 plo : ∀ b ∈ bl, ∀ k, vblk b.pv k → lo ≤ k
 ne : ∀ b ∈ bl, ∀ k, vblk b.pv k → ¬ vblk x k
 apart : bl.Pairwise fun b b' => ∀ k, vblk b.pv k → ¬ vblk b'.pv k
theorem BsAt.same {lo : Nat} {w w' : World} {x : Value} {bl : List BeV} (h : BsAt lo w x bl) (m : Same w w') : BsAt lo w' x bl :=
 ⟨h.own.same m, fun b hb => (h.parts b hb).same m, h.xlo, h.plo, h.ne, h.apart⟩
theorem apBes : appT Tryz.prog 34 2 32 = true := by kernel_rfl
theorem slBes_is : ∃ e, Tryz.prog.underlying 34 = some (.slice e) := slT_of (by kernel_rfl)
theorem find_self {B : BdM} (h : B.WF) {y : Nat × EK} (hy : y ∈ B.l) : B.l.find? (fun z => decide (((z.1 : Nat) : Int) = ((y.1 : Nat) : Int))) = some y := by
 cases hf : B.l.find? (fun z => decide (((z.1 : Nat) : Int) = ((y.1 : Nat) : Int))) with
 | none =>
  have := List.find?_eq_none.1 hf y hy
  simp at this
 | some z =>
  have h1 := List.mem_of_find?_eq_some hf
  have h2 := List.find?_some hf
  have h2 := of_decide_eq_true h2
  have h2 : z.1 = y.1 := by omega
  rw [nd_num h h1 hy h2]
theorem wView {c : WC} {w0 : World} {fx : Nat → Prop} {w : World} {S : SM} {t : Nat} {B : BdM} (h : WdAt c w0 fx w S t B) (hle : B.l.length ≤ 64) :
  Meets Tryz.prog 9 #[.pointer (some ⟨c.bw, 0, none⟩)] w fun v w' => ∃ bl, BsAt w.heap.size w' v bl ∧ bl.map BeV.key = viewS S B ∧ Same w w' := by
 have hwf := h.wf
 have hnl : B.nums.length = B.l.length := by unfold BdM.nums; rw [List.length_map]
 refine f9_ok ?_
 unfold f9
 rw [keq_ptr_nil ptWor]
 refine kB_at ?_
 refine kIf_F rfl ?_
 unfold f9_0
 refine kN_at ?_
 refine kfld_of ?_
 refine kld_of (v := .pointer (some ⟨c.bb, 0, none⟩)) h.here rfl ?_
 obtain ⟨o, p, U, C, hb, hU, hfx⟩ := id h.A
 refine kcall_of (bdList hb) ?_
 rintro v w6 ⟨hO6, hk6, h6⟩
 obtain ⟨an, nn, cn, rfl, hsn, _⟩ := hO6.is
 have hnn : nn = B.nums.length := by have h1 := hsn.1; rw [List.length_map] at h1; omega
 subst hnn
 have hz6 := h6.size
 refine klen_at ?_
 refine kL2_of B.nums.length (fun j x y wr => y = .int .i64 j ∧ ∃ bl, BsAt w6.heap.size wr x bl ∧ bl.map BeV.key = (viewS S B).take j ∧ Same w6 wr) ⟨lI2_0 ⟨rfl, [], ⟨Own.nil _ _, (fun b hb => by cases hb), (fun k hk => by obtain ⟨_, _, _, e⟩ := hk; cases e), (fun b hb => by cases hb), (fun b hb => by cases hb), List.Pairwise.nil⟩, rfl, Mod.refl _ _⟩, fun x y wr hx => ?_⟩
 obtain ⟨j, hj, ⟨rfl, bl, hB, hbk, hmr⟩, hJ⟩ := lI2_step hx
 unfold f9_1
 refine lss_at ?_
 refine kB_at ?_
 refine kIf_dec (fun hlt => ?_) (fun hge => ?_)
 ·have hlt : j < B.nums.length := by omega
  have hltl : j < B.l.length := by omega
  have hym := List.getElem_mem hltl
  have hnj : B.nums[j] = (((B.l[j]).1 : Nat) : Int) := by
   have hg : B.nums[j]? = some (((B.l[j]).1 : Nat) : Int) := by unfold BdM.nums; rw [List.getElem?_map, List.getElem?_eq_getElem hltl]; rfl
   rw [List.getElem?_eq_getElem hlt] at hg
   exact Option.some.inj hg
  have hvj : (viewS S B).take (j + 1) = (viewS S B).take j ++ [((B.l[j]).1, partsOf S (B.l[j]).2.i.toNat)] := by
   have hv : (viewS S B)[j]? = some ((B.l[j]).1, partsOf S (B.l[j]).2.i.toNat) := by unfold viewS; rw [List.getElem?_map, List.getElem?_eq_getElem hltl]; rfl
   rw [List.take_add_one, hv]; rfl
  have hff := find_self hwf hym
  have hmw := h6.trans hmr
  have hbll : bl.length = j := by
   have := congrArg List.length hbk
   rw [List.length_map, List.length_take, viewS_len] at this
   omega
  unfold f9_2
  refine kixld_of (F := Value.int .i64) (l := B.nums) (hsn.same hmr) hlt rfl ?_
  rw [hnj]
  generalize B.l[j] = y at *
  refine kcall_of (wParts_ok (h.loc hmw) hff) ?_
  rintro v w13 ⟨s, rfl, hOs, hsk, h13⟩
  refine kext_at rfl ?_
  refine kext_at rfl ?_
  rw [keq_nil_nil' ifErr]
  refine kB_at ?_
  refine kIf_F rfl ?_
  unfold f9_4
  obtain ⟨pa, pn, pc, rfl, hps, _⟩ := hOs.is
  have hfl := flat_len Part.cells 6 (fun _ => rfl) (partsOf S y.2.i.toNat)
  have hpn : pn = (partsOf S y.2.i.toNat).length := by have h1 := hps.1; omega
  subst hpn
  refine kbld_of (cs := (⟨y.1, pa, pc, partsOf S y.2.i.toNat⟩ : BeV).cells) rfl ?_
  refine kbldS_of (cs := (⟨y.1, pa, pc, partsOf S y.2.i.toNat⟩ : BeV).cells) rfl fun w21 h21 hs21 hb21 => ?_
  have hfb := flat_len BeV.cells 2 (fun _ => rfl) bl
  have hlc : ((⟨y.1, pa, pc, partsOf S y.2.i.toNat⟩ : BeV).cells.toArray.toList).length = 2 := rfl
  have m21 : Same wr w21 := h13.trans h21
  have hzr := hmr.size
  have hz13 := h13.size
  refine ksem_append apBes (by omega) (hB.own.same m21) (Src.ofSlIs (hk := slBes_is.choose_spec) 1 (SlIs.blk hb21 rfl) rfl) (by omega) (by omega) ?_
  intro x' w23 hO23 m23 hf23
  unfold f9_3
  refine add_at (by omega) (by omega) ?_
  rw [cast_succ]
  have hOs23 : Own w23 (.slice pa (partsOf S y.2.i.toNat).length pc) 6 ((partsOf S y.2.i.toNat).flatMap Part.cells) := (hOs.same h21).mod m23 fun k hk hx => by
   have h1 := hsk k hk
   have h2 := hB.own.vblk_lt hx
   omega
  have hxl : ∀ k, vblk x' k → (vblk x k ∨ w21.heap.size ≤ k) := hf23
  refine hJ _ _ _ hlt ⟨rfl, bl ++ [⟨y.1, pa, pc, partsOf S y.2.i.toNat⟩], ⟨?_, fun b hb => ?_, fun k hk => ?_, fun b hb k hk => ?_, fun b hb k hk hx => ?_, ?_⟩, ?_, Mod.after (hmr.trans m21) m23 fun k hk => hB.xlo k hk⟩
  ·rw [List.flatMap_append]; simpa using hO23
  ·rcases List.mem_append.1 hb with hb | hb
   ·exact ((hB.parts b hb).same m21).mod m23 fun k hk hx => hB.ne b hb k hk hx
   ·have : b = ⟨y.1, pa, pc, partsOf S y.2.i.toNat⟩ := by simpa using hb
    subst this; exact hOs23
  ·rcases hxl k hk with h | h
   ·exact hB.xlo k h
   ·omega
  ·rcases List.mem_append.1 hb with hb | hb
   ·exact hB.plo b hb k hk
   ·have : b = ⟨y.1, pa, pc, partsOf S y.2.i.toNat⟩ := by simpa using hb
    subst this
    have := hsk k hk; omega
  ·rcases List.mem_append.1 hb with hb | hb
   ·rcases hxl k hx with h | h
    ·exact hB.ne b hb k hk h
    ·have := (hB.parts b hb).vblk_lt hk; omega
   ·have : b = ⟨y.1, pa, pc, partsOf S y.2.i.toNat⟩ := by simpa using hb
    subst this
    rcases hxl k hx with h | h
    ·have h1 := hsk k hk; have h2 := hB.own.vblk_lt h; omega
    ·have h1 : k < w13.heap.size := hOs.vblk_lt hk
     omega
  ·rw [List.pairwise_append]
   refine ⟨hB.apart, List.pairwise_singleton _ _, fun b hb b' hb' k hk hk' => ?_⟩
   have : b' = ⟨y.1, pa, pc, partsOf S y.2.i.toNat⟩ := by simpa using hb'
   subst this
   have h1 := (hB.parts b hb).vblk_lt hk
   have h2 := hsk k hk'
   omega
  ·rw [List.map_append, hbk, hvj]; rfl
 ·have : j = B.nums.length := by omega
  subst this
  unfold f9_5
  rw [List.take_of_length_le (by rw [viewS_len]; omega)] at hbk
  exact ⟨bl, ⟨hB.own, hB.parts, fun k hk => by have := hB.xlo k hk; omega, fun b hb k hk => by have := hB.plo b hb k hk; omega, hB.ne, hB.apart⟩, hbk, h6.trans hmr⟩
end
section
attribute [local irreducible] kO kB kStr kInt kN kG kIf kfld kld kldN kst knew kmap kbld kbldS kext kcnv klenStr klen kcap kprt kprtN kbool kint kstr keq kun ksl kix kiv kta kmk kmm ksem ksemU kextf kcallV kcallM kcall kL
theorem kIf_ndec {p : Prop} [Decidable p] {X Y : Prop} (h1 : ¬ p → X) (h2 : p → Y) : kIf (!decide p) X Y :=
 kIf_of (fun h => h1 (by simpa using h)) (fun h => h2 (by simpa using h))
def rowAny (op : Int) : Value := .tuple #[.agg (rowC (rowF op)).toArray, .bool (decide (0 ≤ op ∧ op < 36))]
theorem codeAny {w : World} (hr : RowsAt w) (op : Int) : Meets Tryz.prog 89 #[.int .i64 op] w fun v w' => v = rowAny op ∧ Same w w' := by
 by_cases hin : 0 ≤ op ∧ op < 36
 ·obtain ⟨n, rfl⟩ : ∃ n : Nat, op = (n : Int) := ⟨op.toNat, by omega⟩
  refine (codeOf_spec hr n (by omega)).mono ?_
  rintro v w' ⟨rfl, h⟩
  refine ⟨?_, h⟩
  unfold rowAny
  rw [rowF_nat n (by omega), decide_eq_true hin]
 ·refine f89_ok ?_
  unfold f89
  refine knew_of fun w2 h2 hs2 hb2 => ?_
  unfold rowAny
  rw [rowF_no (by omega), decide_eq_false hin]
  have hz : ∀ Q : PQ, (∀ w', Same w w' → Q (.tuple #[.agg (rowC ([], 0, 0, 0)).toArray, .bool false]) w') → f89_0 (.int .i64 op) (.pointer (some ⟨w.heap.size, 0, none⟩)) (.bool true) Q w2 := fun Q hQ => by
   unfold f89_0
   refine kB_at ?_
   refine kIf_T rfl ?_
   refine kbld_of (cs := rowC ([], 0, 0, 0)) rfl ?_
   refine kst_of (vs := rowC ([], 0, 0, 0)) hb2 rfl rfl rfl (by simp) (by simp [rowC]) fun w7 h7 hs7 hb7 => ?_
   have hb7 : blk w7 w.heap.size = some (.cells (rowC ([], 0, 0, 0)).toArray 178) := hb7
   refine kldN_at (cs := rowC ([], 0, 0, 0)) hb7 rfl (by omega) ?_
   exact hQ _ (Mod.after h2 h7 (fun b hb => by omega))
  refine lss_at ?_
  refine kB_at ?_
  refine kIf_ndec (fun h0 => ?_) (fun h0 => ?_)
  ·refine geq_at ?_
   rw [decide_eq_true (by omega)]
   exact hz _ fun w' h => ⟨rfl, h⟩
  ·exact hz _ fun w' h => ⟨rfl, h⟩
theorem movesA {w : World} (hr : RowsAt w) (op : Int) : Meets Tryz.prog 45 #[.int .i64 op] w fun v w' => v = .tuple #[.int .i64 (rowF op).2.2.1, .int .i64 (rowF op).2.2.2] ∧ Same w w' := by
 refine f45_ok ?_
 unfold f45
 refine kcall_of (codeAny hr op) ?_
 rintro v w2 ⟨rfl, h2⟩
 unfold rowAny
 generalize rowF op = r
 repeat (first | refine kN_at ?_ | refine kB_at ?_ | refine kfld_of ?_ | refine kext_at rfl ?_ | refine kG_of (by first | exact rfl | omega) ?_ | refine klen_at ?_ | refine eql_at ?_ | refine neq_at ?_ | refine lss_at ?_ | refine leq_at ?_ | refine gtr_at ?_ | refine geq_at ?_ | refine add_at (by omega) (by omega) ?_ | refine sub_at (by omega) (by omega) ?_ | refine not_at ?_ | refine kO_at ?_ | refine kprt_at rfl ?_ | refine kprtN_at rfl ?_ | refine kcap_at ?_ | refine klenStr_at ?_ | refine kN_iat ?_ | refine kN_fat ?_ | refine kIf_T (by first | exact rfl | exact decT (by omega) | exact notT (decF (by omega))) ?_ | refine kIf_F (by first | exact rfl | exact decF (by omega) | exact notF (decT (by omega))) ?_)
 refine knew_of fun w6 h6 hs6 hb6 => ?_
 refine kst_of (vs := rowC r) hb6 rfl rfl rfl (by simp) (by simp [rowC]) fun w7 h7 hs7 hb7 => ?_
 have hb7 : blk w7.drew w2.heap.size = some (.cells (rowC r).toArray 178) := hb7
 have m7 : Same w w7.drew := (h2.trans (Mod.after h6 h7 (fun b hb => by omega))).drew
 generalize w7.drew = wd at *
 repeat (first | refine kN_at ?_ | refine kB_at ?_ | refine kfld_of ?_ | refine kext_at rfl ?_ | refine kld_at hb7 rfl ?_ | refine kldN_at hb7 rfl (by omega) ?_ | refine kG_of (by first | exact rfl | omega) ?_ | refine klen_at ?_ | refine eql_at ?_ | refine neq_at ?_ | refine lss_at ?_ | refine leq_at ?_ | refine gtr_at ?_ | refine geq_at ?_ | refine add_at (by omega) (by omega) ?_ | refine sub_at (by omega) (by omega) ?_ | refine not_at ?_ | refine kO_at ?_ | refine kprt_at rfl ?_ | refine kprtN_at rfl ?_ | refine kcap_at ?_ | refine klenStr_at ?_ | refine kN_iat ?_ | refine kN_fat ?_ | refine kIf_T (by first | exact rfl | exact decT (by omega) | exact notT (decF (by omega))) ?_ | refine kIf_F (by first | exact rfl | exact decF (by omega) | exact notF (decT (by omega))) ?_)
 exact ⟨rfl, m7⟩
theorem nameA {w : World} (hr : RowsAt w) (op : Int) : Meets Tryz.prog 88 #[.int .i64 op] w fun v w' => v = .string (tx (rowF op).1) ∧ Same w w' := by
 refine f88_ok ?_
 unfold f88
 refine kcall_of (codeAny hr op) ?_
 rintro v w2 ⟨rfl, h2⟩
 unfold rowAny
 generalize rowF op = r
 repeat (first | refine kN_at ?_ | refine kB_at ?_ | refine kfld_of ?_ | refine kext_at rfl ?_ | refine kG_of (by first | exact rfl | omega) ?_ | refine klen_at ?_ | refine eql_at ?_ | refine neq_at ?_ | refine lss_at ?_ | refine leq_at ?_ | refine gtr_at ?_ | refine geq_at ?_ | refine add_at (by omega) (by omega) ?_ | refine sub_at (by omega) (by omega) ?_ | refine not_at ?_ | refine kO_at ?_ | refine kprt_at rfl ?_ | refine kprtN_at rfl ?_ | refine kcap_at ?_ | refine klenStr_at ?_ | refine kN_iat ?_ | refine kN_fat ?_ | refine kIf_T (by first | exact rfl | exact decT (by omega) | exact notT (decF (by omega))) ?_ | refine kIf_F (by first | exact rfl | exact decF (by omega) | exact notF (decT (by omega))) ?_)
 refine knew_of fun w6 h6 hs6 hb6 => ?_
 refine kst_of (vs := rowC r) hb6 rfl rfl rfl (by simp) (by simp [rowC]) fun w7 h7 hs7 hb7 => ?_
 have hb7 : blk w7 w2.heap.size = some (.cells (rowC r).toArray 178) := hb7
 repeat (first | refine kN_at ?_ | refine kB_at ?_ | refine kfld_of ?_ | refine kext_at rfl ?_ | refine kld_at hb7 rfl ?_ | refine kldN_at hb7 rfl (by omega) ?_ | refine kG_of (by first | exact rfl | omega) ?_ | refine klen_at ?_ | refine eql_at ?_ | refine neq_at ?_ | refine lss_at ?_ | refine leq_at ?_ | refine gtr_at ?_ | refine geq_at ?_ | refine add_at (by omega) (by omega) ?_ | refine sub_at (by omega) (by omega) ?_ | refine not_at ?_ | refine kO_at ?_ | refine kprt_at rfl ?_ | refine kprtN_at rfl ?_ | refine kcap_at ?_ | refine klenStr_at ?_ | refine kN_iat ?_ | refine kN_fat ?_ | refine kIf_T (by first | exact rfl | exact decT (by omega) | exact notT (decF (by omega))) ?_ | refine kIf_F (by first | exact rfl | exact decF (by omega) | exact notF (decT (by omega))) ?_)
 exact ⟨rfl, h2.trans (Mod.after h6 h7 (fun b hb => by omega))⟩
theorem jumpsA {w : World} (hr : RowsAt w) (op : Int) : Meets Tryz.prog 87 #[.int .i64 op] w fun v w' => (∃ j : Bool, v = .tuple #[.bool (decide (op = 20 ∨ op = 21)), .bool j]) ∧ Same w w' := by
 refine f87_ok ?_
 unfold f87
 refine kcall_of (codeAny hr op) ?_
 rintro v w2 ⟨rfl, h2⟩
 unfold rowAny
 generalize rowF op = r
 repeat (first | refine kN_at ?_ | refine kB_at ?_ | refine kfld_of ?_ | refine kext_at rfl ?_ | refine kG_of (by first | exact rfl | omega) ?_ | refine klen_at ?_ | refine eql_at ?_ | refine neq_at ?_ | refine lss_at ?_ | refine leq_at ?_ | refine gtr_at ?_ | refine geq_at ?_ | refine add_at (by omega) (by omega) ?_ | refine sub_at (by omega) (by omega) ?_ | refine not_at ?_ | refine kO_at ?_ | refine kprt_at rfl ?_ | refine kprtN_at rfl ?_ | refine kcap_at ?_ | refine klenStr_at ?_ | refine kN_iat ?_ | refine kN_fat ?_ | refine kIf_T (by first | exact rfl | exact decT (by omega) | exact notT (decF (by omega))) ?_ | refine kIf_F (by first | exact rfl | exact decF (by omega) | exact notF (decT (by omega))) ?_)
 refine knew_of fun w6 h6 hs6 hb6 => ?_
 refine kst_of (vs := rowC r) hb6 rfl rfl rfl (by simp) (by simp [rowC]) fun w7 h7 hs7 hb7 => ?_
 have m7 : Same w w7 := h2.trans (Mod.after h6 h7 (fun b hb => by omega))
 refine eql_at ?_
 refine kB_at ?_
 refine kIf_dec (fun h => ?_) (fun h35 => ?_)
 ·unfold f87_0
  exact ⟨⟨false, by rw [decide_eq_false (by omega)]⟩, m7⟩
 unfold f87_1
 refine eql_at ?_
 refine kB_at ?_
 refine kIf_dec (fun h => ?_) (fun h20 => ?_)
 ·unfold f87_2
  exact ⟨⟨false, by rw [decide_eq_true (by omega)]⟩, m7⟩
 unfold f87_3
 refine eql_at ?_
 refine kB_at ?_
 refine kIf_dec (fun h => ?_) (fun h21 => ?_)
 ·unfold f87_4 f87_5 f87_6
  exact ⟨⟨decide (0 ≤ op ∧ op < 36), by rw [decide_eq_true (show op = 20 ∨ op = 21 by omega)]⟩, m7⟩
 ·unfold f87_5 f87_6
  exact ⟨⟨decide (0 ≤ op ∧ op < 36), by rw [decide_eq_false (show ¬ (op = 20 ∨ op = 21) by omega)]⟩, m7⟩
theorem apNum : appT Tryz.prog 55 1 8 = true := by kernel_rfl
theorem slIns : isSlT Tryz.prog 27 = true := by kernel_rfl
theorem apIns : appT Tryz.prog 27 3 24 = true := by kernel_rfl
theorem ptMill : isPtrT Tryz.prog 50 = true := by kernel_rfl
structure HC where
 wp : Option Addr
 op : Option Addr
 i0 : Int
 i1 : Int
 who : Int
def HC.cells (h : HC) : List Value := [.pointer h.wp, .pointer h.op, .int .i64 h.i0, .int .i64 h.i1, .int .i64 h.who]
def millC (h : HC) (la : Option Addr) (n lc : Nat) (place : Nat) (sv : Value) (fuel : Nat) (over : Bool) : Array Value :=
 #[.pointer h.wp, .pointer h.op, .int .i64 h.i0, .int .i64 h.i1, .int .i64 h.who, .slice la n lc, natV place, sv, natV fuel, .bool over]
structure MlAt {σ : Type} (h : HC) (l : List IN) (bM : Nat) (E X : Nat → Prop) (w : World) (m : MS σ) : Prop where
 ex : ∃ la lc sv, blk w bM = some (.cells (millC h la l.length lc m.place sv m.fuel m.over) 111) ∧ SlIs w la l.length 3 (l.flatMap IN.cells) ∧ Own w sv 1 (m.st.map nV) ∧ (∀ k f, la = some ⟨k, f, none⟩ → (X k ∧ k ≠ bM ∧ ¬ vblk sv k) ∧ k < w.heap.size) ∧ ∀ k, vblk sv k → X k ∧ k ≠ bM ∧ ¬ E k
 own : X bM ∧ ¬ E bM
section
variable {σ : Type} {h : HC} {l : List IN} {bM : Nat} {E X : Nat → Prop} {w w' : World} {m : MS σ}
theorem MlAt.mod {fp : Nat → Prop} (hM : MlAt h l bM E X w m) (mm : Mod fp w w') (hf : ∀ k, X k → ¬ fp k) : MlAt h l bM E X w' m := by
 obtain ⟨⟨la, lc, sv, h1, h2, h3, h4, h5⟩, h6⟩ := hM
 exact ⟨⟨la, lc, sv, mm.get h1 (hf _ h6.1), h2.mod mm (fun k f e => hf k (h4 k f e).1.1), h3.mod mm (fun k hk => hf k (h5 k hk).1), fun k f e => ⟨(h4 k f e).1, Nat.lt_of_lt_of_le (h4 k f e).2 mm.size⟩, h5⟩, h6⟩
theorem MlAt.same (hM : MlAt h l bM E X w m) (mm : Same w w') : MlAt h l bM E X w' m := hM.mod mm fun _ _ h => h
theorem MlAt.weak {X' : Nat → Prop} (hM : MlAt h l bM E X w m) (hs : ∀ k, X k → X' k) : MlAt h l bM E X' w m := by
 obtain ⟨⟨la, lc, sv, h1, h2, h3, h4, h5⟩, h6⟩ := hM
 exact ⟨⟨la, lc, sv, h1, h2, h3, fun k f e => ⟨⟨hs k (h4 k f e).1.1, (h4 k f e).1.2⟩, (h4 k f e).2⟩, fun k hk => ⟨hs k (h5 k hk).1, (h5 k hk).2⟩⟩, hs _ h6.1, h6.2⟩
theorem MlAt.lt (hM : MlAt h l bM E X w m) : bM < w.heap.size := by
 obtain ⟨⟨la, lc, sv, h1, _⟩, _⟩ := hM
 exact lt_of_blk h1
theorem MlAt.hosts (hM : MlAt h l bM E X w m) (s : σ) : MlAt h l bM E X w (m.hosts s) := ⟨hM.ex, hM.own⟩
theorem MlAt.set (hM : MlAt h l bM E X w m) {m' : MS σ} (hst : m'.st = m.st) (mm : Mod (fun k => k = bM) w w')
  (hb : ∀ la lc sv, blk w bM = some (.cells (millC h la l.length lc m.place sv m.fuel m.over) 111) → blk w' bM = some (.cells (millC h la l.length lc m'.place sv m'.fuel m'.over) 111)) : MlAt h l bM E X w' m' := by
 obtain ⟨⟨la, lc, sv, h1, h2, h3, h4, h5⟩, h6⟩ := hM
 exact ⟨⟨la, lc, sv, hb la lc sv h1, h2.mod mm (fun k f e => (h4 k f e).1.2.1), by rw [hst]; exact h3.mod mm (fun k hk => (h5 k hk).2.1), fun k f e => ⟨(h4 k f e).1, Nat.lt_of_lt_of_le (h4 k f e).2 mm.size⟩, h5⟩, h6⟩
theorem mlOver (hM : MlAt h l bM E X w m) : Meets Tryz.prog 13 #[.pointer (some ⟨bM, 0, none⟩)] w fun v w' => v = .bool (overF l.length m) ∧ Same w w' := by
 obtain ⟨⟨la, lc, sv, hb, _⟩, _⟩ := hM
 refine f13_ok ?_
 unfold f13
 have hm : Same w w.drew := (Mod.refl _ w).drew
 have hb : blk w.drew bM = _ := hb
 generalize w.drew = wd at *
 rw [keq_ptr_nil ptMill]
 unfold overF
 refine kG_of rfl ?_
 refine kB_at ?_
 refine kIf_T rfl ?_
 refine kN_at ?_
 refine kfld_of ?_
 refine kld_at hb rfl ?_
 refine kG_of rfl ?_
 refine kB_at ?_
 refine kIf_of (fun ho => ?_) (fun ho => ?_)
 ·have ho : m.over = false := by simpa using ho
  repeat (first | refine kN_at ?_ | refine kB_at ?_ | refine kfld_of ?_ | refine kext_at rfl ?_ | refine kld_at hb rfl ?_ | refine kldN_at hb rfl (by omega) ?_ | refine kG_of (by first | exact rfl | omega) ?_ | refine klen_at ?_ | refine eql_at ?_ | refine neq_at ?_ | refine lss_at ?_ | refine leq_at ?_ | refine gtr_at ?_ | refine geq_at ?_ | refine add_at (by omega) (by omega) ?_ | refine sub_at (by omega) (by omega) ?_ | refine not_at ?_ | refine kO_at ?_ | refine kprt_at rfl ?_ | refine kprtN_at rfl ?_ | refine kcap_at ?_ | refine klenStr_at ?_ | refine kN_iat ?_ | refine kN_fat ?_ | refine kIf_T (by first | exact rfl | exact decT (by omega) | exact notT (decF (by omega))) ?_ | refine kIf_F (by first | exact rfl | exact decF (by omega) | exact notF (decT (by omega))) ?_)
  rw [ho, Bool.false_or]
  exact ⟨rfl, hm⟩
 ·have ho : m.over = true := by simpa using ho
  rw [ho, Bool.true_or]
  exact ⟨rfl, hm⟩
theorem mlFuel (hM : MlAt h l bM E X w m) : Meets Tryz.prog 15 #[.pointer (some ⟨bM, 0, none⟩)] w fun v w' => v = natV m.fuel ∧ w' = w := by
 obtain ⟨⟨la, lc, sv, hb, _⟩, _⟩ := hM
 refine f15_ok ?_
 unfold f15
 rw [keq_ptr_nil ptMill]
 repeat (first | refine kN_at ?_ | refine kB_at ?_ | refine kfld_of ?_ | refine kext_at rfl ?_ | refine kld_at hb rfl ?_ | refine kldN_at hb rfl (by omega) ?_ | refine kG_of (by first | exact rfl | omega) ?_ | refine klen_at ?_ | refine eql_at ?_ | refine neq_at ?_ | refine lss_at ?_ | refine leq_at ?_ | refine gtr_at ?_ | refine geq_at ?_ | refine add_at (by omega) (by omega) ?_ | refine sub_at (by omega) (by omega) ?_ | refine not_at ?_ | refine kO_at ?_ | refine kprt_at rfl ?_ | refine kprtN_at rfl ?_ | refine kcap_at ?_ | refine klenStr_at ?_ | refine kN_iat ?_ | refine kN_fat ?_ | refine kIf_T (by first | exact rfl | exact decT (by omega) | exact notT (decF (by omega))) ?_ | refine kIf_F (by first | exact rfl | exact decF (by omega) | exact notF (decT (by omega))) ?_)
 exact ⟨rfl, rfl⟩
theorem mlStack (hM : MlAt h l bM E X w m) (hn : m.st.length ≤ 1000) : Meets Tryz.prog 16 #[.pointer (some ⟨bM, 0, none⟩)] w fun v w' => Own w' v 1 (m.st.map nV) ∧ (∀ k, vblk v k → w.heap.size ≤ k) ∧ Same w w' := by
 obtain ⟨⟨la, lc, sv, hb, _, ho, _⟩, _⟩ := hM
 obtain ⟨a, n, c, rfl, hs, _⟩ := ho.is
 refine f16_ok ?_
 unfold f16
 rw [keq_ptr_nil ptMill]
 repeat (first | refine kN_at ?_ | refine kB_at ?_ | refine kfld_of ?_ | refine kext_at rfl ?_ | refine kld_at hb rfl ?_ | refine kldN_at hb rfl (by omega) ?_ | refine kG_of (by first | exact rfl | omega) ?_ | refine klen_at ?_ | refine eql_at ?_ | refine neq_at ?_ | refine lss_at ?_ | refine leq_at ?_ | refine gtr_at ?_ | refine geq_at ?_ | refine add_at (by omega) (by omega) ?_ | refine sub_at (by omega) (by omega) ?_ | refine not_at ?_ | refine kO_at ?_ | refine kprt_at rfl ?_ | refine kprtN_at rfl ?_ | refine kcap_at ?_ | refine klenStr_at ?_ | refine kN_iat ?_ | refine kN_fat ?_ | refine kIf_T (by first | exact rfl | exact decT (by omega) | exact notT (decF (by omega))) ?_ | refine kIf_F (by first | exact rfl | exact decF (by omega) | exact notF (decT (by omega))) ?_)
 refine kcall_of (cloneN_spec hs (by omega)) ?_
 rintro v w' ⟨h1, h2, h3⟩
 exact ⟨h1, h2, h3⟩
theorem mlLay (hM : MlAt h l bM E X w m) (hE : ∀ k, E k → k < w.heap.size) (ns : List Int) {a : Option Addr} {n c : Nat} (hs : SlIs w a n 1 (ns.map nV)) (h1 : m.st.length ≤ 1000) (h2 : ns.length ≤ 1000) :
  Meets Tryz.prog 91 #[.pointer (some ⟨bM, 0, none⟩), .slice a n c] w fun v w' => MlAt h l bM E (newB w w' X) w' (m.lays ns) ∧ Mod (fun k => X k ∧ ¬ E k) w w' := by
 have hbM := hM.lt
 obtain ⟨⟨la, lc, sv, hb, hl, ho, hla, hsv⟩, hX⟩ := hM
 refine f91_ok ?_
 unfold f91
 refine kN_at ?_
 refine kfld_of ?_
 refine kld_at hb rfl ?_
 refine ksem_append apNum (by omega) ho (Src.ofSlIs (hk := (slT_of (P := Tryz.prog) (t := 55) (by kernel_rfl)).choose_spec) c hs (ones_ints ns)) (by simp; omega) (by simp; omega) ?_
 intro v' w4 ho4 hm4 hf4
 have hb4 := hm4.get hb (fun e => (hsv _ e).2.1 rfl)
 have hnv : ¬ vblk v' bM := fun e => by
  rcases hf4 _ e with e | e
  ·exact (hsv _ e).2.1 rfl
  ·omega
 refine kN_at ?_
 refine kfld_of ?_
 obtain ⟨a', n', c', e', _⟩ := ho4.is
 subst e'
 refine kst_of (vs := [.slice a' n' c']) hb4 rfl rfl rfl (by simp [millC]) (by simp) fun w6 h6 hs6 hb6 => ?_
 have hm6 : Mod (fun k => k = bM ∨ vblk sv k) w w6 := (hm4.mono fun _ _ h => .inr h).trans (h6.mono fun _ _ h => .inl h)
 have hlt : ∀ k, vblk (.slice a' n' c') k → k < w6.heap.size := fun k hk => Nat.lt_of_lt_of_le (ho4.vblk_lt hk) h6.size
 refine ⟨⟨⟨la, lc, _, hb6, hl.mod hm6 ?_, ?_, ?_, ?_⟩, .inl hX.1, hX.2⟩, hm6.mono fun k _ hk => ?_⟩
 ·intro k f e hbad
  obtain ⟨⟨p1, p2, p3⟩, p4⟩ := hla k f e
  rcases hbad with hbad | hbad
  ·exact p2 hbad
  ·exact p3 hbad
 ·show Own w6 _ 1 ((m.st ++ ns).map nV)
  rw [List.map_append]
  exact ho4.mod h6 fun b hv e => hnv (e ▸ hv)
 ·intro k f e
  obtain ⟨⟨p1, p2, p3⟩, p4⟩ := hla k f e
  refine ⟨⟨.inl p1, p2, fun hv => ?_⟩, Nat.lt_of_lt_of_le p4 hm6.size⟩
  rcases hf4 _ hv with hv | hv
  ·exact p3 hv
  ·omega
 ·intro k hk
  have hk6 := hlt k hk
  refine ⟨?_, fun e => hnv (e ▸ hk), fun he => ?_⟩
  ·rcases hf4 _ hk with hv | hv
   ·exact .inl (hsv _ hv).1
   ·exact .inr ⟨hv, hk6⟩
  ·rcases hf4 _ hk with hv | hv
   ·exact (hsv _ hv).2.2 he
   ·have := hE k he; omega
 ·rcases hk with rfl | hk
  ·exact hX
  ·exact ⟨(hsv k hk).1, (hsv k hk).2.2⟩
end
end
section
attribute [local irreducible] kO kB kStr kInt kN kG kIf kfld kld kldN kst knew kmap kbld kbldS kext kcnv klenStr klen kcap kprt kprtN kbool kint kstr keq kun ksl kix kiv kta kmk kmm ksem ksemU kextf kcallV kcallM kcall kL
section
variable {σ : Type} {h : HC} {l : List IN} {bM : Nat} {E X : Nat → Prop} {w w' : World} {m : MS σ}
theorem mlTake (hM : MlAt h l bM E X w m) (k : Nat) (hk : k ≤ m.st.length) (h1 : m.st.length ≤ 1000) :
  Meets Tryz.prog 47 #[.pointer (some ⟨bM, 0, none⟩), .int .i64 k] w fun v w' => Own w' v 1 ((m.st.drop (m.st.length - k)).map nV) ∧ MlAt h l bM E X w' { m with st := m.st.take (m.st.length - k) } ∧ Mod (fun k => k = bM) w w' := by
 have hbM := hM.lt
 obtain ⟨⟨la, lc, sv, hb, hl, ho, hla, hsv⟩, hX⟩ := hM
 have ho' := ho
 obtain ⟨a, n, c, rfl, hlen, hnc, hc, hbk⟩ := ho'
 have hn : n = m.st.length := by simpa using hlen.symm
 subst hn
 refine f47_ok ?_
 unfold f47
 have hwr : ((m.st.length : Int) - (k : Int)) = ((m.st.length - k : Nat) : Int) := by omega
 repeat (first | refine kN_at ?_ | refine kB_at ?_ | refine kfld_of ?_ | refine kext_at rfl ?_ | refine kld_at hb rfl ?_ | refine kldN_at hb rfl (by omega) ?_ | refine kG_of (by first | exact rfl | omega) ?_ | refine klen_at ?_ | refine eql_at ?_ | refine neq_at ?_ | refine lss_at ?_ | refine leq_at ?_ | refine gtr_at ?_ | refine geq_at ?_ | refine add_at (by omega) (by omega) ?_ | refine sub_at (by omega) (by omega) ?_ | refine not_at ?_ | refine kO_at ?_ | refine kprt_at rfl ?_ | refine kprtN_at rfl ?_ | refine kcap_at ?_ | refine klenStr_at ?_ | refine kN_iat ?_ | refine kN_fat ?_ | refine kIf_T (by first | exact rfl | exact decT (by omega) | exact notT (decF (by omega))) ?_ | refine kIf_F (by first | exact rfl | exact decF (by omega) | exact notF (decT (by omega))) ?_)
 rw [hwr]
 repeat (first | refine kN_at ?_ | refine kB_at ?_ | refine kfld_of ?_ | refine kext_at rfl ?_ | refine kld_at hb rfl ?_ | refine kldN_at hb rfl (by omega) ?_ | refine kG_of (by first | exact rfl | omega) ?_ | refine klen_at ?_ | refine eql_at ?_ | refine neq_at ?_ | refine lss_at ?_ | refine leq_at ?_ | refine gtr_at ?_ | refine geq_at ?_ | refine add_at (by omega) (by omega) ?_ | refine sub_at (by omega) (by omega) ?_ | refine not_at ?_ | refine kO_at ?_ | refine kprt_at rfl ?_ | refine kprtN_at rfl ?_ | refine kcap_at ?_ | refine klenStr_at ?_ | refine kN_iat ?_ | refine kN_fat ?_ | refine kIf_T (by first | exact rfl | exact decT (by omega) | exact notT (decF (by omega))) ?_ | refine kIf_F (by first | exact rfl | exact decF (by omega) | exact notF (decT (by omega))) ?_)
 rw [ksl_slice rfl rfl]
 refine kG_of (by simp only [loV_int, hiV_none]; omega) ?_
 simp only [loV_int, hiV_none, Int.toNat_natCast, Nat.mul_one]
 have hsl : SlIs w (if c = m.st.length - k then a else a.map fun x => x.add (m.st.length - k)) (m.st.length - (m.st.length - k)) 1 ((m.st.drop (m.st.length - k)).map nV) := by
  refine ⟨by simp, ?_⟩
  by_cases h0 : k = 0
  ·left; omega
  ·right
   rcases hbk with ⟨_, hc0⟩ | ⟨b, arr, t, rfl, hbb, hsz, htk⟩
   ·omega
   ·rw [if_neg (by omega)]
    refine ⟨b, m.st.length - k, arr, t, _, by simp, hbb, ?_⟩
    rw [List.map_drop, ← htk, Nat.mul_one, Nat.mul_one, List.drop_take]
 refine kcall_of (cloneN_spec hsl (by simp; omega)) ?_
 rintro v w10 ⟨hov, hf10, h10⟩
 have hb10 := h10.get hb (fun h => h)
 repeat (first | refine kN_at ?_ | refine kB_at ?_ | refine kfld_of ?_ | refine kext_at rfl ?_ | refine kld_at hb10 rfl ?_ | refine kldN_at hb10 rfl (by omega) ?_ | refine kG_of (by first | exact rfl | omega) ?_ | refine klen_at ?_ | refine eql_at ?_ | refine neq_at ?_ | refine lss_at ?_ | refine leq_at ?_ | refine gtr_at ?_ | refine geq_at ?_ | refine add_at (by omega) (by omega) ?_ | refine sub_at (by omega) (by omega) ?_ | refine not_at ?_ | refine kO_at ?_ | refine kprt_at rfl ?_ | refine kprtN_at rfl ?_ | refine kcap_at ?_ | refine klenStr_at ?_ | refine kN_iat ?_ | refine kN_fat ?_ | refine kIf_T (by first | exact rfl | exact decT (by omega) | exact notT (decF (by omega))) ?_ | refine kIf_F (by first | exact rfl | exact decF (by omega) | exact notF (decT (by omega))) ?_)
 rw [ksl_slice rfl rfl]
 refine kG_of (by simp only [loV_none, hiV_int]; omega) ?_
 have e1 : (if c = (loV none).toNat then a else a.map fun x => x.add ((loV none).toNat * 1)) = a := by
  split
  ·rfl
  ·rcases hbk with ⟨rfl, _⟩ | ⟨b, arr, t, rfl, _⟩
   ·rfl
   ·simp
 have e2 : ((hiV m.st.length (some (Value.int .i64 ((m.st.length - k : Nat) : Int)))).toNat - (loV none).toNat) = m.st.length - k := by simp
 have e3 : c - (loV none).toNat = c := by simp
 rw [e1, e2, e3]
 repeat (first | refine kN_at ?_ | refine kB_at ?_ | refine kfld_of ?_ | refine kext_at rfl ?_ | refine kld_at hb10 rfl ?_ | refine kldN_at hb10 rfl (by omega) ?_ | refine kG_of (by first | exact rfl | omega) ?_ | refine klen_at ?_ | refine eql_at ?_ | refine neq_at ?_ | refine lss_at ?_ | refine leq_at ?_ | refine gtr_at ?_ | refine geq_at ?_ | refine add_at (by omega) (by omega) ?_ | refine sub_at (by omega) (by omega) ?_ | refine not_at ?_ | refine kO_at ?_ | refine kprt_at rfl ?_ | refine kprtN_at rfl ?_ | refine kcap_at ?_ | refine klenStr_at ?_ | refine kN_iat ?_ | refine kN_fat ?_ | refine kIf_T (by first | exact rfl | exact decT (by omega) | exact notT (decF (by omega))) ?_ | refine kIf_F (by first | exact rfl | exact decF (by omega) | exact notF (decT (by omega))) ?_)
 refine kst_of (vs := [.slice a (m.st.length - k) c]) hb10 rfl rfl rfl (by simp [millC]) (by simp) fun w15 h15 hs15 hb15 => ?_
 have hm15 : Mod (fun k => k = bM) w w15 := (Mod.of_same h10).trans h15
 have hvb : ∀ b, vblk (.slice a (m.st.length - k) c) b → vblk (.slice a m.st.length c) b := by
  rintro b ⟨o, n', c', e⟩
  cases e
  exact ⟨_, _, _, rfl⟩
 refine ⟨hov.mod h15 (fun b hv e => ?_), ⟨⟨la, lc, _, hb15, hl.mod hm15 (fun k f e => (hla k f e).1.2.1), ?_, fun k f e => ?_, fun k hk => hsv k (hvb k hk)⟩, hX⟩, hm15⟩
 ·have := hf10 b hv; omega
 ·show Own w15 _ 1 ((m.st.take _).map nV)
  rw [List.map_take]
  exact (by have := Own.cutN (sz := 1) ho (k := m.st.length - k) (by omega); rwa [Nat.mul_one] at this : Own w _ 1 _).mod hm15 fun b hv e => (hsv b (hvb b hv)).2.1 e
 ·obtain ⟨⟨p1, p2, p3⟩, p4⟩ := hla k f e
  exact ⟨⟨p1, p2, fun hv => p3 (hvb _ hv)⟩, Nat.lt_of_lt_of_le p4 hm15.size⟩
theorem mlCheck {p : Nat → Prop} {Sa : Nat → Addr} (hL : LaidP p Sa w) (hr : RowsAt w) (k12 : p 12) (k13 : p 13) (k14 : p 14) (k15 : p 15) (hM : MlAt h l bM E X w m) (hl : l.length ≤ 1000000) (hst : m.st.length ≤ 1000) (x : IN) :
  Meets Tryz.prog 44 #[.pointer (some ⟨bM, 0, none⟩), .agg x.cells.toArray] w fun v w' => v = (if chkF l.length m x = 0 then .nilIface else errV Sa (chkF l.length m x)) ∧ Same w w' := by
 obtain ⟨⟨la, lc, sv, hb, _, ho, _⟩, _⟩ := hM
 obtain ⟨a, n, c, rfl, hs, hn⟩ := ho.is
 have hn : n = m.st.length := by simpa using hn rfl
 subst hn
 obtain ⟨r1, r2, r3, r4⟩ := rowF_bnd x.op
 have htx := tx_ne x.op
 refine f44_ok ?_
 unfold f44
 refine knew_of fun w2 h2 hs2 hb2 => ?_
 have hb2 : blk w2 w.heap.size = some (.cells x.cells.toArray 88) := hb2
 refine kfld_of ?_
 refine kld_of (v := .int .i64 x.op) hb2 rfl ?_
 refine kcall_of (movesA (hr.same h2) x.op) ?_
 rintro v w6 ⟨rfl, h6⟩
 have m6 := h2.trans h6
 refine kext_at rfl ?_
 refine kext_at rfl ?_
 refine kfld_of ?_
 refine kld_of (v := .int .i64 x.op) (h6.get hb2 (fun h => h)) rfl ?_
 refine kcall_of (jumpsA (hr.same m6) x.op) ?_
 rintro v w12 ⟨⟨j, rfl⟩, h12⟩
 have m12 := m6.trans h12
 have hx12 := (h6.trans h12).get hb2 (fun h => h)
 have hb12 := m12.get hb (fun h => h)
 generalize hch : chkF l.length m x = ch
 unfold chkF at hch
 refine kext_at rfl ?_
 refine kext_at rfl ?_
 refine kN_at ?_
 refine kfld_of ?_
 refine kld_at hb12 rfl ?_
 refine eql_at ?_
 refine kB_at ?_
 refine kIf_dec (fun hf => ?_) (fun hf => ?_)
 ·rw [if_pos (by omega)] at hch
  subst hch
  exact kld_err (hL.same m12) (k := 15) k15 rfl rfl ⟨rfl, m12⟩
 rw [if_neg (by omega)] at hch
 refine kfld_of ?_
 refine kld_of (v := .int .i64 x.op) hx12 rfl ?_
 refine kcall_of (nameA (hr.same m12) x.op) ?_
 rintro v w22 ⟨rfl, h22⟩
 have m22 := m12.trans h22
 have hx22 := h22.get hx12 (fun h => h)
 have hb22 := m22.get hb (fun h => h)
 refine kstr_eql_at ?_
 refine kB_at ?_
 refine kIf_dec (fun hf => ?_) (fun hno => ?_)
 ·rw [if_pos (htx.1 hf)] at hch
  subst hch
  exact kld_err (hL.same m22) (k := 14) k14 rfl rfl ⟨rfl, m22⟩
 rw [if_neg (fun e => hno (htx.2 e))] at hch
 generalize rowF x.op = r at *
 have tail : ∀ Q : PQ, (∀ w', Same w w' → Q (if ch = 0 then .nilIface else errV Sa ch) w') → (¬ ((m.st.length : Int) < r.2.2.1 ∨ (m.st.length : Int) - r.2.2.1 + r.2.2.2 > 16)) → f44_0 (.pointer (some ⟨bM, 0, none⟩)) (.pointer (some ⟨w.heap.size, 0, none⟩)) (.bool (decide (x.op = 20 ∨ x.op = 21))) (.bool false) Q w22 := by
  intro Q hQ hs2
  rw [if_neg hs2] at hch
  unfold f44_0
  refine kB_at ?_
  refine kIf_F rfl ?_
  refine kB_at ?_
  have hdw : Same w w22.drew := m22.drew
  have e13 : ∀ b : Bool, ∀ wz : World, Same w wz → (b = true → ch = 13) → (b = false → ch = 0) → f44_1 (.bool b) Q wz := by
   intro b wz mz h1 h2
   unfold f44_1
   refine kB_at ?_
   refine kIf_of (fun hb => ?_) (fun hb => ?_)
   ·have := hQ _ mz
    rw [h1 hb] at this
    exact kld_err (hL.same mz) (k := 13) k13 rfl rfl this
   ·unfold f44_2
    have := hQ _ mz
    rw [h2 hb] at this
    exact this
  refine kIf_dec (fun hj => ?_) (fun hj => ?_)
  ·have hxd : blk w22.drew w.heap.size = some (.cells x.cells.toArray 88) := hx22
   have hbd : blk w22.drew bM = _ := hb22
   generalize w22.drew = wd at *
   refine kfld_of ?_
   refine kld_of (v := .int .i64 x.a) hxd rfl ?_
   refine kG_of rfl ?_
   refine lss_at ?_
   refine kB_at ?_
   refine kIf_ndec (fun ha => ?_) (fun ha => ?_)
   ·refine kfld_of ?_
    refine kld_of (v := .int .i64 x.a) hxd rfl ?_
    refine kG_of rfl ?_
    refine kN_at ?_
    refine kfld_of ?_
    refine kld_at hbd rfl ?_
    refine kG_of rfl ?_
    refine klen_at ?_
    refine gtr_at ?_
    refine e13 _ _ hdw (fun hd => ?_) (fun hd => ?_)
    ·have hd := of_decide_eq_true hd
     rw [if_pos ⟨hj, .inr hd⟩] at hch; exact hch.symm
    ·have hd := of_decide_eq_false hd
     rw [if_neg (fun hh => hd (hh.2.resolve_left ha))] at hch; exact hch.symm
   ·refine e13 _ _ hdw (fun _ => ?_) (fun hd => Bool.noConfusion hd)
    rw [if_pos ⟨hj, .inl ha⟩] at hch; exact hch.symm
  ·refine e13 _ _ hdw (fun hd => Bool.noConfusion hd) (fun _ => ?_)
   rw [if_neg (fun hh => hj hh.1)] at hch; exact hch.symm
 have bad : ∀ Q : PQ, (∀ w', Same w w' → Q (if ch = 0 then .nilIface else errV Sa ch) w') → ((m.st.length : Int) < r.2.2.1 ∨ (m.st.length : Int) - r.2.2.1 + r.2.2.2 > 16) → f44_0 (.pointer (some ⟨bM, 0, none⟩)) (.pointer (some ⟨w.heap.size, 0, none⟩)) (.bool (decide (x.op = 20 ∨ x.op = 21))) (.bool true) Q w22 := by
  intro Q hQ hs2
  rw [if_pos hs2] at hch
  subst hch
  unfold f44_0
  refine kB_at ?_
  refine kIf_T rfl ?_
  exact kld_err (hL.same m22) (k := 12) k12 rfl rfl (hQ _ m22)
 refine kN_at ?_
 refine kfld_of ?_
 refine kld_at hb22 rfl ?_
 refine klen_at ?_
 refine lss_at ?_
 refine kB_at ?_
 refine kIf_ndec (fun h1 => ?_) (fun h1 => bad _ (fun w' h => ⟨rfl, h⟩) (.inl h1))
 refine kN_at ?_
 refine kfld_of ?_
 refine kld_at hb22 rfl ?_
 refine klen_at ?_
 refine sub_at (by omega) (by omega) ?_
 refine add_at (by omega) (by omega) ?_
 refine gtr_at ?_
 by_cases h2 : (m.st.length : Int) - r.2.2.1 + r.2.2.2 > 16
 ·rw [decide_eq_true h2]
  exact bad _ (fun w' h => ⟨rfl, h⟩) (.inr h2)
 ·rw [decide_eq_false h2]
  exact tail _ (fun w' h => ⟨rfl, h⟩) (fun hh => hh.elim h1 h2)
end
theorem rem64 (x : Int) : 0 ≤ (IntKind.u64.wrap x).tmod 64 := by
 have : 0 ≤ IntKind.u64.wrap x := by
  show 0 ≤ x % _
  exact Int.emod_nonneg _ (by decide)
 exact Int.tmod_nonneg _ this
theorem calcG_spec (op y x : Int) (w : World) :
  Meets Tryz.prog 95 #[.int .i64 op, .int .i64 y, .int .i64 x] w fun v w' => v = .int .i64 (calcG op y x) ∧ w' = w := by
 refine f95_ok ?_
 unfold f95
 unfold calcG
 refine eql_at ?_
 refine kB_at ?_
 refine kIf_dec (fun h => ?_) (fun h7 => ?_)
 ·rw [if_pos h]
  unfold f95_0
  rw [kun_neg]
  unfold f95_1
  rw [kint_add]; exact ⟨rfl, rfl⟩
 rw [if_neg h7]
 refine eql_at ?_
 refine kB_at ?_
 refine kIf_dec (fun h => ?_) (fun h6 => ?_)
 ·rw [if_pos h]
  unfold f95_1
  rw [kint_add]; exact ⟨rfl, rfl⟩
 rw [if_neg h6]
 refine eql_at ?_
 refine kB_at ?_
 refine kIf_dec (fun h => ?_) (fun h8 => ?_)
 ·rw [if_pos h]
  unfold f95_4
  rw [kint_mul]; exact ⟨rfl, rfl⟩
 rw [if_neg h8]
 refine eql_at ?_
 refine kB_at ?_
 refine kIf_dec (fun h => ?_) (fun h9 => ?_)
 ·rw [if_pos h]
  unfold f95_6
  refine kcall_of (quotient_spec y x w) ?_
  rintro v w' h
  exact h
 rw [if_neg h9]
 refine eql_at ?_
 refine kB_at ?_
 refine kIf_dec (fun h => ?_) (fun h10 => ?_)
 ·rw [if_pos h]
  unfold f95_8
  unfold modF
  refine eql_at ?_
  refine kB_at ?_
  refine kIf_dec (fun h0 => ?_) (fun h0 => ?_)
  ·rw [if_pos h0]; exact ⟨rfl, rfl⟩
  ·unfold f95_9
   rw [if_neg h0]
   refine kcall_of (quotient_spec y x w) ?_
   rintro v w' ⟨rfl, rfl⟩
   rw [kint_mul, kint_sub]; exact ⟨rfl, rfl⟩
 rw [if_neg h10]
 refine eql_at ?_
 refine kB_at ?_
 refine kIf_dec (fun h => ?_) (fun h12 => ?_)
 ·rw [if_pos h]
  unfold f95_11
  rw [kint_and]; exact ⟨rfl, rfl⟩
 rw [if_neg h12]
 refine eql_at ?_
 refine kB_at ?_
 refine kIf_dec (fun h => ?_) (fun h13 => ?_)
 ·rw [if_pos h]
  unfold f95_13
  rw [kint_or]; exact ⟨rfl, rfl⟩
 rw [if_neg h13]
 refine eql_at ?_
 refine kB_at ?_
 refine kIf_dec (fun h => ?_) (fun h14 => ?_)
 ·rw [if_pos h]
  unfold f95_15
  rw [kint_xor]; exact ⟨rfl, rfl⟩
 rw [if_neg h14]
 refine eql_at ?_
 refine kB_at ?_
 refine kIf_dec (fun h => ?_) (fun h15 => ?_)
 ·rw [if_pos h]
  unfold f95_17
  rw [kcnv_int, kint_rem]
  refine kG_of (by decide) ?_
  rw [kint_shl]
  exact kG_of (rem64 x) ⟨rfl, rfl⟩
 rw [if_neg h15]
 refine eql_at ?_
 refine kB_at ?_
 refine kIf_dec (fun h => ?_) (fun h16 => ?_)
 ·rw [if_pos h]
  unfold f95_19
  rw [kcnv_int, kint_rem]
  refine kG_of (by decide) ?_
  rw [kint_shr]
  exact kG_of (rem64 x) ⟨rfl, rfl⟩
 rw [if_neg h16]
 refine eql_at ?_
 refine kB_at ?_
 refine kIf_dec (fun h => ?_) (fun h17 => ?_)
 ·rw [if_pos h]
  unfold f95_21
  rw [kint_eql]
  refine kcall_of (flag_spec _ w) ?_
  rintro v w' h
  exact h
 rw [if_neg h17]
 unfold f95_22
 rw [kint_lss]
 refine kcall_of (flag_spec _ w) ?_
 rintro v w' h
 exact h
end
section
attribute [local irreducible] kO kB kStr kInt kN kG kIf kfld kld kldN kst knew kmap kbld kbldS kext kcnv klenStr klen kcap kprt kprtN kbool kint kstr keq kun ksl kix kiv kta kmk kmm ksem ksemU kextf kcallV kcallM kcall kL
def HAt (h : HC) (b : Nat) (w : World) : Prop := ∃ la n lc place sv fuel over, blk w b = some (.cells (millC h la n lc place sv fuel over) 111)
structure HostI {σ : Type} (H : HostM σ) (h : HC) (w0 : World) (ok : IN → Prop) (cost : σ → Nat) (I : (Nat → Prop) → World → σ → Prop) : Prop where
 base : ∀ {X w s}, I X w s → Same w0 w
 lt : ∀ {X w s}, I X w s → ∀ k, X k → w0.heap.size ≤ k ∧ k < w.heap.size
 loc : ∀ {X w w' s}, I X w s → Same w w' → I X w' s
 less : ∀ {X X' w s}, I X w s → (∀ k, X' k → X k) → I X' w s
 grow : ∀ {X fp w w' s}, I X w s → Mod fp w w' → (∀ k, fp k → X k) → I (newB w w' X) w' s
 rdo : ∀ s x, H.rd s x ≠ none → reads x.op
 rdi : ∀ s x, ok x → reads x.op → H.rd s x ≠ none
 read : ∀ {X w s b x}, I X w s → HAt h b w → ok x → Meets Tryz.prog 90 #[.pointer (some ⟨b, 0, none⟩), .agg x.cells.toArray] w fun v w' => v = .tuple #[nV ((H.rd s x).getD 0), .bool (H.rd s x).isSome] ∧ Same w w'
 write : ∀ {X w s b x top}, I X w s → HAt h b w → X b → ok x → (x.op = 23 ∨ x.op = 27 ∨ x.op = 31 ∨ x.op = 32 ∨ x.op = 33 ∨ x.op = 34) → cost s ≤ 5000 → I64 top →
  Meets Tryz.prog 94 #[.pointer (some ⟨b, 0, none⟩), .agg x.cells.toArray, nV top] w fun v w' => I X w' (H.wr s x top) ∧ Mod (fun k => w0.heap.size ≤ k ∧ ¬ X k) w w'
 draw : ∀ {X w s b x n}, I X w s → HAt h b w → X b → ok x → x.op = 28 → cost s ≤ 5000 → I64 n →
  Meets Tryz.prog 93 #[.pointer (some ⟨b, 0, none⟩), nV n] w fun v w' => v = nV (H.dr s n).2 ∧ I X w' (H.dr s n).1 ∧ Mod (fun k => w0.heap.size ≤ k ∧ ¬ X k) w w'
 rd64 : ∀ {X w s x v}, I X w s → ok x → H.rd s x = some v → I64 v
 dr64 : ∀ s n, I64 (H.dr s n).2
 costw : ∀ s x n, cost (H.wr s x n) ≤ cost s + 1
 costd : ∀ s n, cost (H.dr s n).1 ≤ cost s + 1
structure MI {σ : Type} (h : HC) (l : List IN) (bM : Nat) (E : Nat → Prop) (I : (Nat → Prop) → World → σ → Prop) (X : Nat → Prop) (w : World) (m : MS σ) : Prop where
 ml : MlAt h l bM E X w m
 hi : I X w m.h
 e : ∀ k, E k → X k
section
variable {σ : Type} {H : HostM σ} {h : HC} {w0 : World} {ok : IN → Prop} {cost : σ → Nat} {I : (Nat → Prop) → World → σ → Prop} {l : List IN} {bM : Nat} {E X : Nat → Prop} {w w' : World} {m : MS σ}
theorem MI.same (hh : HostI H h w0 ok cost I) (hM : MI h l bM E I X w m) (mm : Same w w') : MI h l bM E I X w' m := ⟨hM.ml.same mm, hh.loc hM.hi mm, hM.e⟩
theorem MI.hat (hM : MI h l bM E I X w m) : HAt h bM w := by
 obtain ⟨la, lc, sv, hb, _⟩ := hM.ml.ex
 exact ⟨_, _, _, _, _, _, _, hb⟩
theorem MI.put (hh : HostI H h w0 ok cost I) (hM : MI h l bM E I X w m) {m' : MS σ} (hs : m'.h = m.h) {fp : Nat → Prop} (mm : Mod fp w w') (hf : ∀ k, fp k → X k ∧ ¬ E k) (hm : MlAt h l bM E (newB w w' X) w' m') :
  (∃ X', MI h l bM E I X' w' m') ∧ Mod (fun k => w0.heap.size ≤ k ∧ ¬ E k) w w' :=
 ⟨⟨_, hm, by rw [hs]; exact hh.grow hM.hi mm fun k hk => (hf k hk).1, fun k hk => .inl (hM.e k hk)⟩, mm.mono fun k _ hk => ⟨(hh.lt hM.hi k (hf k hk).1).1, (hf k hk).2⟩⟩
theorem MI.act (hM : MI h l bM E I X w m) {s : σ} (hi : I X w' s) (mm : Mod (fun k => w0.heap.size ≤ k ∧ ¬ X k) w w') :
  MI h l bM E I X w' (m.hosts s) ∧ Mod (fun k => w0.heap.size ≤ k ∧ ¬ E k) w w' :=
 ⟨⟨(hM.ml.mod mm fun k hk hn => hn.2 hk).hosts s, hi, hM.e⟩, mm.mono fun k _ hk => ⟨hk.1, fun he => hk.2 (hM.e k he)⟩⟩
theorem mlLayI (hh : HostI H h w0 ok cost I) (hM : MI h l bM E I X w m) (ns : List Int) {a : Option Addr} {n c : Nat} (hs : SlIs w a n 1 (ns.map nV)) (h1 : m.st.length ≤ 16) (h2 : ns.length ≤ 3) :
  Meets Tryz.prog 91 #[.pointer (some ⟨bM, 0, none⟩), .slice a n c] w fun v w' => (∃ X', MI h l bM E I X' w' (m.lays ns)) ∧ Mod (fun k => w0.heap.size ≤ k ∧ ¬ E k) w w' :=
 (mlLay hM.ml (fun k hk => (hh.lt hM.hi k (hM.e k hk)).2) ns hs (by omega) (by omega)).mono fun v w' ⟨a1, a2⟩ => hM.put hh rfl a2 (fun k hk => hk) a1
theorem nthF_eq {ks : List Int} {i : Nat} (hi : i < ks.length) : ks[i] = nthF ks i := by
 unfold nthF
 rw [List.getD_eq_getElem?_getD, List.getElem?_eq_getElem hi]; rfl
def numL (l : List Int) : Prop := ∀ v ∈ l, I64 v
theorem I64_0 : I64 0 := by unfold I64; omega
theorem nthF64 {l : List Int} (h : numL l) (i : Nat) : I64 (nthF l i) := by
 by_cases hi : i < l.length
 ·rw [← nthF_eq hi]; exact h _ (List.getElem_mem hi)
 ·unfold nthF
  rw [List.getD_eq_getElem?_getD, List.getElem?_eq_none (by omega)]; exact I64_0
theorem kixn {w w' : World} {a : Option Addr} {ks : List Int} {c : Nat} {e : TypeId} {i : Nat} {K : Value → Prop} (hs : SlIs w a ks.length 1 (ks.map nV)) (hi : i < ks.length) (hw : w'.heap = w.heap) (hK : K (nV (nthF ks i))) :
  kix (some (.slice e)) (some 1) (.slice a ks.length c) (.int .i64 (i : Int)) fun v1 => kld v1 w' K :=
 kixld_of (F := nV) hs hi hw (by rw [nthF_eq hi]; exact hK)
def DoP (h : HC) (w0 : World) (l : List IN) (bM : Nat) (E : Nat → Prop) (I : (Nat → Prop) → World → σ → Prop) (w : World) (z : MS σ) (w' : World) : Prop :=
 (∃ X', MI h l bM E I X' w' z) ∧ Mod (fun k => w0.heap.size ≤ k ∧ ¬ E k) w w'
theorem DoP.from {w1 : World} {z : MS σ} (h1 : Mod (fun k => w0.heap.size ≤ k ∧ ¬ E k) w w1) (hd : DoP h w0 l bM E I w1 z w') : DoP h w0 l bM E I w z w' := ⟨hd.1, h1.trans hd.2⟩
theorem DoP.same {w1 : World} {z : MS σ} (h1 : Same w w1) (hd : DoP h w0 l bM E I w1 z w') : DoP h w0 l bM E I w z w' := ⟨hd.1, (Mod.of_same h1).trans hd.2⟩
theorem mlDo (hh : HostI H h w0 ok cost I) (hM : MI h l bM E I X w m) (x : IN) (hok : ok x) (hx : 0 ≤ x.op ∧ x.op < 36) (hj : (x.op = 20 ∨ x.op = 21) → 0 ≤ x.a) (hc : cost m.h ≤ 5000) (hst : m.st.length ≤ 16)
  {a : Option Addr} {c : Nat} {ks : List Int} (hs : SlIs w a ks.length 1 (ks.map nV)) (has : ks.length = takesF x.op) (hks : numL ks) :
  Meets Tryz.prog 46 #[.pointer (some ⟨bM, 0, none⟩), .agg x.cells.toArray, .slice a ks.length c] w fun v w' => DoP h w0 l bM E I w (doF H m x ks) w' := by
 refine f46_ok ?_
 unfold f46
 refine knew_of fun w2 h2 hs2 hb2 => ?_
 have hb2 : blk w2.drew w.heap.size = some (.cells x.cells.toArray 88) := hb2
 have m2 : Same w w2.drew := h2.drew
 generalize w2.drew = wd at *
 refine kN_at ?_
 refine kfld_of ?_
 refine kldN_at hb2 rfl (by omega) ?_
 refine kG_of rfl ?_
 have hM2 := hM.same hh m2
 refine kcall_of (hh.read hM2.hi hM2.hat hok) ?_
 rintro v w6 ⟨rfl, h6⟩
 have m6 := m2.trans h6
 have hb6 := h6.get hb2 (fun h => h)
 have hM6 := hM.same hh m6
 have hs6 := hs.same m6
 clear hM2
 cases hr : H.rd m.h x with
 | some v =>
  have e : doF H m x ks = m.lays [v] := by unfold doF; rw [hr]
  rw [e]
  refine kext_at rfl ?_
  refine kext_at rfl ?_
  refine kB_at ?_
  refine kIf_T rfl ?_
  refine kbldS_of (cs := [nV v]) rfl fun w10 h10 hs10 hb10 => ?_
  refine kcall_of (mlLayI hh (hM6.same hh h10) [v] (SlIs.blk hb10 rfl) hst (by simp)) ?_
  rintro v' w12 h12
  exact DoP.same (m6.trans h10) h12
 | none =>
  have e : doF H m x ks = doN H m x ks := by unfold doF; rw [hr]
  rw [e]
  refine kext_at rfl ?_
  refine kext_at rfl ?_
  refine kB_at ?_
  refine kIf_F rfl ?_
  unfold f46_0
  unfold doN
  have m6d : Same w w6.drew := m6.drew
  have hM6d := hM.same hh m6d
  have hb6d : blk w6.drew w.heap.size = some (.cells x.cells.toArray 88) := hb6
  have hs6d := hs.same m6d
  refine kfld_of ?_
  refine kld_of (v := .int .i64 x.op) hb6 rfl ?_
  refine eql_at ?_
  refine kB_at ?_
  refine kIf_dec (fun ho => ?_) (fun h2 => ?_)
  ·have ha : ks.length = 1 := by rw [has, ho]; rfl
   rw [if_pos ho]
   unfold f46_1
   refine kixn hs6 (i := 0) (by omega) rfl ?_
   refine kG_of rfl ?_
   refine kixn hs6 (i := 0) (by omega) rfl ?_
   refine kG_of rfl ?_
   refine kbldS_of (cs := [nV (nthF ks 0), nV (nthF ks 0)]) rfl fun w10 h10 hs10 hb10 => ?_
   refine kcall_of (mlLayI hh (hM6d.same hh h10) [nthF ks 0, nthF ks 0] (SlIs.blk hb10 rfl) hst (by simp)) ?_
   rintro v' w12 h12
   exact DoP.same (m6d.trans h10) h12
  rw [if_neg h2]
  unfold f46_2
  refine eql_at ?_
  refine kB_at ?_
  refine kIf_dec (fun ho => ?_) (fun h4 => ?_)
  ·have ha : ks.length = 2 := by rw [has, ho]; rfl
   rw [if_pos ho]
   unfold f46_3
   refine kixn hs6 (i := 1) (by omega) rfl ?_
   refine kG_of rfl ?_
   refine kixn hs6 (i := 0) (by omega) rfl ?_
   refine kG_of rfl ?_
   refine kbldS_of (cs := [nV (nthF ks 1), nV (nthF ks 0)]) rfl fun w10 h10 hs10 hb10 => ?_
   refine kcall_of (mlLayI hh (hM6d.same hh h10) [nthF ks 1, nthF ks 0] (SlIs.blk hb10 rfl) hst (by simp)) ?_
   rintro v' w12 h12
   exact DoP.same (m6d.trans h10) h12
  rw [if_neg h4]
  unfold f46_4
  refine eql_at ?_
  refine kB_at ?_
  refine kIf_dec (fun ho => ?_) (fun h5 => ?_)
  ·have ha : ks.length = 2 := by rw [has, ho]; rfl
   rw [if_pos ho]
   unfold f46_5
   refine kixn hs6 (i := 0) (by omega) rfl ?_
   refine kG_of rfl ?_
   refine kixn hs6 (i := 1) (by omega) rfl ?_
   refine kG_of rfl ?_
   refine kixn hs6 (i := 0) (by omega) rfl ?_
   refine kG_of rfl ?_
   refine kbldS_of (cs := [nV (nthF ks 0), nV (nthF ks 1), nV (nthF ks 0)]) rfl fun w10 h10 hs10 hb10 => ?_
   refine kcall_of (mlLayI hh (hM6d.same hh h10) [nthF ks 0, nthF ks 1, nthF ks 0] (SlIs.blk hb10 rfl) hst (by simp)) ?_
   rintro v' w12 h12
   exact DoP.same (m6d.trans h10) h12
  rw [if_neg h5]
  unfold f46_6
  refine eql_at ?_
  refine kB_at ?_
  refine kIf_dec (fun ho => ?_) (fun h11 => ?_)
  ·have ha : ks.length = 1 := by rw [has, ho]; rfl
   rw [if_pos ho]
   unfold f46_7
   refine kixn hs6 (i := 0) (by omega) rfl ?_
   unfold nV
   rw [kun_neg]
   refine kbldS_of (cs := [nV (IntKind.i64.wrap (0 - nthF ks 0))]) rfl fun w10 h10 hs10 hb10 => ?_
   refine kcall_of (mlLayI hh (hM6.same hh h10) [IntKind.i64.wrap (0 - nthF ks 0)] (SlIs.blk hb10 rfl) hst (by simp)) ?_
   rintro v' w12 h12
   exact DoP.same (m6.trans h10) h12
  rw [if_neg h11]
  unfold f46_8
  refine eql_at ?_
  refine kB_at ?_
  refine kIf_dec (fun ho => ?_) (fun h19 => ?_)
  ·have ha : ks.length = 1 := by rw [has, ho]; rfl
   rw [if_pos ho]
   unfold f46_9
   refine kixn hs6 (i := 0) (by omega) rfl ?_
   refine eql_at ?_
   refine kcall_of (flag_spec _ w6) ?_
   rintro v' w8 ⟨rfl, rfl⟩
   refine kbldS_of (cs := [nV (flagF (decide (nthF ks 0 = 0)))]) rfl fun w10 h10 hs10 hb10 => ?_
   refine kcall_of (mlLayI hh (hM6.same hh h10) [flagF (decide (nthF ks 0 = 0))] (SlIs.blk hb10 rfl) hst (by simp)) ?_
   rintro v' w12 h12
   exact DoP.same (m6.trans h10) h12
  rw [if_neg h19]
  unfold f46_10
  refine eql_at ?_
  refine kB_at ?_
  refine kIf_dec (fun ho => ?_) (fun h28 => ?_)
  ·have ha : ks.length = 1 := by rw [has, ho]; rfl
   rw [if_pos ho]
   unfold f46_11
   refine kixn hs6 (i := 0) (by omega) rfl ?_
   refine kcall_of (hh.draw (n := nthF ks 0) hM6.hi hM6.hat hM6.ml.own.1 hok ho hc (nthF64 hks 0)) ?_
   rintro v' w8 ⟨rfl, hi8, mm8⟩
   obtain ⟨hM8, mm8⟩ := hM6.act hi8 mm8
   refine kbldS_of (cs := [nV (H.dr m.h (nthF ks 0)).2]) rfl fun w10 h10 hs10 hb10 => ?_
   refine kcall_of (mlLayI hh (hM8.same hh h10) [(H.dr m.h (nthF ks 0)).2] (SlIs.blk hb10 rfl) hst (by simp)) ?_
   rintro v' w12 h12
   exact DoP.same m6 (DoP.from mm8 (DoP.same h10 h12))
  rw [if_neg h28]
  have none6 : DoP h w0 l bM E I w m w6 := DoP.same m6 ⟨⟨_, hM6⟩, Mod.refl _ _⟩
  unfold f46_12
  refine eql_at ?_
  refine kB_at ?_
  refine kIf_dec (fun ho => ?_) (fun h0 => ?_)
  ·rw [if_pos ho]
   unfold f46_13
   refine kB_at ?_
   refine kIf_T (decT ho) ?_
   exact none6
  rw [if_neg h0]
  refine eql_at ?_
  unfold f46_13
  refine kB_at ?_
  refine kIf_dec (fun ho => ?_) (fun h3 => ?_)
  ·rw [if_pos ho]
   exact none6
  rw [if_neg h3]
  unfold f46_14
  refine eql_at ?_
  refine kB_at ?_
  refine kIf_dec (fun ho => ?_) (fun h35 => ?_)
  ·rw [if_pos ho]
   unfold f46_15
   obtain ⟨la, lc, sv, hb, _⟩ := hM6.ml.ex
   refine kN_at ?_
   refine kfld_of ?_
   refine kst1_of hb rfl rfl (by simp [millC]) fun w7 h7 hs7 hb7 => ?_
   refine DoP.same m6 (hM6.put hh rfl h7 (fun k hk => hk ▸ hM6.ml.own) ((hM6.ml.set (m' := m.ends) rfl h7 fun la' lc' sv' e => ?_).weak fun k hk => .inl hk))
   rw [hb] at e
   cases e
   exact hb7
  rw [if_neg h35]
  have jmp : (x.op = 20 ∨ x.op = 21) → ∀ Q : PQ, (∀ w', DoP h w0 l bM E I w (m.goes x.a.toNat) w' → Q (.tuple #[]) w') → f46_18 (.pointer (some ⟨bM, 0, none⟩)) (.pointer (some ⟨w.heap.size, 0, none⟩)) Q w6 := by
   intro ho Q hQ
   unfold f46_18
   have ha := hj ho
   refine kfld_of ?_
   refine kld_of (v := .int .i64 x.a) hb6 rfl ?_
   obtain ⟨la, lc, sv, hb, _⟩ := hM6.ml.ex
   refine kN_at ?_
   refine kfld_of ?_
   refine kst1_of hb rfl rfl (by simp [millC]) fun w7 h7 hs7 hb7 => ?_
   refine hQ _ (DoP.same m6 (hM6.put hh rfl h7 (fun k hk => hk ▸ hM6.ml.own) ((hM6.ml.set (m' := m.goes x.a.toNat) rfl h7 fun la' lc' sv' e => ?_).weak fun k hk => .inl hk)))
   rw [hb] at e
   cases e
   rw [hb7]
   have : (.int .i64 x.a : Value) = natV x.a.toNat := by unfold natV; rw [Int.toNat_of_nonneg ha]
   rw [this]
   rfl
  unfold f46_16
  refine eql_at ?_
  refine kB_at ?_
  refine kIf_dec (fun ho => ?_) (fun h21 => ?_)
  ·have ha : ks.length = 1 := by rw [has, ho]; rfl
   rw [if_pos ho]
   unfold f46_17
   refine kixn hs6 (i := 0) (by omega) rfl ?_
   refine neq_at ?_
   refine kB_at ?_
   refine kIf_dec (fun hn => ?_) (fun hn => ?_)
   ·rw [if_pos hn]
    exact none6
   ·rw [if_neg hn]
    exact jmp (.inr ho) _ fun w' h => h
  rw [if_neg h21]
  unfold f46_19
  refine eql_at ?_
  refine kB_at ?_
  refine kIf_dec (fun ho => ?_) (fun h20 => ?_)
  ·rw [if_pos ho]
   exact jmp (.inl ho) _ fun w' h => h
  rw [if_neg h20]
  have wr : (x.op = 23 ∨ x.op = 27 ∨ x.op = 31 ∨ x.op = 32 ∨ x.op = 33 ∨ x.op = 34) → ∀ (top : Int), I64 top → ∀ (Q : PQ), (∀ w', DoP h w0 l bM E I w (m.hosts (H.wr m.h x top)) w' → Q (.tuple #[]) w') → kcall Tryz.prog 94 #[.pointer (some ⟨bM, 0, none⟩), .agg x.cells.toArray, nV top] w6.drew fun v w9 => Q (.tuple #[]) w9 := by
   intro ho top h64 Q hQ
   refine kcall_of (hh.write (top := top) hM6d.hi hM6d.hat hM6d.ml.own.1 hok ho hc h64) ?_
   rintro v' w8 ⟨hi8, mm8⟩
   obtain ⟨hM8, mm8⟩ := hM6d.act hi8 mm8
   exact hQ _ (DoP.same m6d (DoP.from mm8 ⟨⟨_, hM8⟩, Mod.refl _ _⟩))
  have wr1 : ks.length = 1 → (x.op = 23 ∨ x.op = 27 ∨ x.op = 31 ∨ x.op = 32 ∨ x.op = 33 ∨ x.op = 34) → ∀ (Q : PQ), (∀ w', DoP h w0 l bM E I w (m.hosts (H.wr m.h x (nthF ks 0))) w' → Q (.tuple #[]) w') → f46_22 (.pointer (some ⟨bM, 0, none⟩)) (.slice a ks.length c) (.pointer (some ⟨w.heap.size, 0, none⟩)) Q w6 := by
   intro ha ho Q hQ
   unfold f46_22
   refine kN_at ?_
   refine kfld_of ?_
   refine kldN_at hb6d rfl (by omega) ?_
   refine kG_of rfl ?_
   refine kixn hs6 (i := 0) (by omega) rfl ?_
   refine kG_of rfl ?_
   exact wr ho _ (nthF64 hks 0) Q hQ
  have wr0 : (x.op = 23 ∨ x.op = 27 ∨ x.op = 31 ∨ x.op = 32 ∨ x.op = 33 ∨ x.op = 34) → ∀ (Q : PQ), (∀ w', DoP h w0 l bM E I w (m.hosts (H.wr m.h x 0)) w' → Q (.tuple #[]) w') → f46_25 (.pointer (some ⟨bM, 0, none⟩)) (.pointer (some ⟨w.heap.size, 0, none⟩)) Q w6 := by
   intro ho Q hQ
   unfold f46_25
   refine kN_at ?_
   refine kfld_of ?_
   refine kldN_at hb6d rfl (by omega) ?_
   refine kG_of rfl ?_
   exact wr ho _ I64_0 Q hQ
  unfold f46_20
  refine eql_at ?_
  refine kB_at ?_
  refine kIf_dec (fun ho => ?_) (fun h23 => ?_)
  ·have ha : ks.length = 1 := by rw [has, ho]; rfl
   rw [if_pos ho, decide_eq_true ho]
   unfold f46_21
   refine kB_at ?_
   refine kIf_T rfl ?_
   exact wr1 ha (.inl ho) _ fun w' h => h
  rw [if_neg h23]
  refine eql_at ?_
  unfold f46_21
  refine kB_at ?_
  refine kIf_dec (fun ho => ?_) (fun h27 => ?_)
  ·have ha : ks.length = 1 := by rw [has, ho]; rfl
   rw [if_pos ho]
   exact wr1 ha (.inr (.inl ho)) _ fun w' h => h
  rw [if_neg h27]
  unfold f46_23
  refine eql_at ?_
  refine kB_at ?_
  refine kIf_dec (fun ho => ?_) (fun h31 => ?_)
  ·rw [if_pos ho, decide_eq_true ho]
   unfold f46_24
   refine kB_at ?_
   refine kIf_T rfl ?_
   exact wr0 (by omega) _ fun w' h => h
  rw [if_neg h31]
  refine eql_at ?_
  refine kB_at ?_
  refine kIf_dec (fun ho => ?_) (fun h32 => ?_)
  ·rw [if_pos ho, decide_eq_true ho]
   unfold f46_24
   refine kB_at ?_
   refine kIf_T rfl ?_
   exact wr0 (by omega) _ fun w' h => h
  rw [if_neg h32]
  refine eql_at ?_
  refine kB_at ?_
  refine kIf_dec (fun ho => ?_) (fun h33 => ?_)
  ·rw [if_pos ho, decide_eq_true ho]
   unfold f46_24
   refine kB_at ?_
   refine kIf_T rfl ?_
   exact wr0 (by omega) _ fun w' h => h
  rw [if_neg h33]
  refine eql_at ?_
  unfold f46_24
  refine kB_at ?_
  refine kIf_dec (fun ho => ?_) (fun h34 => ?_)
  ·rw [if_pos ho]
   exact wr0 (by omega) _ fun w' h => h
  rw [if_neg h34]
  have hrd : ¬ reads x.op := fun e => hh.rdi m.h x hok e hr
  have ha : ks.length = 2 := by
   obtain ⟨n, hn⟩ : ∃ n : Nat, x.op = (n : Int) := ⟨x.op.toNat, by omega⟩
   have h36 : n < 36 := by omega
   have hall : ∀ n : Nat, n < 36 → takesF n = 2 ∨ n = 0 ∨ n = 1 ∨ n = 2 ∨ n = 3 ∨ n = 11 ∨ 19 ≤ n := by decide
   rcases hall n h36 with hh | hh
   ·rw [has, hn]; exact hh
   ·unfold reads at hrd
    omega
  unfold f46_26
  refine kfld_of ?_
  refine kld_of (v := .int .i64 x.op) hb6d rfl ?_
  refine kG_of rfl ?_
  refine kixn hs6 (i := 0) (by omega) rfl ?_
  refine kG_of rfl ?_
  refine kixn hs6 (i := 1) (by omega) rfl ?_
  refine kG_of rfl ?_
  refine kcall_of (calcG_spec _ _ _ w6.drew) ?_
  rintro v' w8 ⟨rfl, rfl⟩
  refine kbldS_of (cs := [nV (calcG x.op (nthF ks 0) (nthF ks 1))]) rfl fun w10 h10 hs10 hb10 => ?_
  refine kcall_of (mlLayI hh (hM6d.same hh h10) [calcG x.op (nthF ks 0) (nthF ks 1)] (SlIs.blk hb10 rfl) hst (by simp)) ?_
  rintro v' w12 h12
  exact DoP.same (m6d.trans h10) h12
end
end
section
attribute [local irreducible] kO kB kStr kInt kN kG kIf kfld kld kldN kst knew kmap kbld kbldS kext kcnv klenStr klen kcap kprt kprtN kbool kint kstr keq kun ksl kix kiv kta kmk kmm ksem ksemU kextf kcallV kcallM kcall kL
theorem mlWrong {Sa : Nat → Addr} {k lo : Nat} {x : Value} {w : World} (h : ErrX Sa k lo x w) (hlo : lo ≤ w.heap.size) : Meets Tryz.prog 43 #[x] w fun v w' => ErrX Sa k lo v w' ∧ Same w w' := by
 refine f43_ok ?_
 unfold f43
 refine kcall_of (atX_spec _ h hlo) ?_
 rintro v w' ⟨h1, h2⟩
 exact ⟨h1, h2⟩
def ErrN (Sa : Nat → Addr) (k lo : Nat) (e : Value) (w : World) : Prop := if k = 0 then e = .nilIface else ErrX Sa k lo e w
theorem ErrN.mod {Sa : Nat → Addr} {k lo : Nat} {fp : Nat → Prop} {x : Value} {w w' : World} (h : ErrN Sa k lo x w) (hm : Mod fp w w') (hf : ∀ b, lo ≤ b → b < w.heap.size → ¬ fp b) : ErrN Sa k lo x w' := by
 unfold ErrN at *
 split at h
 ·rename_i hk; rw [if_pos hk]; exact h
 ·rename_i hk; rw [if_neg hk]; exact h.mod hm hf
theorem ErrN.same {Sa : Nat → Addr} {k lo : Nat} {x : Value} {w w' : World} (h : ErrN Sa k lo x w) (hm : Same w w') : ErrN Sa k lo x w' := h.mod hm fun _ _ _ h => h
theorem ErrN.mono {Sa : Nat → Addr} {k lo lo' : Nat} {x : Value} {w : World} (h : ErrN Sa k lo x w) (hlo : lo' ≤ lo) : ErrN Sa k lo' x w := by
 unfold ErrN at *
 split at h
 ·rename_i hk; rw [if_pos hk]; exact h
 ·rename_i hk; rw [if_neg hk]; exact h.mono hlo
theorem ErrN.zero {Sa : Nat → Addr} {lo : Nat} {w : World} : ErrN Sa 0 lo .nilIface w := by unfold ErrN; rw [if_pos rfl]
structure Tld (p : Nat → Prop) (Sa : Nat → Addr) (w0 : World) : Prop where
 hL : LaidP p Sa w0
 hr : RowsAt w0
 k12 : p 12
 k13 : p 13
 k14 : p 14
 k15 : p 15
section
variable {σ : Type} {H : HostM σ} {h : HC} {w0 : World} {ok : IN → Prop} {cost : σ → Nat} {I : (Nat → Prop) → World → σ → Prop} {l : List IN} {bM : Nat} {E X : Nat → Prop} {w w' : World} {m : MS σ} {p : Nat → Prop} {Sa : Nat → Addr}
theorem mlStep (ht : Tld p Sa w0) (hh : HostI H h w0 ok cost I) (hM : MI h l bM E I X w m) (hg : m.good l.length) (hl : l.length ≤ 1000000) (hok : ∀ x ∈ l, ok x) (hc : cost m.h ≤ 5000) (hnum : numL m.st) :
  Meets Tryz.prog 11 #[.pointer (some ⟨bM, 0, none⟩)] w fun v w' => (∃ e, v = .tuple #[.bool (stepF H l m).2.1, e] ∧ ErrN Sa (stepF H l m).2.2 w.heap.size e w') ∧ DoP h w0 l bM E I w (stepF H l m).1 w' := by
 have hb0 := hh.base hM.hi
 obtain ⟨hg1, hg2, hg3⟩ := hg
 have hbM := hM.ml.lt
 refine f11_ok ?_
 unfold f11
 rw [keq_ptr_nil ptMill]
 refine kB_at ?_
 refine kIf_F rfl ?_
 refine kcall_of (mlOver hM.ml) ?_
 rintro v w7 ⟨rfl, h7⟩
 refine kB_at ?_
 have h7d : Same w w7.drew := h7.drew
 refine kIf_of (fun ho => ?_) (fun ho => ?_)
 ·rw [stepF_over ho]
  exact ⟨⟨_, rfl, ErrN.zero⟩, DoP.same h7 ⟨⟨_, hM.same hh h7⟩, Mod.refl _ _⟩⟩
 unfold f11_0
 have hM7 := hM.same hh h7d
 generalize w7.drew = wd at *
 obtain ⟨la, lc, sv, hb, hli, ho', hla, hsv⟩ := hM7.ml.ex
 have hp : m.place < l.length := by
  unfold overF at ho
  rw [Bool.or_eq_false_iff] at ho
  have := of_decide_eq_false ho.2
  omega
 have ho : ¬ overF l.length m = true := by rw [ho]; decide
 have hx : l[m.place]? = some (l[m.place]) := List.getElem?_eq_getElem hp
 rw [stepF_at ho hx]
 have hxin : l[m.place] ∈ l := List.getElem_mem hp
 obtain ⟨b, o, cs, t, f, rfl, hbl, hle, hcs⟩ := hli.at hp (by omega)
 rw [flat_get IN.cells 3 (fun _ => rfl) l m.place hp] at hcs
 generalize l[m.place] = x at *
 refine kN_at ?_
 refine kfld_of ?_
 refine kld_at hb rfl ?_
 refine kG_of rfl ?_
 refine kN_at ?_
 refine kfld_of ?_
 refine kld_at hb rfl ?_
 refine kG_of rfl ?_
 unfold natV
 rw [kix_slice]
 refine kG_of (by omega) ?_
 rw [add_mk, Int.toNat_natCast]
 refine kldN_of (cs := x.cells) hbl (by omega) hcs (by omega) ?_
 refine kG_of rfl ?_
 refine knew_of fun w15 h15 hs15 hb15 => ?_
 have hb15' := h15.get hb (fun h => h)
 refine kG_of ?_ ?_
 ·refine kldN_of (cs := x.cells) (h15.get hbl (fun h => h)) (by omega) hcs (by omega) ?_
  exact ⟨rfl, rfl⟩
 refine kG_of ?_ ?_
 ·refine kld_at hb15' rfl ?_
  exact ⟨rfl, rfl⟩
 refine kG_of ?_ ?_
 ·refine kld_at hb15' rfl ?_
  exact ⟨rfl, rfl⟩
 refine kst_of (vs := x.cells) hb15 rfl rfl rfl (by simp) (by simp [IN.cells]) fun w16 h16 hs16 hb16 => ?_
 have hb16 : blk w16 wd.heap.size = some (.cells x.cells.toArray 88) := hb16
 have h16' : Same wd w16 := Mod.after h15 h16 (fun b hb => by omega)
 have m16 := h7d.trans h16'
 have hM16 := hM.same hh m16
 refine kldN_at hb16 rfl (by omega) ?_
 refine kcall_of (mlCheck (ht.hL.same (hb0.trans m16)) (ht.hr.same (hb0.trans m16)) ht.k12 ht.k13 ht.k14 ht.k15 hM16.ml hl (by omega) x) ?_
 rintro v w19 ⟨rfl, h19⟩
 have m19 := m16.trans h19
 have hM19 := hM.same hh m19
 have hb19 := h19.get hb16 (fun h => h)
 obtain ⟨la2, lc2, sv2, hc19, _⟩ := hM19.ml.ex
 by_cases hck : chkF l.length m x = 0
 ·rw [if_pos hck, if_neg (fun hn => hn hck), keq_nil_nil' ifErr]
  obtain ⟨c1, c2, c3, c4, c5⟩ := chkF_ok hck
  refine kB_at ?_
  refine kIf_F rfl ?_
  unfold f11_1
  refine kN_at ?_
  refine kfld_of ?_
  refine kld_at hc19 rfl ?_
  unfold natV
  refine sub_at (by omega) (by omega) ?_
  rw [show ((m.fuel : Int) - 1) = ((m.fuel - 1 : Nat) : Int) by omega]
  refine kN_at ?_
  refine kfld_of ?_
  refine kst1_of hc19 rfl rfl (by simp [millC]) fun w30 h30 hs30 hb30 => ?_
  have hb30 : blk w30 bM = some (.cells (millC h la2 l.length lc2 m.place sv2 (m.fuel - 1) m.over) 111) := hb30
  refine kN_at ?_
  refine kfld_of ?_
  refine kld_at hb30 rfl ?_
  unfold natV
  refine add_at (by omega) (by omega) ?_
  rw [show ((m.place : Int) + 1) = ((m.place + 1 : Nat) : Int) by omega]
  refine kN_at ?_
  refine kfld_of ?_
  refine kst1_of hb30 rfl rfl (by simp [millC]) fun w35 h35 hs35 hb35 => ?_
  have hb35 : blk w35 bM = some (.cells (millC h la2 l.length lc2 (m.place + 1) sv2 (m.fuel - 1) m.over) 111) := hb35
  have hm35 : Mod (fun k => k = bM) w19 w35 := h30.trans h35
  have hQ35 : MlAt h l bM E X w35 { m with fuel := m.fuel - 1, place := m.place + 1 } := hM19.ml.set rfl hm35 fun la' lc' sv' e => by rw [hc19] at e; cases e; exact hb35
  have hP35 := hM19.put hh (m' := { m with fuel := m.fuel - 1, place := m.place + 1 }) rfl hm35 (fun k hk => hk ▸ hM19.ml.own) (hQ35.weak fun k hk => Or.inl hk)
  obtain ⟨⟨X5, hM35⟩, hf35⟩ := hP35
  have hx35 := hm35.get hb19 (fun e => by have := m16.size; have := h7d.size; omega)
  have hb35s := hh.base hM35.hi
  refine kfld_of ?_
  refine kld_of (v := .int .i64 x.op) hx35 rfl ?_
  refine kcall_of (movesA (ht.hr.same hb35s) x.op) ?_
  rintro v w39 ⟨rfl, h39⟩
  refine kext_at rfl ?_
  refine kext_at rfl ?_
  have h39d : Same w35 w39.drew := h39.drew
  have hM39 := hM35.same hh h39d
  have hx39 := h39d.get hx35 (fun h => h)
  generalize w39.drew = wk at *
  refine kldN_at hx39 rfl (by omega) ?_
  refine kG_of rfl ?_
  obtain ⟨rb1, rb2, rb3, rb4⟩ := rowF_bnd x.op
  have etk : (rowF x.op).2.2.1 = ((takesF x.op : Nat) : Int) := by unfold takesF; omega
  rw [etk]
  refine kcall_of (mlTake hM39.ml (takesF x.op) c3 (by show m.st.length ≤ 1000; omega)) ?_
  rintro v w44 ⟨hov, hMl44, hm44⟩
  have hP44 := hM39.put hh (m' := preF m x) rfl hm44 (fun k hk => hk ▸ hM39.ml.own) (MlAt.weak (X' := newB wk w44 X5) hMl44 fun k hk => Or.inl hk)
  obtain ⟨⟨X6, hM44⟩, hf44⟩ := hP44
  refine kG_of ?_ ?_
  ·refine kldN_at (hm44.get hx39 (fun e => by have := m16.size; have := h7d.size; omega)) rfl (by omega) ?_
   exact ⟨rfl, rfl⟩
  obtain ⟨a, n, c, rfl, hs44, hn44⟩ := hov.is
  have hn44 : n = (m.st.drop (m.st.length - takesF x.op)).length := by simpa using hn44 rfl
  subst hn44
  refine kcall_of (mlDo hh hM44 x (hok x hxin) c2 (fun hj => (c5 hj).1) hc (by show (m.st.take _).length ≤ 16; rw [List.length_take]; omega) hs44 (by rw [List.length_drop]; omega) (fun v hv => hnum v (List.mem_of_mem_drop hv))) ?_
  rintro v w46 h46
  exact ⟨⟨_, rfl, ErrN.zero⟩, DoP.same m19 (DoP.from hf35 (DoP.same h39d (DoP.from hf44 h46)))⟩
 ·rw [if_neg hck, if_pos hck, errV, keq_if_nil' ifErr]
  refine kB_at ?_
  refine kIf_T rfl ?_
  refine kN_at ?_
  refine kfld_of ?_
  refine kst1_of hc19 rfl rfl (by simp [millC]) fun w23 h23 hs23 hb23 => ?_
  have hb23 : blk w23 bM = some (.cells (millC h la2 l.length lc2 m.place sv2 m.fuel true) 111) := hb23
  have hQ23 : MlAt h l bM E X w23 m.ends := hM19.ml.set rfl h23 fun la' lc' sv' e => by rw [hc19] at e; cases e; exact hb23
  have hP23 := hM19.put hh (m' := m.ends) rfl h23 (fun k hk => hk ▸ hM19.ml.own) (hQ23.weak fun k hk => Or.inl hk)
  obtain ⟨⟨X5, hM23⟩, hf23⟩ := hP23
  have hz : w.heap.size ≤ w23.heap.size := Nat.le_trans m19.size h23.size
  refine kcall_of (mlWrong (ErrX.sent Sa (chkF l.length m x) w.heap.size w23) hz) ?_
  rintro v w25 ⟨he, h25⟩
  exact ⟨⟨_, rfl, by unfold ErrN; rw [if_neg hck]; exact he⟩, DoP.same m19 (DoP.from hf23 ⟨⟨_, hM23.same hh h25⟩, Mod.of_same h25⟩)⟩
end
end
end Go.Proofs.YtmdcoaljjnbhlaaGreatDoor
