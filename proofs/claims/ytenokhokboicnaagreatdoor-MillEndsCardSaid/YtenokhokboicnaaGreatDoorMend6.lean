/-
Lemmas for the statements of this seat: no statement of the seat is proved in this part (6 of 7); the conditions stand in each theorem.
-/
import Derived.Test.YtenokhokboicnaaGreatDoorMend5
import Derived.Test.YtenokhokboicnaaGreatDoorProg
set_option linter.unusedSimpArgs false
set_option linter.unusedVariables false
set_option maxRecDepth 100000
namespace Go.Proofs.YtenokhokboicnaaGreatDoor
open Go Go.Ev
section
def f206 (x0 : Value) (Q : PQ) (w : World) : Prop :=
 kcall Tryz.prog 235 #[x0] w fun v1 w2 =>
 kcall Tryz.prog 234 #[v1] w2 fun v3 w4 =>
 kix (some (.array 20 369)) (some 1) (.pointer (some ⟨19, 0, none⟩)) v3 fun v5 =>
 kld v5 w4 fun v6 =>
 kint .u64 .geq x0 v6 fun v7 =>
 kcall Tryz.prog 236 #[v7] w4 fun v8 w9 =>
 kint .i64 .add v3 v8 fun v10 =>
 Q v10 w9
theorem f206_ok {x0 : Value} {Q : PQ} {w : World} (h : f206 x0 Q w) : Meets Tryz.prog 206 #[x0] w Q :=
 sound' (c := Tryz.f206.body.get rfl) [] Tryz.func206 rfl rfl (args := [x0]) rfl (by kernel_rfl) h
def f207_1 (x0 x1 x4 : Value) (J1 : Value → Value → World → Prop) (Q : PQ) (w : World) : Prop :=
 kint .u64 .rem x1 (.int .u64 100000000) fun v4 =>
 kcnv .u32 v4 fun v5 =>
 kint .u64 .quo x1 (.int .u64 100000000) fun v6 =>
 kint .u32 .quo v5 (.int .u32 10000) fun v7 =>
 kint .u32 .rem v5 (.int .u32 10000) fun v8 =>
 kint .u32 .quo v8 (.int .u32 100) fun v9 =>
 kint .u32 .mul v9 (.int .u32 2) fun v10 =>
 kint .u32 .rem v8 (.int .u32 100) fun v11 =>
 kint .u32 .mul v11 (.int .u32 2) fun v12 =>
 kint .u32 .quo v7 (.int .u32 100) fun v13 =>
 kint .u32 .mul v13 (.int .u32 2) fun v14 =>
 kint .u32 .rem v7 (.int .u32 100) fun v15 =>
 kint .u32 .mul v15 (.int .u32 2) fun v16 =>
 kint .i64 .sub x4 (.int .i64 1) fun v17 =>
 kint .i64 .sub x4 (.int .i64 2) fun v18 =>
 kint .u32 .add v12 (.int .u32 1) fun v19 =>
 kiv Tryz.prog (some .string) (.string ⟨#[48, 48, 48, 49, 48, 50, 48, 51, 48, 52, 48, 53, 48, 54, 48, 55, 48, 56, 48, 57, 49, 48, 49, 49, 49, 50, 49, 51, 49, 52, 49, 53, 49, 54, 49, 55, 49, 56, 49, 57, 50, 48, 50, 49, 50, 50, 50, 51, 50, 52, 50, 53, 50, 54, 50, 55, 50, 56, 50, 57, 51, 48, 51, 49, 51, 50, 51, 51, 51, 52, 51, 53, 51, 54, 51, 55, 51, 56, 51, 57, 52, 48, 52, 49, 52, 50, 52, 51, 52, 52, 52, 53, 52, 54, 52, 55, 52, 56, 52, 57, 53, 48, 53, 49, 53, 50, 53, 51, 53, 52, 53, 53, 53, 54, 53, 55, 53, 56, 53, 57, 54, 48, 54, 49, 54, 50, 54, 51, 54, 52, 54, 53, 54, 54, 54, 55, 54, 56, 54, 57, 55, 48, 55, 49, 55, 50, 55, 51, 55, 52, 55, 53, 55, 54, 55, 55, 55, 56, 55, 57, 56, 48, 56, 49, 56, 50, 56, 51, 56, 52, 56, 53, 56, 54, 56, 55, 56, 56, 56, 57, 57, 48, 57, 49, 57, 50, 57, 51, 57, 52, 57, 53, 57, 54, 57, 55, 57, 56, 57, 57]⟩) v19 fun v20 =>
 kiv Tryz.prog (some .string) (.string ⟨#[48, 48, 48, 49, 48, 50, 48, 51, 48, 52, 48, 53, 48, 54, 48, 55, 48, 56, 48, 57, 49, 48, 49, 49, 49, 50, 49, 51, 49, 52, 49, 53, 49, 54, 49, 55, 49, 56, 49, 57, 50, 48, 50, 49, 50, 50, 50, 51, 50, 52, 50, 53, 50, 54, 50, 55, 50, 56, 50, 57, 51, 48, 51, 49, 51, 50, 51, 51, 51, 52, 51, 53, 51, 54, 51, 55, 51, 56, 51, 57, 52, 48, 52, 49, 52, 50, 52, 51, 52, 52, 52, 53, 52, 54, 52, 55, 52, 56, 52, 57, 53, 48, 53, 49, 53, 50, 53, 51, 53, 52, 53, 53, 53, 54, 53, 55, 53, 56, 53, 57, 54, 48, 54, 49, 54, 50, 54, 51, 54, 52, 54, 53, 54, 54, 54, 55, 54, 56, 54, 57, 55, 48, 55, 49, 55, 50, 55, 51, 55, 52, 55, 53, 55, 54, 55, 55, 55, 56, 55, 57, 56, 48, 56, 49, 56, 50, 56, 51, 56, 52, 56, 53, 56, 54, 56, 55, 56, 56, 56, 57, 57, 48, 57, 49, 57, 50, 57, 51, 57, 52, 57, 53, 57, 54, 57, 55, 57, 56, 57, 57]⟩) v12 fun v21 =>
 kix (some (.slice 5)) (some 1) x0 v17 fun v22 =>
 kst 1 v22 v20 w.drew fun w23 =>
 kix (some (.slice 5)) (some 1) x0 v18 fun v24 =>
 kst 1 v24 v21 w23 fun w25 =>
 kint .i64 .sub x4 (.int .i64 3) fun v26 =>
 kint .i64 .sub x4 (.int .i64 4) fun v27 =>
 kint .u32 .add v10 (.int .u32 1) fun v28 =>
 kiv Tryz.prog (some .string) (.string ⟨#[48, 48, 48, 49, 48, 50, 48, 51, 48, 52, 48, 53, 48, 54, 48, 55, 48, 56, 48, 57, 49, 48, 49, 49, 49, 50, 49, 51, 49, 52, 49, 53, 49, 54, 49, 55, 49, 56, 49, 57, 50, 48, 50, 49, 50, 50, 50, 51, 50, 52, 50, 53, 50, 54, 50, 55, 50, 56, 50, 57, 51, 48, 51, 49, 51, 50, 51, 51, 51, 52, 51, 53, 51, 54, 51, 55, 51, 56, 51, 57, 52, 48, 52, 49, 52, 50, 52, 51, 52, 52, 52, 53, 52, 54, 52, 55, 52, 56, 52, 57, 53, 48, 53, 49, 53, 50, 53, 51, 53, 52, 53, 53, 53, 54, 53, 55, 53, 56, 53, 57, 54, 48, 54, 49, 54, 50, 54, 51, 54, 52, 54, 53, 54, 54, 54, 55, 54, 56, 54, 57, 55, 48, 55, 49, 55, 50, 55, 51, 55, 52, 55, 53, 55, 54, 55, 55, 55, 56, 55, 57, 56, 48, 56, 49, 56, 50, 56, 51, 56, 52, 56, 53, 56, 54, 56, 55, 56, 56, 56, 57, 57, 48, 57, 49, 57, 50, 57, 51, 57, 52, 57, 53, 57, 54, 57, 55, 57, 56, 57, 57]⟩) v28 fun v29 =>
 kiv Tryz.prog (some .string) (.string ⟨#[48, 48, 48, 49, 48, 50, 48, 51, 48, 52, 48, 53, 48, 54, 48, 55, 48, 56, 48, 57, 49, 48, 49, 49, 49, 50, 49, 51, 49, 52, 49, 53, 49, 54, 49, 55, 49, 56, 49, 57, 50, 48, 50, 49, 50, 50, 50, 51, 50, 52, 50, 53, 50, 54, 50, 55, 50, 56, 50, 57, 51, 48, 51, 49, 51, 50, 51, 51, 51, 52, 51, 53, 51, 54, 51, 55, 51, 56, 51, 57, 52, 48, 52, 49, 52, 50, 52, 51, 52, 52, 52, 53, 52, 54, 52, 55, 52, 56, 52, 57, 53, 48, 53, 49, 53, 50, 53, 51, 53, 52, 53, 53, 53, 54, 53, 55, 53, 56, 53, 57, 54, 48, 54, 49, 54, 50, 54, 51, 54, 52, 54, 53, 54, 54, 54, 55, 54, 56, 54, 57, 55, 48, 55, 49, 55, 50, 55, 51, 55, 52, 55, 53, 55, 54, 55, 55, 55, 56, 55, 57, 56, 48, 56, 49, 56, 50, 56, 51, 56, 52, 56, 53, 56, 54, 56, 55, 56, 56, 56, 57, 57, 48, 57, 49, 57, 50, 57, 51, 57, 52, 57, 53, 57, 54, 57, 55, 57, 56, 57, 57]⟩) v10 fun v30 =>
 kix (some (.slice 5)) (some 1) x0 v26 fun v31 =>
 kst 1 v31 v29 w25.drew fun w32 =>
 kix (some (.slice 5)) (some 1) x0 v27 fun v33 =>
 kst 1 v33 v30 w32 fun w34 =>
 kint .i64 .sub x4 (.int .i64 5) fun v35 =>
 kint .i64 .sub x4 (.int .i64 6) fun v36 =>
 kint .u32 .add v16 (.int .u32 1) fun v37 =>
 kiv Tryz.prog (some .string) (.string ⟨#[48, 48, 48, 49, 48, 50, 48, 51, 48, 52, 48, 53, 48, 54, 48, 55, 48, 56, 48, 57, 49, 48, 49, 49, 49, 50, 49, 51, 49, 52, 49, 53, 49, 54, 49, 55, 49, 56, 49, 57, 50, 48, 50, 49, 50, 50, 50, 51, 50, 52, 50, 53, 50, 54, 50, 55, 50, 56, 50, 57, 51, 48, 51, 49, 51, 50, 51, 51, 51, 52, 51, 53, 51, 54, 51, 55, 51, 56, 51, 57, 52, 48, 52, 49, 52, 50, 52, 51, 52, 52, 52, 53, 52, 54, 52, 55, 52, 56, 52, 57, 53, 48, 53, 49, 53, 50, 53, 51, 53, 52, 53, 53, 53, 54, 53, 55, 53, 56, 53, 57, 54, 48, 54, 49, 54, 50, 54, 51, 54, 52, 54, 53, 54, 54, 54, 55, 54, 56, 54, 57, 55, 48, 55, 49, 55, 50, 55, 51, 55, 52, 55, 53, 55, 54, 55, 55, 55, 56, 55, 57, 56, 48, 56, 49, 56, 50, 56, 51, 56, 52, 56, 53, 56, 54, 56, 55, 56, 56, 56, 57, 57, 48, 57, 49, 57, 50, 57, 51, 57, 52, 57, 53, 57, 54, 57, 55, 57, 56, 57, 57]⟩) v37 fun v38 =>
 kiv Tryz.prog (some .string) (.string ⟨#[48, 48, 48, 49, 48, 50, 48, 51, 48, 52, 48, 53, 48, 54, 48, 55, 48, 56, 48, 57, 49, 48, 49, 49, 49, 50, 49, 51, 49, 52, 49, 53, 49, 54, 49, 55, 49, 56, 49, 57, 50, 48, 50, 49, 50, 50, 50, 51, 50, 52, 50, 53, 50, 54, 50, 55, 50, 56, 50, 57, 51, 48, 51, 49, 51, 50, 51, 51, 51, 52, 51, 53, 51, 54, 51, 55, 51, 56, 51, 57, 52, 48, 52, 49, 52, 50, 52, 51, 52, 52, 52, 53, 52, 54, 52, 55, 52, 56, 52, 57, 53, 48, 53, 49, 53, 50, 53, 51, 53, 52, 53, 53, 53, 54, 53, 55, 53, 56, 53, 57, 54, 48, 54, 49, 54, 50, 54, 51, 54, 52, 54, 53, 54, 54, 54, 55, 54, 56, 54, 57, 55, 48, 55, 49, 55, 50, 55, 51, 55, 52, 55, 53, 55, 54, 55, 55, 55, 56, 55, 57, 56, 48, 56, 49, 56, 50, 56, 51, 56, 52, 56, 53, 56, 54, 56, 55, 56, 56, 56, 57, 57, 48, 57, 49, 57, 50, 57, 51, 57, 52, 57, 53, 57, 54, 57, 55, 57, 56, 57, 57]⟩) v16 fun v39 =>
 kix (some (.slice 5)) (some 1) x0 v35 fun v40 =>
 kst 1 v40 v38 w34.drew fun w41 =>
 kix (some (.slice 5)) (some 1) x0 v36 fun v42 =>
 kst 1 v42 v39 w41 fun w43 =>
 kint .i64 .sub x4 (.int .i64 7) fun v44 =>
 kint .i64 .sub x4 (.int .i64 8) fun v45 =>
 kint .u32 .add v14 (.int .u32 1) fun v46 =>
 kiv Tryz.prog (some .string) (.string ⟨#[48, 48, 48, 49, 48, 50, 48, 51, 48, 52, 48, 53, 48, 54, 48, 55, 48, 56, 48, 57, 49, 48, 49, 49, 49, 50, 49, 51, 49, 52, 49, 53, 49, 54, 49, 55, 49, 56, 49, 57, 50, 48, 50, 49, 50, 50, 50, 51, 50, 52, 50, 53, 50, 54, 50, 55, 50, 56, 50, 57, 51, 48, 51, 49, 51, 50, 51, 51, 51, 52, 51, 53, 51, 54, 51, 55, 51, 56, 51, 57, 52, 48, 52, 49, 52, 50, 52, 51, 52, 52, 52, 53, 52, 54, 52, 55, 52, 56, 52, 57, 53, 48, 53, 49, 53, 50, 53, 51, 53, 52, 53, 53, 53, 54, 53, 55, 53, 56, 53, 57, 54, 48, 54, 49, 54, 50, 54, 51, 54, 52, 54, 53, 54, 54, 54, 55, 54, 56, 54, 57, 55, 48, 55, 49, 55, 50, 55, 51, 55, 52, 55, 53, 55, 54, 55, 55, 55, 56, 55, 57, 56, 48, 56, 49, 56, 50, 56, 51, 56, 52, 56, 53, 56, 54, 56, 55, 56, 56, 56, 57, 57, 48, 57, 49, 57, 50, 57, 51, 57, 52, 57, 53, 57, 54, 57, 55, 57, 56, 57, 57]⟩) v46 fun v47 =>
 kiv Tryz.prog (some .string) (.string ⟨#[48, 48, 48, 49, 48, 50, 48, 51, 48, 52, 48, 53, 48, 54, 48, 55, 48, 56, 48, 57, 49, 48, 49, 49, 49, 50, 49, 51, 49, 52, 49, 53, 49, 54, 49, 55, 49, 56, 49, 57, 50, 48, 50, 49, 50, 50, 50, 51, 50, 52, 50, 53, 50, 54, 50, 55, 50, 56, 50, 57, 51, 48, 51, 49, 51, 50, 51, 51, 51, 52, 51, 53, 51, 54, 51, 55, 51, 56, 51, 57, 52, 48, 52, 49, 52, 50, 52, 51, 52, 52, 52, 53, 52, 54, 52, 55, 52, 56, 52, 57, 53, 48, 53, 49, 53, 50, 53, 51, 53, 52, 53, 53, 53, 54, 53, 55, 53, 56, 53, 57, 54, 48, 54, 49, 54, 50, 54, 51, 54, 52, 54, 53, 54, 54, 54, 55, 54, 56, 54, 57, 55, 48, 55, 49, 55, 50, 55, 51, 55, 52, 55, 53, 55, 54, 55, 55, 55, 56, 55, 57, 56, 48, 56, 49, 56, 50, 56, 51, 56, 52, 56, 53, 56, 54, 56, 55, 56, 56, 56, 57, 57, 48, 57, 49, 57, 50, 57, 51, 57, 52, 57, 53, 57, 54, 57, 55, 57, 56, 57, 57]⟩) v14 fun v48 =>
 kix (some (.slice 5)) (some 1) x0 v44 fun v49 =>
 kst 1 v49 v47 w43.drew fun w50 =>
 kix (some (.slice 5)) (some 1) x0 v45 fun v51 =>
 kst 1 v51 v48 w50 fun w52 =>
 kint .i64 .sub x4 (.int .i64 8) fun v53 =>
 J1 v6 v53 w52
def f207_4 (x0 x4 x12 : Value) (Q : PQ) (w : World) : Prop :=
 kint .i64 .gtr x4 (.int .i64 0) fun v95 =>
 kB v95 fun b100 => kIf b100
 (kint .u32 .add (.int .u32 48) x12 fun v96 =>
 kcnv .u8 v96 fun v97 =>
 kix (some (.slice 5)) (some 1) x0 (.int .i64 0) fun v98 =>
 kst 1 v98 v97 w fun w99 =>
 Q (.tuple #[]) w99)
 (Q (.tuple #[]) w)
def f207_3 (x0 x4 x12 : Value) (Q : PQ) (w : World) : Prop :=
 kint .i64 .geq x4 (.int .i64 2) fun v81 =>
 kB v81 fun b101 => kIf b101
 (kint .u32 .rem x12 (.int .u32 100) fun v82 =>
 kint .u32 .mul v82 (.int .u32 2) fun v83 =>
 kint .u32 .quo x12 (.int .u32 100) fun v84 =>
 kint .i64 .sub x4 (.int .i64 1) fun v85 =>
 kint .i64 .sub x4 (.int .i64 2) fun v86 =>
 kint .u32 .add v83 (.int .u32 1) fun v87 =>
 kiv Tryz.prog (some .string) (.string ⟨#[48, 48, 48, 49, 48, 50, 48, 51, 48, 52, 48, 53, 48, 54, 48, 55, 48, 56, 48, 57, 49, 48, 49, 49, 49, 50, 49, 51, 49, 52, 49, 53, 49, 54, 49, 55, 49, 56, 49, 57, 50, 48, 50, 49, 50, 50, 50, 51, 50, 52, 50, 53, 50, 54, 50, 55, 50, 56, 50, 57, 51, 48, 51, 49, 51, 50, 51, 51, 51, 52, 51, 53, 51, 54, 51, 55, 51, 56, 51, 57, 52, 48, 52, 49, 52, 50, 52, 51, 52, 52, 52, 53, 52, 54, 52, 55, 52, 56, 52, 57, 53, 48, 53, 49, 53, 50, 53, 51, 53, 52, 53, 53, 53, 54, 53, 55, 53, 56, 53, 57, 54, 48, 54, 49, 54, 50, 54, 51, 54, 52, 54, 53, 54, 54, 54, 55, 54, 56, 54, 57, 55, 48, 55, 49, 55, 50, 55, 51, 55, 52, 55, 53, 55, 54, 55, 55, 55, 56, 55, 57, 56, 48, 56, 49, 56, 50, 56, 51, 56, 52, 56, 53, 56, 54, 56, 55, 56, 56, 56, 57, 57, 48, 57, 49, 57, 50, 57, 51, 57, 52, 57, 53, 57, 54, 57, 55, 57, 56, 57, 57]⟩) v87 fun v88 =>
 kiv Tryz.prog (some .string) (.string ⟨#[48, 48, 48, 49, 48, 50, 48, 51, 48, 52, 48, 53, 48, 54, 48, 55, 48, 56, 48, 57, 49, 48, 49, 49, 49, 50, 49, 51, 49, 52, 49, 53, 49, 54, 49, 55, 49, 56, 49, 57, 50, 48, 50, 49, 50, 50, 50, 51, 50, 52, 50, 53, 50, 54, 50, 55, 50, 56, 50, 57, 51, 48, 51, 49, 51, 50, 51, 51, 51, 52, 51, 53, 51, 54, 51, 55, 51, 56, 51, 57, 52, 48, 52, 49, 52, 50, 52, 51, 52, 52, 52, 53, 52, 54, 52, 55, 52, 56, 52, 57, 53, 48, 53, 49, 53, 50, 53, 51, 53, 52, 53, 53, 53, 54, 53, 55, 53, 56, 53, 57, 54, 48, 54, 49, 54, 50, 54, 51, 54, 52, 54, 53, 54, 54, 54, 55, 54, 56, 54, 57, 55, 48, 55, 49, 55, 50, 55, 51, 55, 52, 55, 53, 55, 54, 55, 55, 55, 56, 55, 57, 56, 48, 56, 49, 56, 50, 56, 51, 56, 52, 56, 53, 56, 54, 56, 55, 56, 56, 56, 57, 57, 48, 57, 49, 57, 50, 57, 51, 57, 52, 57, 53, 57, 54, 57, 55, 57, 56, 57, 57]⟩) v83 fun v89 =>
 kix (some (.slice 5)) (some 1) x0 v85 fun v90 =>
 kst 1 v90 v88 w.drew fun w91 =>
 kix (some (.slice 5)) (some 1) x0 v86 fun v92 =>
 kst 1 v92 v89 w91 fun w93 =>
 kint .i64 .sub x4 (.int .i64 2) fun v94 =>
 f207_4 x0 v94 v84 Q w93)
 (f207_4 x0 x4 x12 Q w)
def f207_2 (x0 x1 x4 : Value) (Q : PQ) (w : World) : Prop :=
 kcnv .u32 x1 fun v54 =>
 kint .i64 .geq x4 (.int .i64 4) fun v55 =>
 kB v55 fun b102 => kIf b102
 (kint .u32 .rem v54 (.int .u32 10000) fun v56 =>
 kint .u32 .quo v54 (.int .u32 10000) fun v57 =>
 kint .u32 .quo v56 (.int .u32 100) fun v58 =>
 kint .u32 .mul v58 (.int .u32 2) fun v59 =>
 kint .u32 .rem v56 (.int .u32 100) fun v60 =>
 kint .u32 .mul v60 (.int .u32 2) fun v61 =>
 kint .i64 .sub x4 (.int .i64 1) fun v62 =>
 kint .i64 .sub x4 (.int .i64 2) fun v63 =>
 kint .u32 .add v61 (.int .u32 1) fun v64 =>
 kiv Tryz.prog (some .string) (.string ⟨#[48, 48, 48, 49, 48, 50, 48, 51, 48, 52, 48, 53, 48, 54, 48, 55, 48, 56, 48, 57, 49, 48, 49, 49, 49, 50, 49, 51, 49, 52, 49, 53, 49, 54, 49, 55, 49, 56, 49, 57, 50, 48, 50, 49, 50, 50, 50, 51, 50, 52, 50, 53, 50, 54, 50, 55, 50, 56, 50, 57, 51, 48, 51, 49, 51, 50, 51, 51, 51, 52, 51, 53, 51, 54, 51, 55, 51, 56, 51, 57, 52, 48, 52, 49, 52, 50, 52, 51, 52, 52, 52, 53, 52, 54, 52, 55, 52, 56, 52, 57, 53, 48, 53, 49, 53, 50, 53, 51, 53, 52, 53, 53, 53, 54, 53, 55, 53, 56, 53, 57, 54, 48, 54, 49, 54, 50, 54, 51, 54, 52, 54, 53, 54, 54, 54, 55, 54, 56, 54, 57, 55, 48, 55, 49, 55, 50, 55, 51, 55, 52, 55, 53, 55, 54, 55, 55, 55, 56, 55, 57, 56, 48, 56, 49, 56, 50, 56, 51, 56, 52, 56, 53, 56, 54, 56, 55, 56, 56, 56, 57, 57, 48, 57, 49, 57, 50, 57, 51, 57, 52, 57, 53, 57, 54, 57, 55, 57, 56, 57, 57]⟩) v64 fun v65 =>
 kiv Tryz.prog (some .string) (.string ⟨#[48, 48, 48, 49, 48, 50, 48, 51, 48, 52, 48, 53, 48, 54, 48, 55, 48, 56, 48, 57, 49, 48, 49, 49, 49, 50, 49, 51, 49, 52, 49, 53, 49, 54, 49, 55, 49, 56, 49, 57, 50, 48, 50, 49, 50, 50, 50, 51, 50, 52, 50, 53, 50, 54, 50, 55, 50, 56, 50, 57, 51, 48, 51, 49, 51, 50, 51, 51, 51, 52, 51, 53, 51, 54, 51, 55, 51, 56, 51, 57, 52, 48, 52, 49, 52, 50, 52, 51, 52, 52, 52, 53, 52, 54, 52, 55, 52, 56, 52, 57, 53, 48, 53, 49, 53, 50, 53, 51, 53, 52, 53, 53, 53, 54, 53, 55, 53, 56, 53, 57, 54, 48, 54, 49, 54, 50, 54, 51, 54, 52, 54, 53, 54, 54, 54, 55, 54, 56, 54, 57, 55, 48, 55, 49, 55, 50, 55, 51, 55, 52, 55, 53, 55, 54, 55, 55, 55, 56, 55, 57, 56, 48, 56, 49, 56, 50, 56, 51, 56, 52, 56, 53, 56, 54, 56, 55, 56, 56, 56, 57, 57, 48, 57, 49, 57, 50, 57, 51, 57, 52, 57, 53, 57, 54, 57, 55, 57, 56, 57, 57]⟩) v61 fun v66 =>
 kix (some (.slice 5)) (some 1) x0 v62 fun v67 =>
 kst 1 v67 v65 w.drew fun w68 =>
 kix (some (.slice 5)) (some 1) x0 v63 fun v69 =>
 kst 1 v69 v66 w68 fun w70 =>
 kint .i64 .sub x4 (.int .i64 3) fun v71 =>
 kint .i64 .sub x4 (.int .i64 4) fun v72 =>
 kint .u32 .add v59 (.int .u32 1) fun v73 =>
 kiv Tryz.prog (some .string) (.string ⟨#[48, 48, 48, 49, 48, 50, 48, 51, 48, 52, 48, 53, 48, 54, 48, 55, 48, 56, 48, 57, 49, 48, 49, 49, 49, 50, 49, 51, 49, 52, 49, 53, 49, 54, 49, 55, 49, 56, 49, 57, 50, 48, 50, 49, 50, 50, 50, 51, 50, 52, 50, 53, 50, 54, 50, 55, 50, 56, 50, 57, 51, 48, 51, 49, 51, 50, 51, 51, 51, 52, 51, 53, 51, 54, 51, 55, 51, 56, 51, 57, 52, 48, 52, 49, 52, 50, 52, 51, 52, 52, 52, 53, 52, 54, 52, 55, 52, 56, 52, 57, 53, 48, 53, 49, 53, 50, 53, 51, 53, 52, 53, 53, 53, 54, 53, 55, 53, 56, 53, 57, 54, 48, 54, 49, 54, 50, 54, 51, 54, 52, 54, 53, 54, 54, 54, 55, 54, 56, 54, 57, 55, 48, 55, 49, 55, 50, 55, 51, 55, 52, 55, 53, 55, 54, 55, 55, 55, 56, 55, 57, 56, 48, 56, 49, 56, 50, 56, 51, 56, 52, 56, 53, 56, 54, 56, 55, 56, 56, 56, 57, 57, 48, 57, 49, 57, 50, 57, 51, 57, 52, 57, 53, 57, 54, 57, 55, 57, 56, 57, 57]⟩) v73 fun v74 =>
 kiv Tryz.prog (some .string) (.string ⟨#[48, 48, 48, 49, 48, 50, 48, 51, 48, 52, 48, 53, 48, 54, 48, 55, 48, 56, 48, 57, 49, 48, 49, 49, 49, 50, 49, 51, 49, 52, 49, 53, 49, 54, 49, 55, 49, 56, 49, 57, 50, 48, 50, 49, 50, 50, 50, 51, 50, 52, 50, 53, 50, 54, 50, 55, 50, 56, 50, 57, 51, 48, 51, 49, 51, 50, 51, 51, 51, 52, 51, 53, 51, 54, 51, 55, 51, 56, 51, 57, 52, 48, 52, 49, 52, 50, 52, 51, 52, 52, 52, 53, 52, 54, 52, 55, 52, 56, 52, 57, 53, 48, 53, 49, 53, 50, 53, 51, 53, 52, 53, 53, 53, 54, 53, 55, 53, 56, 53, 57, 54, 48, 54, 49, 54, 50, 54, 51, 54, 52, 54, 53, 54, 54, 54, 55, 54, 56, 54, 57, 55, 48, 55, 49, 55, 50, 55, 51, 55, 52, 55, 53, 55, 54, 55, 55, 55, 56, 55, 57, 56, 48, 56, 49, 56, 50, 56, 51, 56, 52, 56, 53, 56, 54, 56, 55, 56, 56, 56, 57, 57, 48, 57, 49, 57, 50, 57, 51, 57, 52, 57, 53, 57, 54, 57, 55, 57, 56, 57, 57]⟩) v59 fun v75 =>
 kix (some (.slice 5)) (some 1) x0 v71 fun v76 =>
 kst 1 v76 v74 w70.drew fun w77 =>
 kix (some (.slice 5)) (some 1) x0 v72 fun v78 =>
 kst 1 v78 v75 w77 fun w79 =>
 kint .i64 .sub x4 (.int .i64 4) fun v80 =>
 f207_3 x0 v80 v57 Q w79)
 (f207_3 x0 x4 v54 Q w)
def f207_0 (x1 x4 x0 : Value) (J1 : Value → Value → World → Prop) (Q : PQ) (w : World) : Prop :=
 kint .i64 .geq x4 (.int .i64 8) fun v3 =>
 kB v3 fun b103 => kIf b103
 (f207_1 x0 x1 x4 J1 Q w)
 (f207_2 x0 x1 x4 Q w)
def f207 (x0 x1 : Value) (Q : PQ) (w : World) : Prop :=
 klen x0 fun v1 =>
 kL fun (I : Value → Value → World → Prop) (μ : Value → Value → World → Nat) => I x1 v1 w ∧ ∀ (x1 x4 : Value) (w1 : World), I x1 x4 w1 →
 f207_0 x1 x4 x0 (fun y1 y4 w2 => I y1 y4 w2 ∧ μ y1 y4 w2 < μ x1 x4 w1) Q w1
theorem f207_ok {x0 x1 : Value} {Q : PQ} {w : World} (h : f207 x0 x1 Q w) : Meets Tryz.prog 207 #[x0, x1] w Q :=
 sound' (c := Tryz.f207.body.get rfl) [(1, [1, 4])] Tryz.func207 rfl rfl (args := [x0, x1]) rfl (by kernel_rfl) h
def f234 (x0 : Value) (Q : PQ) (w : World) : Prop :=
 kint .i64 .mul x0 (.int .i64 78913) fun v1 =>
 kint .i64 .shr v1 (.int .u64 18) fun v2 =>
 Q v2 w
theorem f234_ok {x0 : Value} {Q : PQ} {w : World} (h : f234 x0 Q w) : Meets Tryz.prog 234 #[x0] w Q :=
 sound' (c := Tryz.f234.body.get rfl) [] Tryz.func234 rfl rfl (args := [x0]) rfl (by kernel_rfl) h
def f236_0 (Q : PQ) (w : World) : Prop :=
 Q (.int .i64 0) w
def f236 (x0 : Value) (Q : PQ) (w : World) : Prop :=
 kB x0 fun b1 => kIf b1
 (Q (.int .i64 1) w)
 (f236_0 Q w)
theorem f236_ok {x0 : Value} {Q : PQ} {w : World} (h : f236 x0 Q w) : Meets Tryz.prog 236 #[x0] w Q :=
 sound' (c := Tryz.f236.body.get rfl) [] Tryz.func236 rfl rfl (args := [x0]) rfl (by kernel_rfl) h
end
section
def bs (l : List UInt8) : ByteArray := ⟨l.toArray⟩
@[simp] theorem bs_size (l : List UInt8) : (bs l).size = l.length := by simp [bs, ByteArray.size]
theorem bs_get (l : List UInt8) (i : Nat) : (bs l)[i]? = l[i]? := by
 rw [getElem?_def]
 split
 ·rename_i h
  have h' : i < l.length := by simpa using h
  rw [List.getElem?_eq_getElem h']
  rfl
 ·rename_i h
  have h' : ¬ i < l.length := by simpa using h
  rw [List.getElem?_eq_none (by omega)]
theorem bs_of (s : ByteArray) : bs s.data.toList = s := by cases s; rfl
def u8V (b : UInt8) : Value := .int .u8 (b.toNat : Int)
theorem slByte : Tryz.prog.underlying 287 = some (.slice 5) := by kernel_rfl
theorem uByte : Tryz.prog.underlying 5 = some (.int .u8) := by kernel_rfl
theorem uStr : Tryz.prog.underlying 9 = some .string := by kernel_rfl
theorem ksem_bytes {w : World} {a : Option Addr} {l : List UInt8} {c : Nat} (hs : SlIs w a l.length 1 (l.map u8V)) {K : Value → World → Prop} (hK : K (.string (bs l)) w) :
  ksem Tryz.prog (convert 287 9 (.slice a l.length c)) w K := by
 have hmain : (convert 287 9 (.slice a l.length c)).run Tryz.prog w = .ok (.string (bs l)) w := by
  rcases hs.2 with h0 | ⟨b, o, cs, t, f, rfl, hb, hc⟩
  ·have : l = [] := List.length_eq_zero_iff.1 h0
   subst this
   rw [run_convert_bytes_string w _ _ _ a _ c slByte uByte uStr]
   cases a with
   | none => simp [Conv.bytesToString]; rfl
   | some a =>
    have hl : (loadCells a 0).run Tryz.prog w = .ok (([] : List Int).map (Value.int .u8)).toArray w := by
     have := run_loadCells_list (P := Tryz.prog) w a [] (by simp)
     simpa using this
    rw [List.length_nil, run_bytesToString w a 0 c [] hl]
    rfl
  ·have h := run_convert_bytes_arg w 287 5 slByte uByte b o l.length c (l.map fun x => (x.toNat : Int)) (by simp) (fun i hi => by
    obtain ⟨b', o', c', t', f', e, hb', hc'⟩ := hs.at1 hi (by simpa using hi)
    cases e
    rw [cell_mk, hb', cellO_some, hc']
    simp [u8V, hi]) 9 uStr
   rw [h]
   congr 2
   unfold strOfNums bs
   congr 1
   rw [List.map_map]
   congr 1
   conv => rhs; rw [← List.map_id l]
   apply List.map_congr_left
   intro x _
   simp
 rw [ksem_ok hmain]
 exact hK
def PowAt (w : World) : Prop := ∃ c t f, blk w 19 = some (.cells c t f) ∧ ∀ i, i < 20 → ∃ z : Int, c[i]? = some (.int .u64 z)
theorem PowAt.same {w w' : World} (h : PowAt w) (hm : Same w w') : PowAt w' := by
 obtain ⟨c, t, f, hb, hc⟩ := h
 exact ⟨c, t, f, hm.get hb (fun h => h), hc⟩
theorem u8_of (n : Int) : ∃ x : UInt8, Value.int .u8 (IntKind.u8.wrap n) = u8V x := by
 have h : 0 ≤ IntKind.u8.wrap n ∧ IntKind.u8.wrap n < 256 := by
  show 0 ≤ n % 256 ∧ n % 256 < 256
  omega
 refine ⟨UInt8.ofNat (IntKind.u8.wrap n).toNat, ?_⟩
 unfold u8V
 congr 1
 simp
 omega
theorem kiv_of {s : ByteArray} {k : IntKind} {i : Int} {K : Value → Prop} (h0 : 0 ≤ i) (h1 : i < s.size) (p : UInt8 → Prop) (hp : ∀ x ∈ s.data.toList, p x) (h : ∀ x : UInt8, p x → K (u8V x)) : kiv Tryz.prog (some .string) (.string s) (.int k i) K := by
 rw [kiv_string]
 refine kG_of h0 ?_
 rw [← bs_of s, bs_get]
 have hl : i.toNat < s.data.toList.length := by
  have : s.size = s.data.toList.length := (Array.length_toList (xs := s.data)).symm
  omega
 rw [List.getElem?_eq_getElem hl]
 exact kO_of rfl (h _ (hp _ (List.getElem_mem hl)))
theorem dig_of {s : ByteArray} {k : IntKind} {i : Int} {K : Value → Prop} (hs : s.size = 200) (h0 : 0 ≤ i) (h1 : i < 200) (h : ∀ x : UInt8, K (u8V x)) : kiv Tryz.prog (some .string) (.string s) (.int k i) K :=
 kiv_of h0 (by rw [hs]; exact h1) (fun _ => True) (fun _ _ => trivial) fun x _ => h x
def BufAt (w : World) (b : Nat) : Prop := ∃ l : List UInt8, l.length = 24 ∧ blk w b = some (.cells (l.map u8V).toArray 368)
theorem setAll_u8 (l : List UInt8) (x : UInt8) (o : Nat) : setAll [u8V x] (l.map u8V).toArray o = ((l.set o x).map u8V).toArray := by
 simp only [setAll, List.setIfInBounds_toArray, List.map_set]
theorem buf_st {w : World} {b o : Nat} (hb : BufAt w b) (ho : o < 24) (x : UInt8) {K : World → Prop} (h : ∀ w', Mod (fun k => k = b) w w' → BufAt w' b → K w') : kst 1 (.pointer (some ⟨b, o, none⟩)) (u8V x) w K := by
 obtain ⟨l, hl, hb⟩ := hb
 refine kst_of (vs := [u8V x]) hb rfl rfl rfl (by simp; omega) (by simp) fun w' h' hs' hb' => ?_
 rw [setAll_u8] at hb'
 exact h w' h' ⟨l.set o x, by simpa using hl, hb'⟩
theorem buf_ix {w : World} {b nd c i : Nat} (hb : BufAt w b) (hi : i < nd) (hn : nd ≤ 20) (x : UInt8) {e : TypeId} {K : World → Prop} (h : ∀ w', Mod (fun k => k = b) w w' → BufAt w' b → K w') :
  kix (some (.slice e)) (some 1) (.slice (some ⟨b, 1, none⟩) nd c) (.int .i64 (i : Int)) fun v => kst 1 v (u8V x) w K := by
 rw [kix_slice]
 refine kG_of (by omega) ?_
 rw [add_mk]
 exact buf_st hb (by omega) x h
theorem rem100 {x : Int} (h : 0 ≤ x) : ∃ y : Int, 0 ≤ y ∧ y ≤ 198 ∧ IntKind.u32.wrap (x.tmod 100 * 2) = y ∧ IntKind.u32.wrap (y + 1) = y + 1 := by
 have e : x.tmod 100 = x % 100 := Int.tmod_eq_emod_of_nonneg h
 refine ⟨x % 100 * 2, by omega, by omega, ?_, ?_⟩
 ·rw [e]; exact wrap_u32 (by omega) (by omega)
 ·exact wrap_u32 (by omega) (by omega)
theorem quo100 {x : Int} (h : 0 ≤ x) (h1 : x < 10000) : ∃ y : Int, 0 ≤ y ∧ y ≤ 198 ∧ IntKind.u32.wrap (IntKind.u32.wrap (x.tdiv 100) * 2) = y ∧ IntKind.u32.wrap (y + 1) = y + 1 := by
 have e : x.tdiv 100 = x / 100 := Int.tdiv_eq_ediv_of_nonneg h
 have e2 : IntKind.u32.wrap (x / 100) = x / 100 := wrap_u32 (by omega) (by omega)
 refine ⟨x / 100 * 2, by omega, by omega, ?_, ?_⟩
 ·rw [e, e2]; exact wrap_u32 (by omega) (by omega)
 ·exact wrap_u32 (by omega) (by omega)
theorem rem1e4 {x : Int} (h : 0 ≤ x) : 0 ≤ x.tmod 10000 ∧ x.tmod 10000 < 10000 := by
 rw [Int.tmod_eq_emod_of_nonneg h]; omega
theorem quo1e4 {x : Int} (h : 0 ≤ x) (h1 : x < 100000000) : 0 ≤ IntKind.u32.wrap (x.tdiv 10000) ∧ IntKind.u32.wrap (x.tdiv 10000) < 10000 := by
 rw [Int.tdiv_eq_ediv_of_nonneg h, wrap_u32 (by omega) (by omega)]; omega
theorem quoPos {x : Int} (d : Int) : 0 ≤ IntKind.u32.wrap (x.tdiv d) := by
 show 0 ≤ (x.tdiv d) % 4294967296
 omega
theorem wrap_pos64 (x : Int) : 0 ≤ IntKind.u64.wrap x := by
 show 0 ≤ x % 18446744073709551616
 omega
theorem wrap_pos32 (x : Int) : 0 ≤ IntKind.u32.wrap x := by
 show 0 ≤ x % 4294967296
 omega
theorem rem1e8 {x : Int} (h : 0 ≤ x) : ∃ y : Int, 0 ≤ y ∧ y < 100000000 ∧ IntKind.u32.wrap (x.tmod 100000000) = y := by
 rw [Int.tmod_eq_emod_of_nonneg h]
 exact ⟨x % 100000000, by omega, by omega, wrap_u32 (by omega) (by omega)⟩
theorem i64_sub {i k : Nat} (h : k ≤ i) (h2 : i ≤ 20) : IntKind.i64.wrap ((i : Int) - (k : Int)) = ((i - k : Nat) : Int) := by
 rw [wrap_i64 (by omega) (by omega)]; omega
def FmtInv (b nd : Nat) (w : World) (x1 x4 : Value) (wr : World) : Prop := ∃ (u : Int) (i : Nat), 0 ≤ u ∧ i ≤ nd ∧ x1 = .int .u64 u ∧ x4 = .int .i64 i ∧ BufAt wr b ∧ Mod (fun k => k = b) w wr
theorem format_spec {w : World} {b nd c : Nat} (hb : BufAt w b) (hn : nd ≤ 20) (u : Int) (hu : 0 ≤ u) :
  Meets Tryz.prog 207 #[.slice (some ⟨b, 1, none⟩) nd c, .int .u64 u] w fun v w' => BufAt w' b ∧ Mod (fun k => k = b) w w' := by
 have f4 : ∀ (i : Nat) (x : Int) (wr : World), i ≤ nd → 0 ≤ x → BufAt wr b → Mod (fun k => k = b) w wr → f207_4 (.slice (some ⟨b, 1, none⟩) nd c) (.int .i64 i) (.int .u32 x) (fun v w' => BufAt w' b ∧ Mod (fun k => k = b) w w') wr := by
  intro i x wr hi hx hbu hm
  unfold f207_4
  rw [kint_gtr, kB_bool]
  refine kIf_dec (fun h0 => ?_) (fun _ => ⟨hbu, hm⟩)
  rw [kint_add, kcnv_int]
  obtain ⟨y, hy⟩ := u8_of (IntKind.u32.wrap (48 + x))
  rw [hy]
  refine buf_ix (i := 0) hbu (by omega) hn y fun w' h' hb' => ?_
  exact ⟨hb', hm.trans h'⟩
 have f3 : ∀ (i : Nat) (x : Int) (wr : World), i ≤ nd → 0 ≤ x → BufAt wr b → Mod (fun k => k = b) w wr → f207_3 (.slice (some ⟨b, 1, none⟩) nd c) (.int .i64 i) (.int .u32 x) (fun v w' => BufAt w' b ∧ Mod (fun k => k = b) w w') wr := by
  intro i x wr hi hx hbu hm
  unfold f207_3
  rw [kint_geq, kB_bool]
  refine kIf_dec (fun h0 => ?_) (fun _ => f4 i x wr hi hx hbu hm)
  have h0 : 2 ≤ i := by omega
  obtain ⟨y, y0, y1, e1, e2⟩ := rem100 hx
  rw [kint_rem]
  refine kG_of (by decide) ?_
  rw [kint_mul, e1, kint_quo]
  refine kG_of (by decide) ?_
  rw [kint_sub, show (1 : Int) = ((1 : Nat) : Int) from rfl, i64_sub (by omega) (by omega), kint_sub, show (2 : Int) = ((2 : Nat) : Int) from rfl, i64_sub (by omega) (by omega), show ((1 : Nat) : Int) = (1 : Int) from rfl, kint_add, e2]
  refine dig_of rfl (by omega) (by omega) fun d1 => ?_
  refine dig_of rfl (by omega) (by omega) fun d2 => ?_
  refine buf_ix (i := i - 1) (w := wr.drew) hbu (by omega) hn d1 fun w1 h1 hb1 => ?_
  refine buf_ix (i := i - 2) hb1 (by omega) hn d2 fun w2 h2 hb2 => ?_
  rw [kint_sub, i64_sub (by omega) (by omega)]
  exact f4 _ _ _ (by omega) (quoPos _) hb2 (hm.drew.trans (h1.trans h2))
 have f2 : ∀ (i : Nat) (x : Int) (wr : World), i ≤ nd → BufAt wr b → Mod (fun k => k = b) w wr → f207_2 (.slice (some ⟨b, 1, none⟩) nd c) (.int .u64 x) (.int .i64 i) (fun v w' => BufAt w' b ∧ Mod (fun k => k = b) w w') wr := by
  intro i x wr hi hbu hm
  unfold f207_2
  have hx := wrap_pos32 x
  rw [kcnv_int]
  generalize IntKind.u32.wrap x = x at hx ⊢
  rw [kint_geq, kB_bool]
  refine kIf_dec (fun h0 => ?_) (fun _ => f3 i x wr hi hx hbu hm)
  have h0 : 4 ≤ i := by omega
  obtain ⟨r0, r1⟩ := rem1e4 hx
  obtain ⟨p, p0, p1, e1, e2⟩ := quo100 r0 r1
  obtain ⟨q, q0, q1, e3, e4⟩ := rem100 r0
  rw [kint_rem]
  refine kG_of (by decide) ?_
  rw [kint_quo]
  refine kG_of (by decide) ?_
  rw [kint_quo]
  refine kG_of (by decide) ?_
  rw [kint_mul, e1, kint_rem]
  refine kG_of (by decide) ?_
  rw [kint_mul, e3]
  rw [kint_sub, show IntKind.i64.wrap ((i : Int) - 1) = ((i - 1 : Nat) : Int) from i64_sub (k := 1) (by omega) (by omega), kint_sub, show IntKind.i64.wrap ((i : Int) - 2) = ((i - 2 : Nat) : Int) from i64_sub (k := 2) (by omega) (by omega), kint_add, e4]
  refine dig_of rfl (by omega) (by omega) fun d1 => ?_
  refine dig_of rfl (by omega) (by omega) fun d2 => ?_
  refine buf_ix (i := i - 1) (w := wr.drew) hbu (by omega) hn d1 fun w1 h1 hb1 => ?_
  refine buf_ix (i := i - 2) hb1 (by omega) hn d2 fun w2 h2 hb2 => ?_
  rw [kint_sub, show IntKind.i64.wrap ((i : Int) - 3) = ((i - 3 : Nat) : Int) from i64_sub (k := 3) (by omega) (by omega), kint_sub, show IntKind.i64.wrap ((i : Int) - 4) = ((i - 4 : Nat) : Int) from i64_sub (k := 4) (by omega) (by omega), kint_add, e2]
  refine dig_of rfl (by omega) (by omega) fun d3 => ?_
  refine dig_of rfl (by omega) (by omega) fun d4 => ?_
  refine buf_ix (i := i - 3) (w := w2.drew) hb2 (by omega) hn d3 fun w3 h3 hb3 => ?_
  refine buf_ix (i := i - 4) hb3 (by omega) hn d4 fun w4 h4 hb4 => ?_
  rw [kint_sub, show IntKind.i64.wrap ((i : Int) - 4) = ((i - 4 : Nat) : Int) from i64_sub (k := 4) (by omega) (by omega)]
  exact f3 _ _ _ (by omega) (quoPos _) hb4 ((hm.drew.trans (h1.trans h2)).drew.trans (h3.trans h4))
 refine f207_ok ?_
 unfold f207
 rw [klen_slice]
 refine kL_of (FmtInv b nd w) (fun _ x _ => (RowKit.intOf x).toNat) ⟨⟨u, nd, hu, by omega, rfl, rfl, hb, Mod.refl _ _⟩, ?_⟩
 rintro x1 x4 wr ⟨u, i, hu, hi, rfl, rfl, hbu, hm⟩
 unfold f207_0
 rw [kint_geq, kB_bool]
 refine kIf_dec (fun h0 => ?_) (fun _ => f2 i u wr hi hbu hm)
 have h0 : 8 ≤ i := by omega
 unfold f207_1
 obtain ⟨m, m0, m1, em⟩ := rem1e8 hu
 obtain ⟨a0, a1⟩ := quo1e4 m0 m1
 obtain ⟨r0, r1⟩ := rem1e4 m0
 obtain ⟨p, p0, p1, ep, ep2⟩ := quo100 r0 r1
 obtain ⟨q, q0, q1, eq, eq2⟩ := rem100 r0
 obtain ⟨g, g0, g1, eg, eg2⟩ := quo100 a0 a1
 obtain ⟨h, hh0, hh1, eh, eh2⟩ := rem100 a0
 have sub : ∀ k : Nat, k ≤ 8 → IntKind.i64.wrap ((i : Int) - (k : Int)) = ((i - k : Nat) : Int) := fun k hk => i64_sub (by omega) (by omega)
 rw [kint_rem]
 refine kG_of (by decide) ?_
 rw [kcnv_int, em, kint_quo]
 refine kG_of (by decide) ?_
 rw [kint_quo]
 refine kG_of (by decide) ?_
 rw [kint_rem]
 refine kG_of (by decide) ?_
 rw [kint_quo]
 refine kG_of (by decide) ?_
 rw [kint_mul, ep, kint_rem]
 refine kG_of (by decide) ?_
 rw [kint_mul, eq, kint_quo]
 refine kG_of (by decide) ?_
 rw [kint_mul, eg, kint_rem]
 refine kG_of (by decide) ?_
 rw [kint_mul, eh]
 rw [kint_sub, show IntKind.i64.wrap ((i : Int) - 1) = ((i - 1 : Nat) : Int) from sub 1 (by omega), kint_sub, show IntKind.i64.wrap ((i : Int) - 2) = ((i - 2 : Nat) : Int) from sub 2 (by omega), kint_add, eq2]
 refine dig_of rfl (by omega) (by omega) fun d1 => ?_
 refine dig_of rfl (by omega) (by omega) fun d2 => ?_
 refine buf_ix (i := i - 1) (w := wr.drew) hbu (by omega) hn d1 fun w1 h1 hb1 => ?_
 refine buf_ix (i := i - 2) hb1 (by omega) hn d2 fun w2 h2 hb2 => ?_
 rw [kint_sub, show IntKind.i64.wrap ((i : Int) - 3) = ((i - 3 : Nat) : Int) from sub 3 (by omega), kint_sub, show IntKind.i64.wrap ((i : Int) - 4) = ((i - 4 : Nat) : Int) from sub 4 (by omega), kint_add, ep2]
 refine dig_of rfl (by omega) (by omega) fun d3 => ?_
 refine dig_of rfl (by omega) (by omega) fun d4 => ?_
 refine buf_ix (i := i - 3) (w := w2.drew) hb2 (by omega) hn d3 fun w3 h3 hb3 => ?_
 refine buf_ix (i := i - 4) hb3 (by omega) hn d4 fun w4 h4 hb4 => ?_
 rw [kint_sub, show IntKind.i64.wrap ((i : Int) - 5) = ((i - 5 : Nat) : Int) from sub 5 (by omega), kint_sub, show IntKind.i64.wrap ((i : Int) - 6) = ((i - 6 : Nat) : Int) from sub 6 (by omega), kint_add, eh2]
 refine dig_of rfl (by omega) (by omega) fun d5 => ?_
 refine dig_of rfl (by omega) (by omega) fun d6 => ?_
 refine buf_ix (i := i - 5) (w := w4.drew) hb4 (by omega) hn d5 fun w5 h5 hb5 => ?_
 refine buf_ix (i := i - 6) hb5 (by omega) hn d6 fun w6 h6 hb6 => ?_
 rw [kint_sub, show IntKind.i64.wrap ((i : Int) - 7) = ((i - 7 : Nat) : Int) from sub 7 (by omega), kint_sub, show IntKind.i64.wrap ((i : Int) - 8) = ((i - 8 : Nat) : Int) from sub 8 (by omega), kint_add, eg2]
 refine dig_of rfl (by omega) (by omega) fun d7 => ?_
 refine dig_of rfl (by omega) (by omega) fun d8 => ?_
 refine buf_ix (i := i - 7) (w := w6.drew) hb6 (by omega) hn d7 fun w7 h7 hb7 => ?_
 refine buf_ix (i := i - 8) hb7 (by omega) hn d8 fun w8 h8 hb8 => ?_
 rw [kint_sub, show IntKind.i64.wrap ((i : Int) - 8) = ((i - 8 : Nat) : Int) from sub 8 (by omega)]
 exact ⟨⟨_, i - 8, wrap_pos64 _, by omega, rfl, rfl, hb8, (((hm.drew.trans (h1.trans h2)).drew.trans (h3.trans h4)).drew.trans (h5.trans h6)).drew.trans (h7.trans h8)⟩, by simp [RowKit.intOf]; omega⟩
theorem len64_spec (x : Int) (w : World) : Meets Tryz.prog 235 #[.int .u64 x] w fun v w' => (∃ k : Nat, k ≤ 64 ∧ v = .int .i64 k) ∧ w' = w := by
 have f2 : ∀ (x : Int) (k : Nat), k ≤ 56 → f235_2 (.int .u64 x) (.int .i64 k) (fun v w' => (∃ k : Nat, k ≤ 64 ∧ v = .int .i64 k) ∧ w' = w) w := by
  intro x k hk
  unfold f235_2
  have h0 : 0 ≤ IntKind.u8.wrap x ∧ IntKind.u8.wrap x < 256 := by
   show 0 ≤ x % 256 ∧ x % 256 < 256
   omega
  rw [kcnv_int]
  refine kiv_of h0.1 (by exact h0.2) (fun x => x.toNat ≤ 8) (by decide +kernel) fun y hy => ?_
  rw [u8V, kcnv_int, wrap_i64 (by omega) (by omega), kint_add, wrap_i64 (by omega) (by omega)]
  exact ⟨⟨k + y.toNat, by omega, by simp⟩, rfl⟩
 have f1 : ∀ (x : Int) (k : Nat), k ≤ 48 → f235_1 (.int .u64 x) (.int .i64 k) (fun v w' => (∃ k : Nat, k ≤ 64 ∧ v = .int .i64 k) ∧ w' = w) w := by
  intro x k hk
  unfold f235_1
  rw [kint_geq, kB_bool]
  refine kIf_dec (fun _ => ?_) (fun _ => f2 x k (by omega))
  rw [kint_shr]
  refine kG_of (by decide) ?_
  rw [kint_add, show IntKind.i64.wrap ((k : Int) + 8) = ((k + 8 : Nat) : Int) from by rw [wrap_i64 (by omega) (by omega)]; simp]
  exact f2 _ _ (by omega)
 have f0 : ∀ (x : Int) (k : Nat), k ≤ 32 → f235_0 (.int .u64 x) (.int .i64 k) (fun v w' => (∃ k : Nat, k ≤ 64 ∧ v = .int .i64 k) ∧ w' = w) w := by
  intro x k hk
  unfold f235_0
  rw [kint_geq, kB_bool]
  refine kIf_dec (fun _ => ?_) (fun _ => f1 x k (by omega))
  rw [kint_shr]
  refine kG_of (by decide) ?_
  rw [kint_add, show IntKind.i64.wrap ((k : Int) + 16) = ((k + 16 : Nat) : Int) from by rw [wrap_i64 (by omega) (by omega)]; simp]
  exact f1 _ _ (by omega)
 refine f235_ok ?_
 unfold f235
 rw [kint_geq, kB_bool]
 refine kIf_dec (fun _ => ?_) (fun _ => f0 x 0 (by omega))
 rw [kint_shr]
 refine kG_of (by decide) ?_
 exact f0 _ 32 (by omega)
theorem digs_spec {w : World} (hp : PowAt w) (x : Int) : Meets Tryz.prog 206 #[.int .u64 x] w fun v w' => (∃ k : Nat, k ≤ 20 ∧ v = .int .i64 k) ∧ w' = w := by
 have hlog : ∀ k : Nat, k ≤ 64 → Meets Tryz.prog 234 #[.int .i64 k] w fun v w' => (∃ k : Nat, k < 20 ∧ v = .int .i64 k) ∧ w' = w := by
  intro k hk
  refine f234_ok ?_
  unfold f234
  rw [kint_mul, show IntKind.i64.wrap ((k : Int) * 78913) = ((k * 78913 : Nat) : Int) from by rw [wrap_i64 (by omega) (by omega)]; simp, kint_shr]
  refine kG_of (by decide) ?_
  rw [show (18 : Int) = ((18 : Nat) : Int) from rfl, shr_nat _ 18 (by decide)]
  exact ⟨⟨_, by omega, rfl⟩, rfl⟩
 have hb2 : ∀ b : Bool, Meets Tryz.prog 236 #[.bool b] w fun v w' => (∃ k : Nat, k ≤ 1 ∧ v = .int .i64 k) ∧ w' = w := by
  intro b
  refine f236_ok ?_
  unfold f236
  rw [kB_bool]
  refine kIf_of (fun _ => ⟨⟨1, by omega, rfl⟩, rfl⟩) (fun _ => ?_)
  unfold f236_0
  exact ⟨⟨0, by omega, rfl⟩, rfl⟩
 obtain ⟨c, t, f, hb, hc⟩ := hp
 refine f206_ok ?_
 unfold f206
 refine kcall_of (len64_spec x w) ?_
 rintro v w2 ⟨⟨k, hk, rfl⟩, rfl⟩
 refine kcall_of (hlog k hk) ?_
 rintro v w4 ⟨⟨j, hj, rfl⟩, rfl⟩
 rw [kix_array]
 refine kG_of (by omega) ?_
 rw [add_mk]
 obtain ⟨z, hz⟩ := hc j hj
 refine kld_of (v := .int .u64 z) hb (by simpa using hz) ?_
 rw [kint_geq]
 refine kcall_of (hb2 _) ?_
 rintro v w9 ⟨⟨i, hi, rfl⟩, rfl⟩
 rw [kint_add, wrap_i64 (by omega) (by omega)]
 exact ⟨⟨j + i, by omega, by simp⟩, rfl⟩
def ShortPost (w : World) (v : Value) (w' : World) : Prop := (∃ l : List UInt8, l.length ≤ 24 ∧ v = .string (bs l)) ∧ Same w w'
theorem bufZero : (#[(.int .u8 0), (.int .u8 0), (.int .u8 0), (.int .u8 0), (.int .u8 0), (.int .u8 0), (.int .u8 0), (.int .u8 0), (.int .u8 0), (.int .u8 0), (.int .u8 0), (.int .u8 0), (.int .u8 0), (.int .u8 0), (.int .u8 0), (.int .u8 0), (.int .u8 0), (.int .u8 0), (.int .u8 0), (.int .u8 0), (.int .u8 0), (.int .u8 0), (.int .u8 0), (.int .u8 0)] : Array Value) = ((List.replicate 24 (0 : UInt8)).map u8V).toArray := by rfl
theorem buf_str {w : World} {b : Nat} (hb : BufAt w b) (o n c : Nat) (h : o + n ≤ 24) {K : Value → World → Prop} (hK : ∀ l : List UInt8, l.length ≤ 24 → K (.string (bs l)) w) :
  ksem Tryz.prog (convert 287 9 (.slice (some ⟨b, o, none⟩) n c)) w K := by
 obtain ⟨l, hl, hb⟩ := hb
 have hlen : ((l.drop o).take n).length = n := by rw [List.length_take, List.length_drop]; omega
 have hs : SlIs w (some ⟨b, o, none⟩) ((l.drop o).take n).length 1 (((l.drop o).take n).map u8V) := by
  rw [hlen]
  refine ⟨by rw [List.length_map, hlen]; omega, .inr ⟨b, o, _, _, _, rfl, hb, ?_⟩⟩
  simp [List.map_take, List.map_drop]
 have := ksem_bytes (c := c) hs (K := K) (hK _ (by rw [hlen]; omega))
 rwa [hlen] at this
theorem small_spec {n : Nat} (hn : n < 100) (w : World) : Meets Tryz.prog 205 #[.int .i64 n] w (ShortPost w) := by
 refine f205_ok ?_
 unfold f205
 rw [kint_lss, kB_bool]
 refine kIf_dec (fun h => ?_) (fun h => ?_)
 ·rw [kint_add, wrap_i64 (by omega) (by omega), ksl_string rfl rfl]
  have hsz : (⟨#[48, 49, 50, 51, 52, 53, 54, 55, 56, 57, 97, 98, 99, 100, 101, 102, 103, 104, 105, 106, 107, 108, 109, 110, 111, 112, 113, 114, 115, 116, 117, 118, 119, 120, 121, 122]⟩ : ByteArray).size = 36 := rfl
  refine kG_of (by simp only [loV_int, hiV_int, hsz]; omega) ?_
  refine ⟨⟨_, ?_, congrArg Value.string (bs_of _).symm⟩, Mod.refl _ _⟩
  simp only [loV_int, hiV_int, ByteArray.data_extract, Array.toList_extract, List.extract_eq_take_drop, List.length_take]
  omega
 ·unfold f205_0
  rw [kint_mul, wrap_i64 (by omega) (by omega), kint_mul, wrap_i64 (by omega) (by omega), kint_add, wrap_i64 (by omega) (by omega), ksl_string rfl rfl]
  refine kG_of ?_ ?_
  ·simp only [loV_int, hiV_int]
   refine ⟨by omega, by omega, ?_⟩
   show (n : Int) * 2 + 2 ≤ ((200 : Nat) : Int)
   omega
  refine ⟨⟨_, ?_, congrArg Value.string (bs_of _).symm⟩, Mod.refl _ _⟩
  simp only [loV_int, hiV_int, ByteArray.data_extract, Array.toList_extract, List.extract_eq_take_drop, List.length_take]
  omega
theorem fmtInt_spec {w : World} (hp : PowAt w) (n : Int) : Meets Tryz.prog 166 #[.int .i64 n, .int .i64 10] w (ShortPost w) := by
 have f2 : ∀ (m : Int) (b : Nat) (wr : World), 0 ≤ m → w.heap.size ≤ b → Same w wr → BufAt wr b → f166_2 (.int .i64 n) (.pointer (some ⟨b, 0, none⟩)) (.int .u64 m) (ShortPost w) wr := by
  intro m b wr hm hf hs hbu
  unfold f166_2
  refine kcall_of (digs_spec (hp.same hs) m) ?_
  rintro v w13 ⟨⟨k, hk, rfl⟩, rfl⟩
  have hwr : IntKind.i64.wrap (1 + (k : Int)) = ((1 + k : Nat) : Int) := by rw [wrap_i64 (by omega) (by omega)]; simp
  rw [kint_add, hwr, ksl_array rfl rfl]
  refine kG_of (by simp only [loV_int, hiV_int]; omega) ?_
  have e1 : (if 24 = (loV (some (Value.int .i64 1))).toNat then (⟨b, 0, none⟩ : Addr) else Addr.add ⟨b, 0, none⟩ ((loV (some (Value.int .i64 1))).toNat * 1)) = ⟨b, 1, none⟩ := by
   rw [if_neg (by simp), add_mk]; simp
  have e2 : ((hiV 24 (some (Value.int .i64 ((1 + k : Nat) : Int)))).toNat - (loV (some (Value.int .i64 1))).toNat) = k := by simp only [loV_int, hiV_int]; omega
  rw [e1, e2]
  refine kcall_of (format_spec hbu hk m hm) ?_
  rintro v w17 ⟨hbu, h17⟩
  have hs := hs.trans' (h17.mono fun i _ hi => .inr (by omega))
  rw [kint_lss, kB_bool]
  refine kIf_dec (fun _ => ?_) (fun _ => ?_)
  ·rw [kix_array]
   refine kG_of (by decide) ?_
   rw [add_mk]
   refine buf_st (x := 45) hbu (by decide) fun w20 h20 hbu => ?_
   have hs := hs.trans' (h20.mono fun i _ hi => .inr (by omega))
   rw [kint_add, hwr]
   refine ksl_arr_hi (by omega) ?_
   refine buf_str hbu 0 (1 + k) 24 (by omega) fun l hl => ?_
   exact ⟨⟨l, hl, rfl⟩, hs⟩
  ·unfold f166_3
   rw [kint_add, hwr, ksl_array rfl rfl]
   refine kG_of (by simp only [loV_int, hiV_int]; omega) ?_
   rw [e1, e2]
   refine buf_str hbu 1 k _ (by omega) fun l hl => ?_
   exact ⟨⟨l, hl, rfl⟩, hs⟩
 have f1 : f166_1 (.int .i64 n) (ShortPost w) w := by
  unfold f166_1
  rw [bufZero]
  refine knew_of fun w8 h8 hs8 hb8 => ?_
  have hbu : BufAt w8 w.heap.size := ⟨_, by simp, hb8⟩
  rw [kcnv_int, kint_lss, kB_bool]
  refine kIf_dec (fun _ => ?_) (fun _ => ?_)
  ·rw [kun_neg]
   exact f2 _ _ _ (wrap_pos64 _) (Nat.le_refl _) h8 hbu
  ·exact f2 _ _ _ (wrap_pos64 _) (Nat.le_refl _) h8 hbu
 refine f166_ok ?_
 unfold f166
 rw [kint_eql, kB_bool]
 refine kIf_dec (fun _ => ?_) (fun h => absurd rfl h)
 rw [kint_leq, kB_bool]
 refine kIf_dec (fun h0 => ?_) (fun h0 => ?_)
 ·rw [kint_lss]
  unfold f166_0
  rw [kB_bool]
  refine kIf_dec (fun h1 => ?_) (fun _ => f1)
  obtain ⟨k, rfl⟩ : ∃ k : Nat, n = (k : Int) := ⟨_, (Int.toNat_of_nonneg h0).symm⟩
  refine kcall_of (small_spec (by omega) w) ?_
  rintro v w' h
  exact h
 ·unfold f166_0
  rw [kB_bool, kIf_false]
  exact f1
theorem itoa_spec {w : World} (hp : PowAt w) (n : Int) : Meets Tryz.prog 60 #[.int .i64 n] w (ShortPost w) := by
 have h3 : Meets Tryz.prog 111 #[.int .i64 n] w (ShortPost w) := by
  refine f111_ok ?_
  unfold f111
  refine kcall_of (fmtInt_spec hp n) ?_
  rintro v w' h
  exact h
 refine f60_ok ?_
 unfold f60
 refine kcall_of h3 ?_
 rintro v w' h
 exact h
end
section
attribute [local irreducible] kO kB kStr kInt kN kG kIf kfld kld kldN kst knew kmap kbld kbldS kext kcnv klenStr klen kcap kprt kprtN kbool kint kstr keq kun ksl kix kiv kta kmk kmm ksem ksemU kextf kcallV kcallM kcall kL
def Leafy (v : Value) : Prop := ∃ t y, v = .iface t y ∧ t ≠ 138
theorem ErrX.leafy {S : Nat → Addr} {k lo : Nat} {x : Value} {w : World} (h : ErrX S k lo x w) : Leafy x := by
 obtain ⟨n, h⟩ := h
 cases n with
 | zero => exact ⟨_, _, h, by decide⟩
 | succ n => obtain ⟨bE, wh, y, rfl, _⟩ := h; exact ⟨_, _, rfl, by decide⟩
theorem flatP_spec {w : World} {a : Option Addr} {c : Nat} {vs : List Value} (hs : SlIs w a vs.length 1 vs) (hv : ∀ v ∈ vs, Leafy v) (hn : vs.length ≤ 1000000) :
  Meets Tryz.prog 58 #[.slice a vs.length c] w fun v w' => Own w' v 1 vs ∧ Same w w' := by
 refine f58_ok ?_
 unfold f58
 refine klen_at ?_
 refine kL2_of vs.length (fun i x y wr => y = .int .i64 i ∧ Own wr x 1 (vs.take i) ∧ (∀ k, vblk x k → w.heap.size ≤ k) ∧ Same w wr) ⟨lI2_0 ⟨rfl, Own.nil _ _, (fun k hk => absurd hk (nvn k)), Mod.refl _ _⟩, fun x y wr hx => ?_⟩
 obtain ⟨i, hi, ⟨rfl, hO, hxk, hr⟩, hJ⟩ := lI2_step hx
 unfold f58_0
 refine lss_at ?_
 refine kB_at ?_
 refine kIf_dec (fun hlt => ?_) (fun hge => ?_)
 ·have hlt : i < vs.length := by omega
  unfold f58_1
  refine kixld_of (F := fun v : Value => v) (l := vs) (by rw [List.map_id']; exact hs.same hr) hlt rfl ?_
  have htk : vs.take (i + 1) = vs.take i ++ [vs[i]] := List.take_succ_eq_append_getElem hlt
  have hlf := hv _ (List.getElem_mem hlt)
  have htl : (vs.take i).length = i := by rw [List.length_take]; omega
  generalize vs[i] = u at *
  obtain ⟨ty, z, rfl, hne⟩ := hlf
  rw [keq_if_nil ifErr]
  refine kB_at ?_
  refine kIf_F rfl ?_
  rw [kta_other hne]
  refine kext_at rfl ?_
  refine kext_at rfl ?_
  refine kB_at ?_
  refine kIf_F rfl ?_
  refine kbldS_of (cs := [.iface ty z]) rfl fun w19 h19 hs19 hb19 => ?_
  refine ksem_append apErr (by omega) (hO.same h19) (Src.ofSlIs (hk := slErr_is.choose_spec) 1 (SlIs.blk hb19 rfl) rfl) (by rw [htl]; show _ + 1 ≤ _; omega) (by rw [htl]; simp; omega) ?_
  intro v' w21 hO21 m21 hf21
  unfold f58_2
  refine add_at (by omega) (by omega) ?_
  rw [cast_succ]
  refine hJ _ _ _ hlt ⟨rfl, by rw [htk]; exact hO21, fun k hk => ?_, (hr.trans h19).trans' (m21.mono fun k _ e => .inr (hxk k e))⟩
  rcases hf21 k hk with e | e
  ·exact hxk k e
  ·exact Nat.le_trans (hr.trans h19).size e
 ·have : i = vs.length := by omega
  subst this
  unfold f58_3
  rw [List.take_length] at hO
  exact ⟨hO, hr⟩
theorem allP_spec {w : World} {a : Option Addr} {c : Nat} {vs : List Value} (hs : SlIs w a vs.length 1 vs) (hv : ∀ v ∈ vs, Leafy v) (hn : vs.length ≤ 1000000) :
  Meets Tryz.prog 24 #[.slice a vs.length c] w fun v w' => (vs = [] ∧ v = .nilIface ∨ vs ≠ [] ∧ ErrI v) ∧ Same w w' := by
 refine f24_ok ?_
 unfold f24
 refine kcall_of (flatP_spec hs hv hn) ?_
 rintro v w2 ⟨hO, h2⟩
 obtain ⟨a1, n1, c1, rfl, hs1, hn1⟩ := hO.is
 obtain rfl : n1 = vs.length := hn1 rfl
 refine klen_at ?_
 refine eql_at ?_
 refine kB_at ?_
 refine kIf_dec (fun h0 => ?_) (fun h0 => ?_)
 ·exact ⟨.inl ⟨List.length_eq_zero_iff.1 (by omega), rfl⟩, h2⟩
 have hne : vs ≠ [] := fun e => h0 (by rw [e]; rfl)
 refine eql_at ?_
 refine kB_at ?_
 refine kIf_dec (fun h1 => ?_) (fun h1 => ?_)
 ·refine kixld_of (i := 0) (F := fun v : Value => v) (l := vs) (by rw [List.map_id']; exact hs1) (by omega) rfl ?_
  obtain ⟨t, y, e, _⟩ := hv _ (List.getElem_mem (show 0 < vs.length by omega))
  exact ⟨.inr ⟨hne, t, y, e⟩, h2⟩
 ·unfold f24_0
  refine kbld_of (cs := [.slice a1 vs.length c1]) rfl ?_
  refine knew_of fun w11 h11 hs11 hb11 => ?_
  exact ⟨.inr ⟨hne, _, _, rfl⟩, h2.trans h11⟩
structure LkAt (w0 : World) (b : Nat) (ca : Option Addr) (cc : Nat) (rv : Value) (L : List Comp) (size : Nat) (vs : List Value) (w : World) : Prop where
 ex : ∃ ev, blk w b = some (.cells #[.slice ca L.length cc, rv, .int .i64 size, ev] 117) ∧ Own w ev 1 vs ∧ ∀ k, vblk ev k → w0.heap.size ≤ k ∧ k ≠ b
 leaf : ∀ v ∈ vs, Leafy v
 lo : w0.heap.size ≤ b
 same : Same w0 w
section
variable {w0 : World} {b : Nat} {ca : Option Addr} {cc : Nat} {rv : Value} {L : List Comp} {size : Nat} {vs : List Value} {w : World} {pr : Nat → Prop} {Sa : Nat → Addr}
theorem LkAt.loc {w' : World} (h : LkAt w0 b ca cc rv L size vs w) (m : Same w w') : LkAt w0 b ca cc rv L size vs w' := by
 obtain ⟨ev, h1, h2, h3⟩ := h.ex
 exact ⟨⟨ev, m.get h1 (fun h => h), h2.same m, h3⟩, h.leaf, h.lo, h.same.trans m⟩
theorem lk_app (h : LkAt w0 b ca cc rv L size vs w) {v ev : Value} (hv : Leafy v) (hb : blk w b = some (.cells #[.slice ca L.length cc, rv, .int .i64 size, ev] 117)) (hn : vs.length ≤ 1000000) {K : World → Prop} (hK : ∀ w', LkAt w0 b ca cc rv L size (vs ++ [v]) w' → Mod (fun k => k = b ∨ vblk ev k) w w' → K w') :
  kbldS [.nilIface] 1 [(0, 1, v)] 33 w fun v11 w12 => kG (kld (.pointer (some ⟨b, 0 + 3, none⟩)) w12 fun v17 => v17 = ev ∧ w12 = w12) <| ksem Tryz.prog (Builtin.append_ #[115, 115] 0 #[ev, v11]) w12 fun v13 w14 => kN (.pointer (some ⟨b, 0, none⟩)) <| kfld 3 (.pointer (some ⟨b, 0, none⟩)) fun v15 => kst 1 v15 v13 w14 K := by
 obtain ⟨ev', hb', hO, hek⟩ := h.ex
 rw [hb] at hb'
 have ee : ev = ev' := by
  have := congrArg (fun o : Option Obj => match o with | some (.cells c _ _) => c[3]? | _ => none) hb'
  simpa using this
 subst ee
 obtain ⟨ty, y, rfl, hne⟩ := id hv
 refine kbldS_of (cs := [.iface ty y]) rfl fun w12 h12 hs12 hb12 => ?_
 refine kG_of (kld_of (v := ev) (h12.get hb (fun h => h)) rfl ⟨rfl, rfl⟩) ?_
 refine ksem_append apErr (by omega) (hO.same h12) (Src.ofSlIs (hk := slErr_is.choose_spec) 1 (SlIs.blk hb12 rfl) rfl) (by show _ + 1 ≤ _; omega) (by simp; omega) ?_
 intro v' w14 hO14 m14 hf14
 have hb14 := m14.get (h12.get hb (fun h => h)) (fun hk => (hek b hk).2 rfl)
 obtain ⟨a', n', c', rfl, _, _⟩ := hO14.is
 have hz := (h.same.trans h12).size
 have hbl := lt_of_blk hb
 have hz12 := h12.size
 have hv' : ∀ k, vblk (.slice a' n' c') k → w0.heap.size ≤ k ∧ k ≠ b := fun k hk => by
  rcases hf14 k hk with e | e
  ·exact hek k e
  ·exact ⟨by omega, by omega⟩
 refine kN_at ?_
 refine kfld_of ?_
 refine kst1_of hb14 rfl rfl (by show 3 < 4; omega) fun w16 h16 hs16 hb16 => ?_
 have hlo := h.lo
 refine hK _ ⟨⟨_, hb16, hO14.mod h16 fun k hk e => (hv' k hk).2 e, hv'⟩, fun u hu => ?_, h.lo, (h.same.trans h12).trans' ((m14.mono fun k _ e => .inr (hek k e).1).trans (h16.mono fun k _ e => .inr (by omega)))⟩ ((Mod.of_same h12).trans ((m14.mono fun k _ e => .inr e).trans (h16.mono fun k _ e => .inl e)))
 rcases List.mem_append.1 hu with hu | hu
 ·exact h.leaf u hu
 ·rw [List.mem_singleton.1 hu]; exact hv
theorem lkNote (hp : PowAt w0) (h : LkAt w0 b ca cc rv L size vs w) (hn : vs.length ≤ 1000000) (i : Int) (what : ByteArray) {k lo : Nat} {x : Value} (hx : ErrX Sa k lo x w) (hlo : lo ≤ w.heap.size) {ev : Value} (hb : blk w b = some (.cells #[.slice ca L.length cc, rv, .int .i64 size, ev] 117)) :
  Meets Tryz.prog 88 #[.pointer (some ⟨b, 0, none⟩), .int .i64 i, .string what, x] w fun v w' => ∃ vs', vs'.length = vs.length + 1 ∧ LkAt w0 b ca cc rv L size vs' w' ∧ Mod (fun k => k = b ∨ vblk ev k) w w' := by
 refine f88_ok ?_
 unfold f88
 have md : Same w w.drew := (Mod.refl (fun _ => False) _).drew
 have hd := h.loc md
 have hx := hx.same md
 have hlo : lo ≤ w.drew.heap.size := hlo
 have hb := md.get hb (fun h => h)
 generalize w.drew = wd at *
 have key : ∀ {w1 : World}, Same wd w1 → blk w1 b = some (.cells #[.slice ca L.length cc, rv, .int .i64 size, ev] 117) := fun m => m.get hb (fun h => h)
 refine kN_at ?_
 refine kfld_of ?_
 refine kld_of (v := ev) hb rfl ?_
 refine kG_of rfl ?_
 refine kcall_of (itoa_spec (hp.same hd.same) i) ?_
 rintro v w4 ⟨⟨l4, _, rfl⟩, h4⟩
 refine kG_of (kld_of (v := ev) (key h4) rfl ⟨rfl, rfl⟩) ?_
 refine kcall_of (atX_spec what (hx.same h4) (Nat.le_trans hlo h4.size)) ?_
 rintro v w6 ⟨hx6, h6⟩
 have m6 := h4.trans h6
 refine kG_of (kld_of (v := ev) (key m6) rfl ⟨rfl, rfl⟩) ?_
 refine kcall_of (atX_spec _ hx6 (Nat.le_trans hlo m6.size)) ?_
 rintro v w8 ⟨hx8, h8⟩
 have m8 := m6.trans h8
 refine kG_of (kld_of (v := ev) (key m8) rfl ⟨rfl, rfl⟩) ?_
 refine kcall_of (atX_spec _ hx8 (Nat.le_trans hlo m8.size)) ?_
 rintro v w10 ⟨hx10, h10⟩
 have m10 := m8.trans h10
 refine kG_of (kld_of (v := ev) (key m10) rfl ⟨rfl, rfl⟩) ?_
 refine lk_app (hd.loc m10) hx10.leafy (key m10) hn fun w' h' hm' => ?_
 exact ⟨_, by rw [List.length_append]; rfl, h', ((Mod.of_same md).trans (Mod.of_same m10)).trans hm'⟩
theorem lkComp (h : LkAt w0 b ca cc rv L size vs w) (hs : SlIs w0 ca L.length 7 (L.flatMap Comp.cells)) (n : Int) (rolled : Bool) :
  Meets Tryz.prog 148 #[.pointer (some ⟨b, 0, none⟩), .int .i64 n, .bool rolled] w fun v w' => (∃ bb : Bool, v = .bool bb ∧ (bb = true → 0 ≤ n ∧ n < L.length)) ∧ w' = w := by
 obtain ⟨ev, hb, _⟩ := id h.ex
 refine f148_ok ?_
 unfold f148
 refine geq_at ?_
 refine kB_at ?_
 refine kIf_dec (fun h0 => ?_) (fun h0 => ⟨⟨false, rfl, fun e => (by cases e)⟩, rfl⟩)
 refine kN_at ?_
 refine kfld_of ?_
 refine kfld_of ?_
 refine kld_at hb rfl ?_
 refine klen_at ?_
 refine lss_at ?_
 refine kB_at ?_
 refine kIf_dec (fun h1 => ?_) (fun h1 => ⟨⟨false, rfl, fun e => (by cases e)⟩, rfl⟩)
 refine not_at ?_
 refine kB_at ?_
 refine kIf_of (fun _ => ?_) (fun _ => ⟨⟨true, rfl, fun _ => ⟨h0, h1⟩⟩, rfl⟩)
 refine kN_at ?_
 refine kfld_of ?_
 refine kfld_of ?_
 refine kld_at hb rfl ?_
 obtain ⟨k, rfl⟩ : ∃ k : Nat, n = (k : Int) := ⟨n.toNat, by omega⟩
 refine kixfld_of (F := Comp.cells) (sz := 7) (fun _ => rfl) (j := 2) (hs.same h.same) (show k < L.length by omega) rfl rfl ?_
 exact ⟨⟨_, rfl, fun _ => ⟨h0, h1⟩⟩, rfl⟩
theorem lkSet (h : LkAt w0 b ca cc rv L size vs w) (n : Int) : Meets Tryz.prog 149 #[.pointer (some ⟨b, 0, none⟩), .int .i64 n] w fun v w' => (∃ bb : Bool, v = .bool bb) ∧ w' = w := by
 obtain ⟨ev, hb, _⟩ := id h.ex
 refine f149_ok ?_
 unfold f149
 refine kN_at ?_
 refine kfld_of ?_
 refine kfld_of ?_
 refine kld_at hb rfl ?_
 refine klen_at ?_
 rw [kmm_min]
 refine geq_at ?_
 refine kB_at ?_
 refine kIf_dec (fun h0 => ?_) (fun h0 => ⟨⟨_, rfl⟩, rfl⟩)
 rw [kint_shr]
 refine kG_of (by omega) ?_
 refine eql_at ?_
 exact ⟨⟨_, rfl⟩, rfl⟩
theorem lkOperand (hL : LaidP pr Sa w0) (h1 : pr 1) (h13 : pr 13) (h : LkAt w0 b ca cc rv L size vs w) (hs : SlIs w0 ca L.length 7 (L.flatMap Comp.cells)) (hrv : rv.cells = #[rv]) {ra : Option Addr} {rn rc : Nat} (erv : rv = .slice ra rn rc) (x : IN) :
  Meets Tryz.prog 89 #[.pointer (some ⟨b, 0, none⟩), .agg x.cells.toArray] w fun v w' => ((v = .nilIface ∧ (x.op = 22 ∨ x.op = 23 → 0 ≤ x.a ∧ x.a < L.length)) ∨ ∃ k, v = errV Sa k) ∧ Same w w' := by
 subst erv
 refine f89_ok ?_
 unfold f89
 refine knew_of fun w2 h2 hs2 hb2 => ?_
 have hb2 : blk w2 w.heap.size = some (.cells x.cells.toArray 67) := hb2
 have hl2 := h.loc h2
 have tail : ∀ (bb : Bool) (ww : World), Same w2 ww → (bb = true → (x.op = 22 ∨ x.op = 23 → 0 ≤ x.a ∧ x.a < L.length)) → f89_1 (.bool bb) (fun v w' => ((v = .nilIface ∧ (x.op = 22 ∨ x.op = 23 → 0 ≤ x.a ∧ x.a < L.length)) ∨ ∃ k, v = errV Sa k) ∧ Same w w') ww := by
  intro bb ww m hbb
  unfold f89_1
  refine not_at ?_
  refine kB_at ?_
  refine kIf_of (fun hb => ?_) (fun hb => ?_)
  ·refine kld_err (hL.same (hl2.same.trans m)) h1 rfl rfl ?_
   exact ⟨.inr ⟨1, rfl⟩, h2.trans m⟩
  ·have hb : bb = true := by simpa using hb
   unfold f89_2
   exact ⟨.inl ⟨rfl, hbb hb⟩, h2.trans m⟩
 refine kfld_of ?_
 refine kld_at (v := .int .i64 x.op) hb2 rfl ?_
 refine eql_at ?_
 refine kB_at ?_
 have jmp : (x.op = 20 ∨ x.op = 21) → f89_0 (.pointer (some ⟨b, 0, none⟩)) (.pointer (some ⟨w.heap.size, 0, none⟩)) (.bool true) (.int .i64 x.op) (.bool true) (fun v w' => ((v = .nilIface ∧ (x.op = 22 ∨ x.op = 23 → 0 ≤ x.a ∧ x.a < L.length)) ∨ ∃ k, v = errV Sa k) ∧ Same w w') w2 := by
  intro hj
  unfold f89_0
  refine kB_at ?_
  refine kIf_T rfl ?_
  have md : Same w2 w2.drew := (Mod.refl (fun _ => False) _).drew
  have hbd := md.get hb2 (fun h => h)
  have hld := hl2.loc md
  generalize w2.drew = wd at *
  obtain ⟨ev, hb, _⟩ := id hld.ex
  refine kfld_of ?_
  refine kld_at (v := .int .i64 x.a) hbd rfl ?_
  refine kG_of rfl ?_
  refine kN_at ?_
  refine kfld_of ?_
  refine kld_at (v := .int .i64 size) hb rfl ?_
  refine kG_of rfl ?_
  refine kcall_of (isPlace_spec x.a size wd) ?_
  rintro v w11 ⟨rfl, rfl⟩
  refine not_at ?_
  refine kB_at ?_
  refine kIf_of (fun _ => ?_) (fun _ => ?_)
  ·refine kld_err (hL.same hld.same) h13 rfl rfl ?_
   exact ⟨.inr ⟨13, rfl⟩, h2.trans md⟩
  ·exact tail true _ md fun _ e => by omega
 refine kIf_dec (fun e20 => by rw [decT e20]; exact jmp (.inl e20)) (fun e20 => ?_)
 refine eql_at ?_
 by_cases e21 : x.op = 21
 ·rw [decT e21]; exact jmp (.inr e21)
 rw [decF e21]
 unfold f89_0
 refine kB_at ?_
 refine kIf_F rfl ?_
 refine eql_at ?_
 refine kB_at ?_
 have f3 : (x.op = 22 ∨ x.op = 24) → f89_3 (.pointer (some ⟨b, 0, none⟩)) (.pointer (some ⟨w.heap.size, 0, none⟩)) (.bool true) (.int .i64 x.op) (.bool true) (fun v w' => ((v = .nilIface ∧ (x.op = 22 ∨ x.op = 23 → 0 ≤ x.a ∧ x.a < L.length)) ∨ ∃ k, v = errV Sa k) ∧ Same w w') w2 := by
  intro _
  unfold f89_3
  refine kB_at ?_
  refine kIf_T rfl ?_
  refine kfld_of ?_
  refine kld_at (v := .int .i64 x.a) hb2 rfl ?_
  refine kcall_of (lkComp hl2 hs x.a true) ?_
  rintro v w22 ⟨⟨bb, rfl, hbb⟩, rfl⟩
  exact tail bb _ (Mod.refl _ _) fun e _ => hbb e
 refine kIf_dec (fun e22 => by rw [decT e22]; exact f3 (.inl e22)) (fun e22 => ?_)
 refine eql_at ?_
 by_cases e24 : x.op = 24
 ·rw [decT e24]; exact f3 (.inr e24)
 rw [decF e24]
 unfold f89_3
 refine kB_at ?_
 refine kIf_F rfl ?_
 refine eql_at ?_
 refine kB_at ?_
 have f4 : f89_4 (.pointer (some ⟨b, 0, none⟩)) (.pointer (some ⟨w.heap.size, 0, none⟩)) (.bool true) (.int .i64 x.op) (.bool true) (fun v w' => ((v = .nilIface ∧ (x.op = 22 ∨ x.op = 23 → 0 ≤ x.a ∧ x.a < L.length)) ∨ ∃ k, v = errV Sa k) ∧ Same w w') w2 := by
  unfold f89_4
  refine kB_at ?_
  refine kIf_T rfl ?_
  refine kfld_of ?_
  refine kld_at (v := .int .i64 x.a) hb2 rfl ?_
  refine kcall_of (lkComp hl2 hs x.a false) ?_
  rintro v w27 ⟨⟨bb, rfl, hbb⟩, rfl⟩
  exact tail bb _ (Mod.refl _ _) fun e _ => hbb e
 refine kIf_dec (fun e23 => by rw [decT e23]; exact f4) (fun e23 => ?_)
 have no : ∀ {bb : Bool}, bb = true → (x.op = 22 ∨ x.op = 23 → 0 ≤ x.a ∧ x.a < L.length) := fun _ e => by omega
 refine eql_at ?_
 refine kB_at ?_
 refine kIf_dec (fun e33 => by rw [decT e33]; exact f4) (fun e33 => ?_)
 refine eql_at ?_
 by_cases e34 : x.op = 34
 ·rw [decT e34]; exact f4
 rw [decF e34]
 unfold f89_4
 refine kB_at ?_
 refine kIf_F rfl ?_
 refine eql_at ?_
 refine kB_at ?_
 refine kIf_dec (fun e25 => ?_) (fun e25 => ?_)
 ·refine kfld_of ?_
  refine kld_at (v := .int .i64 x.a) hb2 rfl ?_
  refine geq_at ?_
  refine kB_at ?_
  refine kIf_dec (fun _ => ?_) (fun _ => tail false _ (Mod.refl _ _) no)
  refine kfld_of ?_
  refine kld_at (v := .int .i64 x.a) hb2 rfl ?_
  refine lss_at ?_
  exact tail _ _ (Mod.refl _ _) no
 have f5 : f89_5 (.pointer (some ⟨b, 0, none⟩)) (.pointer (some ⟨w.heap.size, 0, none⟩)) (.bool true) (.int .i64 x.op) (.bool true) (fun v w' => ((v = .nilIface ∧ (x.op = 22 ∨ x.op = 23 → 0 ≤ x.a ∧ x.a < L.length)) ∨ ∃ k, v = errV Sa k) ∧ Same w w') w2 := by
  unfold f89_5
  refine kB_at ?_
  refine kIf_T rfl ?_
  have md : Same w2 w2.drew := (Mod.refl (fun _ => False) _).drew
  have hbd := md.get hb2 (fun h => h)
  have hld := hl2.loc md
  generalize w2.drew = wd at *
  obtain ⟨ev, hb, _⟩ := id hld.ex
  refine kfld_of ?_
  refine kld_at (v := .int .i64 x.a) hbd rfl ?_
  refine kG_of rfl ?_
  refine geq_at ?_
  refine kB_at ?_
  refine kIf_dec (fun _ => ?_) (fun _ => tail false _ md no)
  refine kfld_of ?_
  refine kld_at (v := .int .i64 x.a) hbd rfl ?_
  refine kG_of rfl ?_
  refine kN_at ?_
  refine kfld_of ?_
  refine kfld_of ?_
  refine kld_at hb rfl ?_
  refine kG_of rfl ?_
  refine klen_at ?_
  refine lss_at ?_
  exact tail _ _ md no
 refine eql_at ?_
 refine kB_at ?_
 refine kIf_dec (fun e26 => by rw [decT e26]; exact f5) (fun e26 => ?_)
 refine eql_at ?_
 by_cases e27 : x.op = 27
 ·rw [decT e27]; exact f5
 rw [decF e27]
 unfold f89_5
 refine kB_at ?_
 refine kIf_F rfl ?_
 refine eql_at ?_
 refine kB_at ?_
 refine kIf_dec (fun e31 => ?_) (fun e31 => ?_)
 ·refine kfld_of ?_
  refine kld_at (v := .int .i64 x.a) hb2 rfl ?_
  refine kcall_of (lkSet hl2 x.a) ?_
  rintro v w53 ⟨⟨bb, rfl⟩, rfl⟩
  exact tail bb _ (Mod.refl _ _) no
 refine eql_at ?_
 refine kB_at ?_
 refine kIf_dec (fun e1 => tail true _ (Mod.refl _ _) no) (fun e1 => ?_)
 refine kfld_of ?_
 refine kld_at (v := .int .i64 x.a) hb2 rfl ?_
 refine eql_at ?_
 exact tail _ _ (Mod.refl _ _) no
theorem args_two {op : Int} (h : ¬ (rowF op).2.1 < 2) : op = 22 ∨ op = 23 := by
 have hall : ∀ n, n < 36 → ¬ ((opRows[n]?.map fun r => r.2.1).getD 0) < 2 → n = 22 ∨ n = 23 := by decide
 by_cases hh : op < 0 ∨ 36 ≤ op
 ·rw [rowF_no hh] at h; exact absurd (by decide) h
 ·obtain ⟨n, rfl⟩ : ∃ n : Nat, op = (n : Int) := ⟨op.toNat, by omega⟩
  rw [rowF_nat n (by omega)] at h
  have := hall n (by omega) (by rw [List.getElem?_eq_getElem (by simpa [opRows_len] using (show n < 36 by omega))]; exact h)
  omega
theorem lkCell (hr : RowsAt w0) (h : LkAt w0 b ca cc rv L size vs w) (hs : SlIs w0 ca L.length 7 (L.flatMap Comp.cells)) (x : IN) (hx : x.op = 22 ∨ x.op = 23 → 0 ≤ x.a ∧ x.a < L.length) :
  Meets Tryz.prog 91 #[.pointer (some ⟨b, 0, none⟩), .agg x.cells.toArray] w fun v w' => (∃ bb : Bool, v = .bool bb) ∧ Same w w' := by
 refine f91_ok ?_
 unfold f91
 refine knew_of fun w2 h2 hs2 hb2 => ?_
 have hb2 : blk w2 w.heap.size = some (.cells x.cells.toArray 67) := hb2
 refine kfld_of ?_
 refine kld_at (v := .int .i64 x.op) hb2 rfl ?_
 refine kcall_of (args_spec (hr.same (h.same.trans h2)) x.op) ?_
 rintro v w6 ⟨rfl, h6⟩
 have m6 := h2.trans h6
 have hb6 := h6.get hb2 (fun h => h)
 refine lss_at ?_
 refine kB_at ?_
 refine kIf_dec (fun _ => ?_) (fun h2' => ?_)
 ·refine kfld_of ?_
  refine kld_at (v := .int .i64 x.b) hb6 rfl ?_
  refine eql_at ?_
  exact ⟨⟨_, rfl⟩, m6⟩
 ·obtain ⟨a0, a1⟩ := hx (args_two h2')
  unfold f91_0
  have md : Same w6 w6.drew := (Mod.refl (fun _ => False) _).drew
  have hbd := md.get hb6 (fun h => h)
  have hld := h.loc (m6.trans md)
  have mm := m6.trans md
  generalize w6.drew = wd at *
  obtain ⟨ev, hb, _⟩ := id hld.ex
  refine kfld_of ?_
  refine kld_at (v := .int .i64 x.b) hbd rfl ?_
  refine kG_of rfl ?_
  refine geq_at ?_
  refine kB_at ?_
  refine kIf_dec (fun _ => ?_) (fun _ => ⟨⟨_, rfl⟩, mm⟩)
  refine kfld_of ?_
  refine kld_at (v := .int .i64 x.b) hbd rfl ?_
  refine kG_of rfl ?_
  refine kN_at ?_
  refine kfld_of ?_
  refine kfld_of ?_
  refine kld_at hb rfl ?_
  refine kG_of rfl ?_
  refine kfld_of ?_
  obtain ⟨k, hk⟩ : ∃ k : Nat, x.a = (k : Int) := ⟨x.a.toNat, by omega⟩
  refine kld_of (v := .int .i64 k) hbd (by rw [← hk]; rfl) ?_
  refine kG_of rfl ?_
  refine kixfld_of (F := Comp.cells) (sz := 7) (fun _ => rfl) (j := 1) (hs.same hld.same) (show k < L.length by omega) rfl rfl ?_
  refine kG_of rfl ?_
  refine lss_at ?_
  exact ⟨⟨_, rfl⟩, mm⟩
end
end
section
attribute [local irreducible] kO kB kStr kInt kN kG kIf kfld kld kldN kst knew kmap kbld kbldS kext kcnv klenStr klen kcap kprt kprtN kbool kint kstr keq kun ksl kix kiv kta kmk kmm ksem ksemU kextf kcallV kcallM kcall kL
theorem args_lt {op : Int} (h : (rowF op).2.1 < 2) : ¬ (op = 22 ∨ op = 23) := by
 rintro (rfl | rfl)
 ·exact absurd h (by decide)
 ·exact absurd h (by decide)
section
variable {w0 : World} {b : Nat} {ca : Option Addr} {cc : Nat} {L : List Comp} {size : Nat} {vs : List Value} {w : World} {pr : Nat → Prop} {Sa : Nat → Addr} {ra : Option Addr} {rn rc : Nat}
theorem lkIns (hL : LaidP pr Sa w0) (h1 : pr 1) (h13 : pr 13) (h14 : pr 14) (hr : RowsAt w0) (hp : PowAt w0) (h : LkAt w0 b ca cc (.slice ra rn rc) L size vs w) (hs : SlIs w0 ca L.length 7 (L.flatMap Comp.cells)) (hn : vs.length ≤ 100000) (i : Int) (x : IN) :
  Meets Tryz.prog 47 #[.pointer (some ⟨b, 0, none⟩), .int .i64 i, .agg x.cells.toArray] w fun v w' => ∃ vs', LkAt w0 b ca cc (.slice ra rn rc) L size vs' w' ∧ vs'.length ≤ vs.length + 2 := by
 obtain ⟨ev, hbe, hOe, _⟩ := id h.ex
 have hbl := lt_of_blk hbe
 refine f47_ok ?_
 unfold f47
 refine knew_of fun w2 h2 hs2 hb2 => ?_
 have hb2 : blk w2 w.heap.size = some (.cells x.cells.toArray 67) := hb2
 refine kfld_of ?_
 refine kld_at (v := .int .i64 x.op) hb2 rfl ?_
 refine kcall_of (codeAny (hr.same (h.same.trans h2)) x.op) ?_
 rintro v w6 ⟨rfl, h6⟩
 unfold rowAny
 refine kext_at rfl ?_
 refine kext_at rfl ?_
 refine knew_of fun w10 h10 hs10 hb10 => ?_
 refine kst_of (vs := rowC (rowF x.op)) hb10 rfl rfl rfl (by simp) (by simp [rowC]) fun w11 h11 hs11 hb11 => ?_
 have m11 : Same w w11 := (h2.trans h6).trans (h10.trans' (h11.mono fun k _ e => .inr (by omega)))
 have hb11' : blk w11 w.heap.size = some (.cells x.cells.toArray 67) := by
  have := h2.size
  exact (h10.trans' (h11.mono fun k _ e => .inr (by omega)) : Same w6 w11).get (h6.get hb2 (fun h => h)) (fun h => h)
 have hk := h.loc m11
 clear hb11 hb10 h10 hs10 h11 hs11
 refine not_at ?_
 refine kB_at ?_
 refine kIf_ndec (fun _ => ?_) (fun _ => ?_)
 ·refine kld_err (hL.same hk.same) h14 rfl rfl ?_
  refine kcall_of (lkNote hp hk (by omega) i _ (ErrX.sent Sa 14 w11.heap.size w11) (Nat.le_refl _) (m11.get hbe (fun h => h))) ?_
  rintro v w15 ⟨vs', hl', hk', _⟩
  exact ⟨vs', hk', by omega⟩
 unfold f47_0
 refine kldN_at (cs := x.cells) hb11' rfl (by omega) ?_
 refine kcall_of (lkOperand hL h1 h13 hk hs rfl rfl x) ?_
 rintro v w18 ⟨hv, h18⟩
 have hk18 := hk.loc h18
 have hb18 := h18.get hb11' (fun h => h)
 have f2 : ∀ (bb : Bool) (vs1 : List Value) (ww : World), LkAt w0 b ca cc (.slice ra rn rc) L size vs1 ww → vs1.length ≤ vs.length + 1 → f47_2 (.pointer (some ⟨b, 0, none⟩)) (.int .i64 i) (.bool bb) (fun v w' => ∃ vs', LkAt w0 b ca cc (.slice ra rn rc) L size vs' w' ∧ vs'.length ≤ vs.length + 2) ww := by
  intro bb vs1 ww hk1 hl1
  unfold f47_2
  refine kB_at ?_
  refine kIf_of (fun _ => ?_) (fun _ => ⟨vs1, hk1, by omega⟩)
  refine kld_err (hL.same hk1.same) h1 rfl rfl ?_
  refine kcall_of (lkNote hp hk1 (by omega) i _ (ErrX.sent Sa 1 ww.heap.size ww) (Nat.le_refl _) hk1.ex.choose_spec.1) ?_
  rintro v w38 ⟨vs', hl', hk', _⟩
  exact ⟨vs', hk', by omega⟩
 rcases hv with ⟨rfl, hx⟩ | ⟨k, rfl⟩
 ·rw [keq_nil_nil' ifErr]
  refine kB_at ?_
  refine kIf_F rfl ?_
  unfold f47_1
  rw [keq_nil_nil ifErr]
  refine kB_at ?_
  refine kIf_F rfl ?_
  refine kldN_at (cs := x.cells) hb18 rfl (by omega) ?_
  refine kcall_of (lkCell hr hk18 hs x hx) ?_
  rintro v w42 ⟨⟨bb, rfl⟩, h42⟩
  refine not_at ?_
  exact f2 _ vs w42 (hk18.loc h42) (by omega)
 ·have hE : ErrX Sa k w18.heap.size (errV Sa k) w18 := ErrX.sent Sa k _ _
  unfold errV at *
  rw [keq_if_nil' ifErr]
  refine kB_at ?_
  refine kIf_T rfl ?_
  refine kcall_of (lkNote hp hk18 (by omega) i _ hE (Nat.le_refl _) ((m11.trans h18).get hbe (fun h => h))) ?_
  rintro v w22 ⟨vs', hl', hk22, hm22⟩
  have hb22 := hm22.get hb18 (fun e => by
   rcases e with e | e
   ·omega
   ·have := hOe.vblk_lt e; omega)
  unfold f47_1
  rw [keq_if_nil ifErr]
  refine kB_at ?_
  refine kIf_T rfl ?_
  refine kfld_of ?_
  refine kld_at (v := .int .i64 x.op) hb22 rfl ?_
  refine kcall_of (args_spec (hr.same hk22.same) x.op) ?_
  rintro v w29 ⟨rfl, h29⟩
  have hk29 := hk22.loc h29
  refine lss_at ?_
  refine kB_at ?_
  refine kIf_dec (fun ha => ?_) (fun ha => f2 false vs' w29 hk29 (by omega))
  refine kldN_at (cs := x.cells) (h29.get hb22 (fun h => h)) rfl (by omega) ?_
  refine kcall_of (lkCell hr hk29 hs x (fun e => absurd e (args_lt ha))) ?_
  rintro v w34 ⟨⟨bb, rfl⟩, h34⟩
  refine not_at ?_
  exact f2 _ vs' w34 (hk29.loc h34) (by omega)
end
section
variable {w : World} {ca : Option Addr} {cc : Nat} {L : List Comp} {pr : Nat → Prop} {Sa : Nat → Addr} {ra : Option Addr} {rn rc : Nat} {la : Option Addr} {lc : Nat} {l : List IN}
theorem codeCheck_spec (hL : LaidP pr Sa w) (h1 : pr 1) (h4 : pr 4) (h12 : pr 12) (h13 : pr 13) (h14 : pr 14) (hr : RowsAt w) (hp : PowAt w) (hs : SlIs w ca L.length 7 (L.flatMap Comp.cells)) (hl : SlIs w la l.length 3 (l.flatMap IN.cells)) (hn : l.length ≤ 1000) :
  Meets Tryz.prog 15 #[scV ca L.length cc (.slice ra rn rc), .slice la l.length lc] w fun v w' => (v = .nilIface ∧ depthsOk l ∨ ErrI v) ∧ Same w w' := by
 rw [scV]
 refine f15_ok ?_
 unfold f15
 refine knew_of fun w2 h2 hs2 hb2 => ?_
 have hb2 : blk w2 w.heap.size = some (.cells #[.slice ca L.length cc, .slice ra rn rc] 25) := hb2
 refine kldN_at (cs := [.slice ca L.length cc, .slice ra rn rc]) hb2 rfl (by omega) ?_
 refine klen_at ?_
 refine kbld_of (cs := [.slice ca L.length cc, .slice ra rn rc, .int .i64 l.length, .slice none 0 0]) rfl ?_
 refine knew_of fun w8 h8 hs8 hb8 => ?_
 have hb8 : blk w8 w2.heap.size = some (.cells #[.slice ca L.length cc, .slice ra rn rc, .int .i64 l.length, .slice none 0 0] 117) := hb8
 have hz2 := h2.size
 have hk8 : LkAt w w2.heap.size ca cc (.slice ra rn rc) L l.length [] w8 := ⟨⟨_, hb8, Own.nil _ _, fun k hk => absurd hk (nvn k)⟩, fun v hv => (by cases hv), hz2, h2.trans h8⟩
 have f5 : ∀ (vs : List Value) (ww : World), LkAt w w2.heap.size ca cc (.slice ra rn rc) L l.length vs ww → vs.length ≤ 100000 → (vs = [] → depthsOk l) → f15_5 (.pointer (some ⟨w2.heap.size, 0, none⟩)) (fun v w' => (v = .nilIface ∧ depthsOk l ∨ ErrI v) ∧ Same w w') ww := by
  intro vs ww hk hvn hok
  obtain ⟨ev, hb, hO, _⟩ := id hk.ex
  obtain ⟨ea, en, ec, rfl, hse, hen⟩ := hO.is
  obtain rfl : en = vs.length := hen rfl
  unfold f15_5
  refine kN_at ?_
  refine kfld_of ?_
  refine kld_at hb rfl ?_
  refine kcall_of (allP_spec hse hk.leaf (by omega)) ?_
  rintro v w59 ⟨hv, h59⟩
  rcases hv with ⟨e, rfl⟩ | ⟨_, hv⟩
  ·exact ⟨.inl ⟨rfl, hok e⟩, hk.same.trans h59⟩
  ·exact ⟨.inr hv, hk.same.trans h59⟩
 have f0 : ∀ (vs : List Value) (ww : World), LkAt w w2.heap.size ca cc (.slice ra rn rc) L l.length vs ww → vs.length ≤ 1 → f15_0 (.slice la l.length lc) (.pointer (some ⟨w2.heap.size, 0, none⟩)) (fun v w' => (v = .nilIface ∧ depthsOk l ∨ ErrI v) ∧ Same w w') ww := by
  intro vs ww hk hvn
  unfold f15_0
  refine klen_at ?_
  refine kL1_of l.length (fun i x wr => x = .int .i64 i ∧ ∃ vs, vs.length ≤ 1 + 2 * i ∧ LkAt w w2.heap.size ca cc (.slice ra rn rc) L l.length vs wr) ⟨lI1_0 ⟨rfl, vs, by omega, hk⟩, fun x wr hx => ?_⟩
  obtain ⟨i, hi, ⟨rfl, vs, hvl, hk⟩, hJ⟩ := lI1_step hx
  unfold f15_1
  refine lss_at ?_
  refine kB_at ?_
  refine kIf_dec (fun hlt => ?_) (fun hge => ?_)
  ·have hlt : i < l.length := by omega
   unfold f15_2
   refine kixldN_of (F := IN.cells) (sz := 3) (fun _ => rfl) (by omega) (hl.same hk.same) hlt rfl ?_
   generalize l[i] = x at *
   refine knew_of fun w29 h29 hs29 hb29 => ?_
   refine kst_of (vs := x.cells) hb29 rfl rfl rfl (by simp) (by simp [IN.cells]) fun w30 h30 hs30 hb30 => ?_
   have hb30 : blk w30 wr.heap.size = some (.cells x.cells.toArray 67) := hb30
   have m30 : Same wr w30 := h29.trans' (h30.mono fun k _ e => .inr (by omega))
   refine kldN_at (cs := x.cells) hb30 rfl (by omega) ?_
   refine kcall_of (lkIns hL h1 h13 h14 hr hp (hk.loc m30) hs (by omega) i x) ?_
   rintro v w33 ⟨vs', hk', hl'⟩
   unfold f15_3
   refine add_at (by omega) (by omega) ?_
   rw [cast_succ]
   exact hJ _ _ hlt ⟨rfl, vs', by omega, hk'⟩
  ·obtain ⟨ev, hb, hO, _⟩ := id hk.ex
   obtain ⟨ea, en, ec, rfl, hse, hen⟩ := hO.is
   obtain rfl : en = vs.length := hen rfl
   unfold f15_4
   refine kN_at ?_
   refine kfld_of ?_
   refine kld_at hb rfl ?_
   refine klen_at ?_
   refine eql_at ?_
   refine kB_at ?_
   refine kIf_dec (fun h0 => ?_) (fun h0 => f5 vs _ hk (by omega) fun e => absurd (by rw [e]; rfl) h0)
   refine kcall_of (depths_spec (lc := lc) (hr.same hk.same) (hl.same hk.same) hn) ?_
   rintro v w41 ⟨⟨x, bb, rfl, hbb⟩, h41⟩
   have hk41 := hk.loc h41
   refine kext_at rfl ?_
   refine kext_at rfl ?_
   refine not_at ?_
   refine kB_at ?_
   refine kIf_of (fun _ => ?_) (fun hb' => f5 vs _ hk41 (by omega) fun _ => hbb.1 (by simpa using hb'))
   have md : Same w41 w41.drew := (Mod.refl (fun _ => False) _).drew
   have hkd := hk41.loc md
   have hbd := (h41.trans md).get hb (fun h => h)
   generalize w41.drew = wd at *
   refine kN_at ?_
   refine kfld_of ?_
   refine kld_at hbd rfl ?_
   refine kG_of rfl ?_
   refine kld_err (hL.same hkd.same) h12 rfl rfl ?_
   refine kG_of rfl ?_
   refine kcall_of (atX_spec _ (ErrX.sent Sa 12 wd.heap.size wd) (Nat.le_refl _)) ?_
   rintro v w49 ⟨hE, h49⟩
   have hb49 := h49.get hbd (fun h => h)
   refine kG_of (kld_at hb49 rfl ⟨rfl, rfl⟩) ?_
   refine lk_app (hkd.loc h49) hE.leafy hb49 (by omega) fun w' h' _ => ?_
   exact f5 _ _ h' (by rw [List.length_append, List.length_singleton]; omega) fun e => (by simp at e)
 refine klen_at ?_
 refine gtr_at ?_
 refine kB_at ?_
 refine kIf_dec (fun _ => ?_) (fun _ => f0 [] _ hk8 (Nat.zero_le _))
 have md : Same w8 w8.drew := (Mod.refl (fun _ => False) _).drew
 have hkd := hk8.loc md
 have hbd := md.get hb8 (fun h => h)
 generalize w8.drew = wd at *
 refine kN_at ?_
 refine kfld_of ?_
 refine kld_at hbd rfl ?_
 refine kG_of rfl ?_
 refine kld_err (hL.same hkd.same) h4 rfl rfl ?_
 refine kG_of rfl ?_
 refine kcall_of (atX_spec _ (ErrX.sent Sa 4 wd.heap.size wd) (Nat.le_refl _)) ?_
 rintro v w16 ⟨hE, h16⟩
 have hb16 := h16.get hbd (fun h => h)
 refine kG_of (kld_at hb16 rfl ⟨rfl, rfl⟩) ?_
 refine lk_app (hkd.loc h16) hE.leafy hb16 (by simp) fun w' h' _ => ?_
 exact f0 _ _ h' (by simp)
end
end
section
attribute [local irreducible] kO kB kStr kInt kN kG kIf kfld kld kldN kst knew kmap kbld kbldS kext kcnv klenStr klen kcap kprt kprtN kbool kint kstr keq kun ksl kix kiv kta kmk kmm ksem ksemU kextf kcallV kcallM kcall kL
def noneM : HostM Unit := ⟨fun _ x => if x.op = 1 then some x.a else none, fun _ _ _ => (), fun _ _ => ((), 0)⟩
def noneOk (x : IN) : Prop := (x.op = 1 ∨ x.op = 6 ∨ x.op = 7 ∨ x.op = 20 ∨ x.op = 35) ∧ I64 x.a
def noneI (w0 : World) (X : Nat → Prop) (w : World) (_ : Unit) : Prop := Same w0 w ∧ ∀ k, X k → w0.heap.size ≤ k ∧ k < w.heap.size
def nilH : HC := ⟨none, none, 0, 0, 0⟩
theorem none_host (w0 : World) : HostI noneM nilH w0 noneOk (fun _ => 0) (noneI w0) where
 base h := h.1
 lt h := h.2
 loc h m := ⟨h.1.trans m, fun k hk => ⟨(h.2 k hk).1, Nat.lt_of_lt_of_le (h.2 k hk).2 m.size⟩⟩
 less h hs := ⟨h.1, fun k hk => h.2 k (hs k hk)⟩
 grow h m hf := ⟨h.1.trans' (m.mono fun k _ hk => .inr (h.2 k (hf k hk)).1), fun k hk => hk.elim (fun hk => ⟨(h.2 k hk).1, Nat.lt_of_lt_of_le (h.2 k hk).2 m.size⟩) (fun hk => ⟨Nat.le_trans h.1.size hk.1, hk.2⟩)⟩
 rdo s x h := by
  unfold noneM at h
  by_cases h1 : x.op = 1
  ·exact .inl h1
  ·exact absurd (if_neg h1) h
 rdi s x h hr := by
  unfold noneOk at h
  unfold reads at hr
  have h1 : x.op = 1 := by omega
  show (if x.op = 1 then some x.a else none) ≠ none
  rw [if_pos h1]; exact fun e => by cases e
 read {X w s b x} h hb hok := by
  refine f82_ok ?_
  unfold f82
  refine knew_of fun w2 h2 hs2 hb2 => ?_
  have hb2 : blk w2 w.heap.size = some (.cells x.cells.toArray 67) := hb2
  refine kfld_of ?_
  refine kld_of (v := .int .i64 x.op) hb2 rfl ?_
  have e : noneM.rd s x = if x.op = 1 then some x.a else none := rfl
  rw [e]
  unfold noneOk at hok
  refine eql_at ?_
  refine kB_at ?_
  refine kIf_dec (fun h1 => ?_) (fun h1 => ?_)
  ·rw [if_pos h1]
   refine kfld_of ?_
   refine kld_of (v := .int .i64 x.a) hb2 rfl ?_
   exact ⟨rfl, h2⟩
  ·rw [if_neg h1]
   repeat (first | refine kN_at ?_ | refine kB_at ?_ | refine kfld_of ?_ | refine kext_at rfl ?_ | refine kG_of (by first | exact rfl | omega) ?_ | refine klen_at ?_ | refine eql_at ?_ | refine neq_at ?_ | refine lss_at ?_ | refine leq_at ?_ | refine gtr_at ?_ | refine geq_at ?_ | refine add_at (by omega) (by omega) ?_ | refine sub_at (by omega) (by omega) ?_ | refine not_at ?_ | refine kO_at ?_ | refine kprt_at rfl ?_ | refine kprtN_at rfl ?_ | refine kcap_at ?_ | refine klenStr_at ?_ | refine kN_iat ?_ | refine kN_fat ?_ | refine kIf_T (by first | exact rfl | exact decT (by omega) | exact notT (decF (by omega))) ?_ | refine kIf_F (by first | exact rfl | exact decF (by omega) | exact notF (decT (by omega))) ?_)
   exact ⟨rfl, h2⟩
 write h hb hX hok ho hc _ := by unfold noneOk at hok; exact absurd hok (by omega)
 draw h hb hX hok ho hc _ := by unfold noneOk at hok; exact absurd hok (by omega)
 rd64 {X w s x v} h hok hv := by
  have e : noneM.rd s x = if x.op = 1 then some x.a else none := rfl
  rw [e] at hv
  split at hv
  ·cases hv; exact hok.2
  ·cases hv
 dr64 s n := I64_0
 costw s x n := Nat.zero_le _
 costd s n := Nat.zero_le _
theorem nRun {p : Nat → Prop} {Sa : Nat → Addr} {w : World} (ht : Tld p Sa w) {l : List IN} {a : Option Addr} {c : Nat} (hs : SlIs w a l.length 3 (l.flatMap IN.cells)) (hl : l.length ≤ 1000000) (hok : ∀ x ∈ l, noneOk x) (fuel : Int) {n : Nat} {k : Nat} (h1 : (runF noneM l (fuel0 fuel + 1) (MS.first fuel ())).1.fuel = n) (h2 : (runF noneM l (fuel0 fuel + 1) (MS.first fuel ())).2 = k) :
  Meets Tryz.prog 30 #[.agg nilH.cells.toArray, .slice a l.length c, .int .i64 fuel] w fun v w' => (∃ e, v = .tuple #[natV n, e] ∧ ErrN Sa k w.heap.size e w') ∧ Same w w' :=
 (mlRun ht (none_host w) hs hl hok (s := ()) (X := fun _ => False) (E := fun _ => False) ⟨Mod.refl _ _, fun k hk => hk.elim⟩ (fun k hk => hk) fuel (by unfold fuel0; omega)).mono fun v w' ⟨⟨e, e1, e2⟩, ⟨X', hI, _⟩, _⟩ => ⟨⟨e, by rw [← h1]; exact e1, by rw [← h2]; exact e2⟩, hI.1⟩
theorem sameI_spec {w : World} {a b : Option Addr} {l1 l2 : List Int} {c1 c2 : Nat} (h1 : SlIs w a l1.length 1 (l1.map nV)) (h2 : SlIs w b l2.length 1 (l2.map nV)) (hl : l1.length ≤ 1099511627776) :
  Meets Tryz.prog 31 #[.slice a l1.length c1, .slice b l2.length c2] w fun v w' => v = .bool (decide (l1 = l2)) ∧ Same w w' := by
 refine f31_ok ?_
 unfold f31
 repeat (first | refine kN_at ?_ | refine kB_at ?_ | refine kfld_of ?_ | refine kext_at rfl ?_ | refine kG_of (by first | exact rfl | omega) ?_ | refine klen_at ?_ | refine eql_at ?_ | refine neq_at ?_ | refine lss_at ?_ | refine leq_at ?_ | refine gtr_at ?_ | refine geq_at ?_ | refine add_at (by omega) (by omega) ?_ | refine sub_at (by omega) (by omega) ?_ | refine not_at ?_ | refine kO_at ?_ | refine kprt_at rfl ?_ | refine kprtN_at rfl ?_ | refine kcap_at ?_ | refine klenStr_at ?_ | refine kN_iat ?_ | refine kN_fat ?_ | refine kIf_T (by first | exact rfl | exact decT (by omega) | exact notT (decF (by omega))) ?_ | refine kIf_F (by first | exact rfl | exact decF (by omega) | exact notF (decT (by omega))) ?_)
 refine kIf_dec (fun hne => ⟨?_, Mod.refl _ _⟩) (fun heq => ?_)
 ·rw [decide_eq_false]
  rintro rfl
  exact hne rfl
 have hlen : l1.length = l2.length := by omega
 unfold f31_0
 refine kL1_of l1.length (fun i x wr => x = .int .i64 i ∧ Same w wr ∧ l1.take i = l2.take i) ⟨lI1_0 ⟨rfl, Mod.refl _ _, by simp⟩, fun x wr hx => ?_⟩
 obtain ⟨i, hi, ⟨rfl, hm, ht⟩, hJ⟩ := lI1_step hx
 unfold f31_1
 refine klen_at ?_
 refine lss_at ?_
 refine kB_at ?_
 refine kIf_dec (fun hlt => ?_) (fun hge => ?_)
 ·have hlt : i < l1.length := by omega
  unfold f31_2
  refine kixld_of (F := nV) (h1.same hm) hlt rfl ?_
  refine kG_of rfl ?_
  refine kixld_of (F := nV) (h2.same hm) (by omega) rfl ?_
  refine kG_of rfl ?_
  refine neq_at ?_
  refine kB_at ?_
  have t1 := List.take_add_one (l := l1) (i := i)
  have t2 := List.take_add_one (l := l2) (i := i)
  rw [List.getElem?_eq_getElem hlt] at t1
  rw [List.getElem?_eq_getElem (show i < l2.length by omega)] at t2
  refine kIf_dec (fun hne => ⟨?_, hm.drew⟩) (fun heq => ?_)
  ·rw [decide_eq_false]
   rintro rfl
   exact hne rfl
  ·unfold f31_3
   repeat (first | refine kN_at ?_ | refine kB_at ?_ | refine kfld_of ?_ | refine kext_at rfl ?_ | refine kG_of (by first | exact rfl | omega) ?_ | refine klen_at ?_ | refine eql_at ?_ | refine neq_at ?_ | refine lss_at ?_ | refine leq_at ?_ | refine gtr_at ?_ | refine geq_at ?_ | refine add_at (by omega) (by omega) ?_ | refine sub_at (by omega) (by omega) ?_ | refine not_at ?_ | refine kO_at ?_ | refine kprt_at rfl ?_ | refine kprtN_at rfl ?_ | refine kcap_at ?_ | refine klenStr_at ?_ | refine kN_iat ?_ | refine kN_fat ?_ | refine kIf_T (by first | exact rfl | exact decT (by omega) | exact notT (decF (by omega))) ?_ | refine kIf_F (by first | exact rfl | exact decF (by omega) | exact notF (decT (by omega))) ?_)
   rw [cast_succ]
   refine hJ _ _ hlt ⟨rfl, hm.drew, ?_⟩
   rw [t1, t2, ht, Decidable.not_not.1 heq]
 ·unfold f31_4
  have hi' : i = l1.length := by omega
  subst hi'
  refine ⟨?_, hm⟩
  rw [List.take_length, hlen, List.take_length] at ht
  rw [decide_eq_true ht]
def subL : List IN := [⟨1, 7, 0⟩, ⟨1, 2, 0⟩, ⟨7, 0, 0⟩]
def subM : Nat → MS Unit
 | 0 => MS.first 10 ()
 | n + 1 => (stepF noneM subL (subM n)).1
theorem Tld.same {p : Nat → Prop} {Sa : Nat → Addr} {w w' : World} (h : Tld p Sa w) (m : Same w w') : Tld p Sa w' := ⟨h.hL.same m, h.hr.same m, h.k12, h.k13, h.k14, h.k15⟩
theorem subM_ok : ∀ i, i < 3 → (stepF noneM subL (subM i)).2 = (true, 0) ∧ (subM i).good 3
 | 0, _ => ⟨rfl, by unfold MS.good; decide⟩ | 1, _ => ⟨rfl, by unfold MS.good; decide⟩ | 2, _ => ⟨rfl, by unfold MS.good; decide⟩ | n + 3, h => by omega
theorem subM_num : ∀ i, i < 3 → numL (subM i).st
 | 0, _ => fun v hv => absurd hv List.not_mem_nil
 | 1, _ => fun v hv => by have hv : v ∈ [(7 : Int)] := hv; rw [List.mem_singleton.1 hv]; unfold I64; decide
 | 2, _ => fun v hv => by have hv : v ∈ [(7 : Int), 2] := hv; simp only [List.mem_cons, List.not_mem_nil, or_false] at hv; unfold I64; rcases hv with rfl | rfl <;> decide
 | n + 3, h => by omega
theorem awake17_spec {p : Nat → Prop} {Sa : Nat → Addr} {w : World} (ht : Tld p Sa w) : Meets Tryz.prog 8 #[] w fun v w' => v = .bool true ∧ Same w w' := by
 refine f8_ok ?_
 unfold f8
 refine kbld_of (cs := nilH.cells) rfl ?_
 refine kbld_of (cs := (⟨1, 7, 0⟩ : IN).cells) rfl ?_
 refine kbld_of (cs := (⟨1, 2, 0⟩ : IN).cells) rfl ?_
 refine kbld_of (cs := (⟨7, 0, 0⟩ : IN).cells) rfl ?_
 refine kbldS_of (cs := subL.flatMap IN.cells) rfl fun w6 h6 hs6 hb6 => ?_
 refine kcall_of (mlNew nilH subL (SlIs.blk hb6 rfl) (by decide) 10) ?_
 rintro v w8 ⟨bM, rfl, hbM, h8, hM⟩
 have m8 := h6.trans h8
 have hM8 : MI nilH subL bM (fun _ => False) (noneI w) (newB w6 w8 fun _ => False) w8 (subM 0) := ⟨hM () (fun _ => False) (fun _ => False) (fun k hk => hk.elim), ⟨m8, fun k hk => hk.elim (fun hk => hk.elim) (fun hk => ⟨Nat.le_trans h6.size hk.1, hk.2⟩)⟩, fun k hk => hk.elim⟩
 rw [keq_ptr_nil ptMill]
 refine kB_at ?_
 refine kIf_F rfl ?_
 unfold f8_0
 refine kL1_of 3 (fun i x wr => (∃ X, MI nilH subL bM (fun _ => False) (noneI w) X wr (subM i)) ∧ x = .int .i64 i) ⟨lI1_0 ⟨⟨_, hM8⟩, rfl⟩, fun x wr hx => ?_⟩
 obtain ⟨i, hi, ⟨⟨X, hMi⟩, rfl⟩, hJ⟩ := lI1_step hx
 unfold f8_1
 refine lss_at ?_
 refine kB_at ?_
 refine kIf_dec (fun hlt => ?_) (fun hge => ?_)
 ·have hlt : i < 3 := by omega
  obtain ⟨e1, e2⟩ := subM_ok i hlt
  unfold f8_2
  refine kcall_of (mlStep ht (none_host w) hMi e2 (by decide) (fun x hx => by simp only [subL, List.mem_cons, List.not_mem_nil, or_false] at hx; unfold noneOk I64; rcases hx with rfl | rfl | rfl <;> decide) (Nat.zero_le _) (subM_num i hlt)) ?_
  rintro v w13 ⟨⟨e, rfl, he⟩, ⟨X', hM'⟩, _⟩
  rw [e1] at he
  rw [e1]
  have he : e = .nilIface := he
  subst he
  refine kext_at rfl ?_
  refine kext_at rfl ?_
  refine not_at ?_
  refine kB_at ?_
  refine kIf_T rfl ?_
  rw [keq_nil_nil' ifErr]
  unfold f8_3
  refine kB_at ?_
  refine kIf_F rfl ?_
  unfold f8_4
  refine add_at (by omega) (by omega) ?_
  rw [cast_succ]
  exact hJ _ _ hlt ⟨⟨X', hM'⟩, rfl⟩
 ·have : i = 3 := by omega
  subst this
  have mr := hMi.hi.1
  clear hJ hx
  unfold f8_5
  refine kbld_of (cs := nilH.cells) rfl ?_
  refine kbld_of (cs := (⟨20, 0, 0⟩ : IN).cells) rfl ?_
  refine kbldS_of (cs := [(⟨20, 0, 0⟩ : IN)].flatMap IN.cells) rfl fun w25 h25 hs25 hb25 => ?_
  have m25 := mr.trans h25
  refine kcall_of (nRun (l := [⟨20, 0, 0⟩]) (ht.same m25) (SlIs.blk hb25 rfl) (by decide) (fun x hx => by rw [List.mem_singleton.1 hx]; unfold noneOk I64; decide) 10 (n := 0) (k := 15) rfl rfl) ?_
  rintro v w27 ⟨⟨x1, rfl, hx1⟩, h27⟩
  have m27 := m25.trans h27
  refine kext_at rfl ?_
  refine kext_at rfl ?_
  refine kbld_of (cs := nilH.cells) rfl ?_
  refine kbld_of (cs := (⟨1, 0, 0⟩ : IN).cells) rfl ?_
  refine kbld_of (cs := (⟨35, 0, 0⟩ : IN).cells) rfl ?_
  refine kbld_of (cs := (⟨6, 0, 0⟩ : IN).cells) rfl ?_
  refine kbldS_of (cs := [(⟨1, 0, 0⟩ : IN), ⟨35, 0, 0⟩, ⟨6, 0, 0⟩].flatMap IN.cells) rfl fun w35 h35 hs35 hb35 => ?_
  have m35 := m27.trans h35
  refine kcall_of (nRun (l := [⟨1, 0, 0⟩, ⟨35, 0, 0⟩, ⟨6, 0, 0⟩]) (ht.same m35) (SlIs.blk hb35 rfl) (by decide) (fun x hx => by simp only [List.mem_cons, List.not_mem_nil, or_false] at hx; unfold noneOk I64; rcases hx with rfl | rfl | rfl <;> decide) 10 (n := 8) (k := 0) rfl rfl) ?_
  rintro v w37 ⟨⟨x2, rfl, hx2⟩, h37⟩
  have hx2 : x2 = .nilIface := hx2
  subst hx2
  have m37 := m35.trans h37
  refine kext_at rfl ?_
  refine kext_at rfl ?_
  refine kbld_of (cs := nilH.cells) rfl ?_
  refine kbld_of (cs := (⟨6, 0, 0⟩ : IN).cells) rfl ?_
  refine kbldS_of (cs := [(⟨6, 0, 0⟩ : IN)].flatMap IN.cells) rfl fun w43 h43 hs43 hb43 => ?_
  have m43 := m37.trans h43
  refine kcall_of (nRun (l := [⟨6, 0, 0⟩]) (ht.same m43) (SlIs.blk hb43 rfl) (by decide) (fun x hx => by rw [List.mem_singleton.1 hx]; unfold noneOk I64; decide) 10 (n := 10) (k := 12) rfl rfl) ?_
  rintro v w45 ⟨⟨x3, rfl, hx3⟩, h45⟩
  have m45 := m43.trans h45
  refine kext_at rfl ?_
  refine kext_at rfl ?_
  have hr45 : Same wr w45 := h25.trans (h27.trans (h35.trans (h37.trans (h43.trans h45))))
  have hM45 := hMi.ml.same hr45
  refine kcall_of (mlStack hM45 (by decide)) ?_
  rintro v w49 ⟨ho, _, h49⟩
  obtain ⟨a, m, c, rfl, hsl, hm1⟩ := ho.is
  have hm1 : m = [(5 : Int)].length := hm1 rfl
  subst hm1
  refine kbldS_of (cs := [.int .i64 5]) rfl fun w51 h51 hs51 hb51 => ?_
  have hsl : SlIs w49 a [(5 : Int)].length 1 ([(5 : Int)].map nV) := hsl
  refine kcall_of (sameI_spec (l1 := [5]) (l2 := [5]) (hsl.same h51) (SlIs.blk hb51 rfl) (by decide)) ?_
  rintro v w53 ⟨rfl, h53⟩
  have h53' := (h49.trans h51).trans h53
  have m53 := m45.trans h53'
  have hM53 := hM45.same h53'
  rw [decide_eq_true rfl]
  refine kB_at ?_
  refine kIf_T rfl ?_
  refine kcall_of (mlFuel hM53) ?_
  rintro v w56 ⟨rfl, rfl⟩
  refine eql_at ?_
  refine kB_at ?_
  refine kIf_T (decT (show (((subM 3).fuel : Nat) : Int) = 7 from rfl)) ?_
  refine kcall_of (mlOver hM53) ?_
  rintro v w60 ⟨rfl, h60⟩
  have m60 := m53.trans h60
  refine kB_at ?_
  refine kIf_T (show overF subL.length (subM 3) = true from rfl) ?_
  refine eql_at ?_
  refine kB_at ?_
  refine kIf_T rfl ?_
  have h60' := (h35.trans (h37.trans (h43.trans h45))).trans (h53'.trans h60)
  refine kld_err (ht.hL.same m60) (k := 15) ht.k15 rfl rfl ?_
  have hx60 : ErrX Sa 15 _ x1 w60 := (show ErrX Sa 15 _ x1 w27 from hx1).same h60'
  refine kcall_of (isX_spec (ht.hL.same m60) ht.k15 ht.k15 hx60) ?_
  rintro v w66 ⟨rfl, rfl⟩
  refine kB_at ?_
  refine kIf_T rfl ?_
  refine eql_at ?_
  refine kB_at ?_
  refine kIf_T rfl ?_
  rw [keq_nil_nil ifErr]
  refine kB_at ?_
  refine kIf_T rfl ?_
  refine kld_err (ht.hL.same m60) (k := 12) ht.k12 rfl rfl ?_
  have hz60 : ErrX Sa 12 _ x3 w66 := (show ErrX Sa 12 _ x3 w45 from hx3).same (h53'.trans h60)
  refine kcall_of (isX_spec (ht.hL.same m60) ht.k12 ht.k12 hz60) ?_
  rintro v w75 ⟨rfl, rfl⟩
  exact ⟨rfl, m60⟩
end
section
attribute [local irreducible] kO kB kStr kInt kN kG kIf kfld kld kldN kst knew kmap kbld kbldS kext kcnv klenStr klen kcap kprt kprtN kbool kint kstr keq kun ksl kix kiv kta kmk kmm ksem ksemU kextf kcallV kcallM kcall kL
structure WM (σ : Type) where
 get : σ → Int → Option Part
 res : σ → Int → Option Int
 fr : σ → Int
 set : σ → Int → Int → Int → σ
 asg : σ → Int → Int → σ
 dr : σ → Int → σ × Int
 add : σ → OrdM → σ
def cellF (q : Part) (i : Int) : Int := if i = 0 then q.v0 else if i = 1 then q.v1 else if i = 2 then q.v2 else q.v3
def loadF (g : Option Part) (i : Int) : Int := match g with
 | some q => if i < 0 ∨ 4 ≤ i then 0 else cellF q i
 | none => 0
def inpF (h : HC) (i : Int) : Int := if i < 0 ∨ 2 ≤ i then 0 else if i = 0 then h.i0 else h.i1
def ordF (h : HC) (x : IN) : OrdM :=
 if x.op = 31 then ⟨1, 0, (IntKind.u32.wrap x.a).toNat, 0⟩ else if x.op = 32 then ⟨2, h.who, 0, 0⟩ else if x.op = 33 then ⟨3, h.who, 0, x.a⟩ else ⟨4, h.who, 0, x.a⟩
def mkHost {σ : Type} (W : WM σ) (h : HC) : HostM σ where
 rd s x := if x.op = 1 then some x.a else if x.op = 22 then some (loadF (W.get s x.a) x.b) else if x.op = 24 then some (flagF (W.get s x.a).isSome)
  else if x.op = 25 then some (inpF h x.a) else if x.op = 26 then some ((W.res s x.a).getD 0) else if x.op = 29 then some h.who else if x.op = 30 then some (W.fr s) else none
 wr s x n := if x.op = 23 then W.set s x.a x.b n else if x.op = 27 then W.asg s x.a n else W.add s (ordF h x)
 dr := W.dr
structure WI {σ : Type} (W : WM σ) (h : HC) (w0 : World) (cost : σ → Nat) (I : (Nat → Prop) → World → σ → Prop) : Prop where
 base : ∀ {X w s}, I X w s → Same w0 w
 lt : ∀ {X w s}, I X w s → ∀ k, X k → w0.heap.size ≤ k ∧ k < w.heap.size
 loc : ∀ {X w w' s}, I X w s → Same w w' → I X w' s
 less : ∀ {X X' w s}, I X w s → (∀ k, X' k → X k) → I X' w s
 grow : ∀ {X fp w w' s}, I X w s → Mod fp w w' → (∀ k, fp k → X k) → I (newB w w' X) w' s
 get : ∀ {X w s} (c : Int), I X w s → I64 c → Meets Tryz.prog 192 #[.pointer h.wp, nV h.who, nV c] w fun v w' => (∃ q e, v = .tuple #[.agg q.cells.toArray, e] ∧ (W.get s c = some q ∧ e = .nilIface ∨ W.get s c = none ∧ ErrI e)) ∧ Same w w'
 res : ∀ {X w s} (i : Int), I X w s → Meets Tryz.prog 141 #[.pointer h.wp, nV i] w fun v w' => (∃ b : Bool, v = .tuple #[nV ((W.res s i).getD 0), .bool b]) ∧ Same w w'
 fr : ∀ {X w s}, I X w s → Meets Tryz.prog 142 #[.pointer h.wp] w fun v w' => v = nV (W.fr s) ∧ Same w w'
 set : ∀ {X w s} (c i n : Int), I X w s → I64 c → cost s ≤ 5000 → I64 n → Meets Tryz.prog 144 #[.pointer h.wp, nV h.who, nV c, nV i, nV n] w fun v w' => I X w' (W.set s c i n) ∧ Mod (fun k => w0.heap.size ≤ k ∧ ¬ X k) w w'
 asg : ∀ {X w s} (i n : Int), I X w s → cost s ≤ 5000 → I64 n → Meets Tryz.prog 145 #[.pointer h.wp, nV i, nV n] w fun v w' => I X w' (W.asg s i n) ∧ Mod (fun k => w0.heap.size ≤ k ∧ ¬ X k) w w'
 dr : ∀ {X w s} (n : Int), I X w s → cost s ≤ 5000 → I64 n → Meets Tryz.prog 143 #[.pointer h.wp, nV n] w fun v w' => (∃ e, v = .tuple #[nV (W.dr s n).2, e]) ∧ I X w' (W.dr s n).1 ∧ Mod (fun k => w0.heap.size ≤ k ∧ ¬ X k) w w'
 add : ∀ {X w s} (x : OrdM), I X w s → x.ok → cost s ≤ 5000 → Meets Tryz.prog 146 #[.pointer h.op, x.val] w fun v w' => I X w' (W.add s x) ∧ Mod (fun k => w0.heap.size ≤ k ∧ ¬ X k) w w'
 get64 : ∀ {X w s c q}, I X w s → W.get s c = some q → q.ok
 res64 : ∀ {X w s i v}, I X w s → W.res s i = some v → I64 v
 fr64 : ∀ {X w s}, I X w s → I64 (W.fr s)
 dr64 : ∀ s n, I64 (W.dr s n).2
 in64 : I64 h.i0 ∧ I64 h.i1 ∧ I64 h.who
 cset : ∀ s c i n, cost (W.set s c i n) ≤ cost s + 1
 casg : ∀ s i n, cost (W.asg s i n) ≤ cost s + 1
 cdr : ∀ s n, cost (W.dr s n).1 ≤ cost s + 1
 cadd : ∀ s x, cost (W.add s x) ≤ cost s + 1
def okIN (x : IN) : Prop := I64 x.a
section
variable {σ : Type} {W : WM σ} {h : HC} {w0 : World} {cost : σ → Nat} {I : (Nat → Prop) → World → σ → Prop} {X : Nat → Prop} {w : World} {s : σ} {b : Nat}
theorem HAt.same {w' : World} (hb : HAt h b w) (m : Same w w') : HAt h b w' := by
 obtain ⟨la, n, lc, pl, sv, fu, ov, hb⟩ := hb
 exact ⟨la, n, lc, pl, sv, fu, ov, m.get hb fun h => h⟩
theorem hPart (hW : WI W h w0 cost I) (hi : I X w s) (hb : HAt h b w) {c : Int} (hc : I64 c) : Meets Tryz.prog 140 #[.pointer (some ⟨b, 0, none⟩), nV c] w fun v w' => (∃ q, v = .tuple #[.agg q.cells.toArray, .bool (W.get s c).isSome] ∧ (W.get s c = some q ∨ W.get s c = none)) ∧ Same w w' := by
 refine f140_ok ?_
 unfold f140
 refine knew_of fun w2 h2 hs2 hb2 => ?_
 have m2 : Same w w2.drew := h2.drew
 have hb2 : blk w2.drew w.heap.size = _ := hb2
 generalize w2.drew = wd at *
 have hbd := hb.same m2
 obtain ⟨la, n, lc, pl, sv, fu, ov, hbd⟩ := hbd
 have hz2 : w.heap.size < wd.heap.size := lt_of_blk hb2
 have tail : ∀ (w1 : World) (bp : Nat) (q : Part) (e : Value), Same wd w1 → bp ≠ w.heap.size → blk w1 bp = some (.cells q.cells.toArray 102) → (W.get s c = some q ∧ e = .nilIface ∨ W.get s c = none ∧ ErrI e) → f140_0 (.pointer (some ⟨w.heap.size, 0, none⟩)) (.pointer (some ⟨bp, 0, none⟩)) e (fun v w' => (∃ q, v = .tuple #[.agg q.cells.toArray, .bool (W.get s c).isSome] ∧ (W.get s c = some q ∨ W.get s c = none)) ∧ Same w w') w1 := by
  intro w1 bp q e m hne hbp he
  unfold f140_0
  have md : Same w1 w1.drew := (Mod.refl (fun _ => False) _).drew
  have mm := m2.trans (m.trans md)
  have hbp := md.get hbp (fun h => h)
  have hb2 := (m.trans md).get hb2 (fun h => h)
  generalize w1.drew = wz at *
  refine kldN_at hbp rfl (by omega) ?_
  refine kG_of rfl ?_
  have keq : ∀ (wy : World) (K : Value → World → Prop), K (.bool (W.get s c).isSome) wy → keq Tryz.prog .eql 33 false true e .nilIface wy K := by
   intro wy K hK
   rcases he with ⟨hg, rfl⟩ | ⟨hg, ty, y, rfl⟩
   ·rw [keq_nil_nil ifErr]; rw [hg] at hK; exact hK
   ·rw [keq_if_nil ifErr]; rw [hg] at hK; exact hK
  refine keq _ _ ?_
  refine kG_of rfl ?_
  refine kst_of (vs := q.cells) hb2 rfl rfl rfl (by simp) (by simp [Part.cells]) fun w33 h33 hs33 hb33 => ?_
  have hb33 : blk w33 w.heap.size = some (.cells q.cells.toArray 102) := hb33
  refine kG_of (keq _ _ ⟨rfl, rfl⟩) ?_
  refine kldN_at hb33 rfl (by omega) ?_
  exact ⟨⟨q, rfl, he.imp (fun h => h.1) (fun h => h.1)⟩, mm.trans' (h33.mono fun k _ e => .inr (by omega))⟩
 refine ⟨?_, ?_⟩
 ·repeat (first | refine kN_at ?_ | refine kB_at ?_ | refine kfld_of ?_ | refine kext_at rfl ?_ | refine kld_at hbd rfl ?_ | refine kldN_at hbd rfl (by omega) ?_ | refine kG_of (by first | exact rfl | omega) ?_ | refine klen_at ?_ | refine eql_at ?_ | refine neq_at ?_ | refine lss_at ?_ | refine leq_at ?_ | refine gtr_at ?_ | refine geq_at ?_ | refine add_at (by omega) (by omega) ?_ | refine sub_at (by omega) (by omega) ?_ | refine not_at ?_ | refine kO_at ?_ | refine kprt_at rfl ?_ | refine kprtN_at rfl ?_ | refine kcap_at ?_ | refine klenStr_at ?_ | refine kN_iat ?_ | refine kN_fat ?_ | refine kIf_T (by first | exact rfl | exact decT (by omega) | exact notT (decF (by omega))) ?_ | refine kIf_F (by first | exact rfl | exact decF (by omega) | exact notF (decT (by omega))) ?_)
  refine kcall_of (hW.get c (hW.loc hi m2) hc) ?_
  rintro v w8 ⟨⟨q, e, rfl, he⟩, h8⟩
  refine knew_of fun w10 h10 hs10 hb10 => ?_
  have hb10' := (h8.trans h10).get hbd (fun h => h)
  refine kG_of (kld_at hb10' rfl ⟨rfl, rfl⟩) ?_
  refine kG_of (kld_at hb10' rfl ⟨rfl, rfl⟩) ?_
  refine kext_at rfl ?_
  refine kst_of (vs := q.cells) hb10 rfl rfl rfl (by simp) (by simp [Part.cells]) fun w12 h12 hs12 hb12 => ?_
  have hb12 : blk w12 w8.heap.size = some (.cells q.cells.toArray 102) := hb12
  refine kext_at rfl ?_
  have hz8 := h8.size
  exact tail _ _ q e (h8.trans (h10.trans' (h12.mono fun k _ e => .inr (by omega)))) (by omega) hb12 he
 ·refine knew_of fun w24 h24 hs24 hb24 => ?_
  have hb24' := h24.get hbd (fun h => h)
  refine kN_at ?_
  refine kfld_of ?_
  refine kld_at hb24' rfl ?_
  refine kG_of rfl ?_
  refine kG_of (kld_at hbd rfl ⟨rfl, rfl⟩) ?_
  refine kN_at ?_
  refine kfld_of ?_
  refine kld_at hb24' rfl ?_
  refine kG_of rfl ?_
  refine kG_of (kld_at hbd rfl ⟨rfl, rfl⟩) ?_
  refine kcall_of (hW.get c (hW.loc hi (m2.trans h24)) hc) ?_
  rintro v w30 ⟨⟨q, e, rfl, he⟩, h30⟩
  refine kext_at rfl ?_
  refine kst_of (vs := q.cells) (h30.get hb24 (fun h => h)) rfl rfl rfl (by simp) (by simp [Part.cells]) fun w12 h12 hs12 hb12 => ?_
  have hb12 : blk w12 wd.heap.size = some (.cells q.cells.toArray 102) := hb12
  refine kext_at rfl ?_
  exact tail _ _ q e ((h24.trans h30).trans' (h12.mono fun k _ e => .inr (by omega))) (by omega) hb12 he
theorem hLoad (hW : WI W h w0 cost I) (hi : I X w s) (hb : HAt h b w) {c : Int} (hc : I64 c) (i : Int) : Meets Tryz.prog 139 #[.pointer (some ⟨b, 0, none⟩), nV c, nV i] w fun v w' => v = nV (loadF (W.get s c) i) ∧ Same w w' := by
 refine f139_ok ?_
 unfold f139
 refine kcall_of (hPart hW hi hb hc) ?_
 rintro v w2 ⟨⟨q, rfl, hq⟩, h2⟩
 refine kext_at rfl ?_
 refine kext_at rfl ?_
 refine knew_of fun w6 h6 hs6 hb6 => ?_
 refine kst_of (vs := q.cells) hb6 rfl rfl rfl (by simp) (by simp [Part.cells]) fun w7 h7 hs7 hb7 => ?_
 have hb7 : blk w7 w2.heap.size = some (.cells q.cells.toArray 102) := hb7
 have m7 : Same w w7 := h2.trans (h6.trans' (h7.mono fun k _ e => .inr (by omega)))
 have zero : ∀ Q : PQ, Q (nV 0) w7 → f139_0 (nV i) (.pointer (some ⟨w2.heap.size, 0, none⟩)) (.bool true) Q w7 := by
  intro Q hQ
  unfold f139_0
  refine kB_at ?_
  exact kIf_T rfl hQ
 refine not_at ?_
 refine kB_at ?_
 rcases hq with hq | hq
 ·rw [hq]
  refine kIf_T rfl ?_
  have el : loadF (some q) i = if i < 0 ∨ 4 ≤ i then 0 else cellF q i := rfl
  rw [el]
  refine lss_at ?_
  refine kB_at ?_
  refine kIf_ndec (fun h0 => ?_) (fun h0 => zero _ ⟨by rw [if_pos (.inl h0)], m7⟩)
  refine geq_at ?_
  by_cases h4 : 4 ≤ i
  ·rw [decide_eq_true h4]
   exact zero _ ⟨by rw [if_pos (.inr h4)], m7⟩
  ·rw [decide_eq_false h4, if_neg (by omega)]
   unfold f139_0
   refine kB_at ?_
   refine kIf_F rfl ?_
   unfold f139_1
   refine kfld_of ?_
   unfold nV
   rw [kix_array]
   refine kG_of (by omega) ?_
   unfold cellF
   have hi4 : i = 0 ∨ i = 1 ∨ i = 2 ∨ i = 3 := by omega
   rcases hi4 with rfl | rfl | rfl | rfl
   ·exact kld_at hb7 rfl ⟨rfl, m7⟩
   ·exact kld_at hb7 rfl ⟨rfl, m7⟩
   ·exact kld_at hb7 rfl ⟨rfl, m7⟩
   ·exact kld_at hb7 rfl ⟨rfl, m7⟩
 ·rw [hq]
  refine kIf_F rfl ?_
  exact zero _ ⟨rfl, m7⟩
theorem hRead (hW : WI W h w0 cost I) (hi : I X w s) (hb : HAt h b w) {x : IN} (hx : okIN x) : Meets Tryz.prog 82 #[.pointer (some ⟨b, 0, none⟩), .agg x.cells.toArray] w fun v w' => v = .tuple #[nV (((mkHost W h).rd s x).getD 0), .bool ((mkHost W h).rd s x).isSome] ∧ Same w w' := by
 refine f82_ok ?_
 unfold f82
 refine knew_of fun w2 h2 hs2 hb2 => ?_
 have hb2 : blk w2 w.heap.size = some (.cells x.cells.toArray 67) := hb2
 have hi2 := hW.loc hi h2
 have hH2 := hb.same h2
 have er : (mkHost W h).rd s x = if x.op = 1 then some x.a else if x.op = 22 then some (loadF (W.get s x.a) x.b) else if x.op = 24 then some (flagF (W.get s x.a).isSome) else if x.op = 25 then some (inpF h x.a) else if x.op = 26 then some ((W.res s x.a).getD 0) else if x.op = 29 then some h.who else if x.op = 30 then some (W.fr s) else none := rfl
 rw [er]
 refine kfld_of ?_
 refine kld_of (v := .int .i64 x.op) hb2 rfl ?_
 refine eql_at ?_
 refine kB_at ?_
 refine kIf_dec (fun h1 => ?_) (fun h1 => ?_)
 ·rw [if_pos h1]
  refine kfld_of ?_
  refine kld_of (v := .int .i64 x.a) hb2 rfl ?_
  exact ⟨rfl, h2⟩
 rw [if_neg h1]
 refine eql_at ?_
 refine kB_at ?_
 refine kIf_dec (fun h1 => ?_) (fun h1 => ?_)
 ·rw [if_pos h1]
  refine kfld_of ?_
  refine kld_of (v := nV x.a) hb2 rfl ?_
  refine kfld_of ?_
  refine kld_of (v := nV x.b) hb2 rfl ?_
  refine kcall_of (hLoad hW hi2 hH2 hx x.b) ?_
  rintro v w6 ⟨rfl, h6⟩
  exact ⟨rfl, h2.trans h6⟩
 rw [if_neg h1]
 refine eql_at ?_
 refine kB_at ?_
 refine kIf_dec (fun h1 => ?_) (fun h1 => ?_)
 ·rw [if_pos h1]
  refine kfld_of ?_
  refine kld_of (v := nV x.a) hb2 rfl ?_
  refine kcall_of (hPart hW hi2 hH2 hx) ?_
  rintro v w6 ⟨⟨q, rfl, _⟩, h6⟩
  refine kext_at rfl ?_
  refine kext_at rfl ?_
  refine knew_of fun w8 h8 hs8 hb8 => ?_
  refine kst_of (vs := q.cells) hb8 rfl rfl rfl (by simp) (by simp [Part.cells]) fun w9 h9 hs9 hb9 => ?_
  refine kcall_of (flag_spec _ w9) ?_
  rintro v w10 ⟨rfl, rfl⟩
  exact ⟨rfl, h2.trans (h6.trans (h8.trans' (h9.mono fun k _ e => .inr (by omega))))⟩
 rw [if_neg h1]
 refine eql_at ?_
 refine kB_at ?_
 refine kIf_dec (fun h1 => ?_) (fun h1 => ?_)
 ·rw [if_pos h1]
  refine kfld_of ?_
  refine kld_of (v := .int .i64 x.a) hb2 rfl ?_
  refine lss_at ?_
  refine kB_at ?_
  refine kIf_ndec (fun h0 => ?_) (fun h0 => ?_)
  ·refine kfld_of ?_
   refine kld_of (v := .int .i64 x.a) hb2 rfl ?_
   refine geq_at ?_
   by_cases h4 : 2 ≤ x.a
   ·rw [decide_eq_true h4]
    unfold f82_0
    refine kB_at ?_
    refine kIf_T rfl ?_
    exact ⟨by unfold inpF; rw [if_pos (.inr h4)]; rfl, h2⟩
   ·rw [decide_eq_false h4]
    unfold f82_0
    refine kB_at ?_
    refine kIf_F rfl ?_
    unfold f82_1
    have m2 : Same w w2.drew := h2.drew
    obtain ⟨la, n, lc, pl, sv, fu, ov, hbd⟩ := hb.same m2
    have hb2 : blk w2.drew w.heap.size = some (.cells x.cells.toArray 67) := hb2
    generalize w2.drew = wd at *
    refine kfld_of ?_
    refine kld_of (v := .int .i64 x.a) hb2 rfl ?_
    refine kG_of rfl ?_
    refine kN_at ?_
    refine kfld_of ?_
    rw [kix_array]
    refine kG_of (by omega) ?_
    have ha : x.a = 0 ∨ x.a = 1 := by omega
    unfold inpF
    rw [if_neg (by omega)]
    rcases ha with ha | ha
    ·rw [ha]
     refine kld_at hbd rfl ?_
     refine kG_of rfl ?_
     exact ⟨rfl, m2⟩
    ·rw [ha]
     refine kld_at hbd rfl ?_
     refine kG_of rfl ?_
     exact ⟨rfl, m2⟩
  ·unfold f82_0
   refine kB_at ?_
   refine kIf_T rfl ?_
   exact ⟨by unfold inpF; rw [if_pos (.inl h0)]; rfl, h2⟩
 rw [if_neg h1]
 obtain ⟨la, n, lc, pl, sv, fu, ov, hbd⟩ := hH2
 refine eql_at ?_
 refine kB_at ?_
 refine kIf_dec (fun h1 => ?_) (fun h1 => ?_)
 ·rw [if_pos h1]
  have hbd' : blk w2.drew b = _ := hbd
  have hb2' : blk w2.drew w.heap.size = some (.cells x.cells.toArray 67) := hb2
  repeat (first | refine kN_at ?_ | refine kB_at ?_ | refine kfld_of ?_ | refine kext_at rfl ?_ | refine kld_at hbd' rfl ?_ | refine kldN_at hbd' rfl (by omega) ?_ | refine kG_of (by first | exact rfl | omega) ?_ | refine klen_at ?_ | refine eql_at ?_ | refine neq_at ?_ | refine lss_at ?_ | refine leq_at ?_ | refine gtr_at ?_ | refine geq_at ?_ | refine add_at (by omega) (by omega) ?_ | refine sub_at (by omega) (by omega) ?_ | refine not_at ?_ | refine kO_at ?_ | refine kprt_at rfl ?_ | refine kprtN_at rfl ?_ | refine kcap_at ?_ | refine klenStr_at ?_ | refine kN_iat ?_ | refine kN_fat ?_ | refine kIf_T (by first | exact rfl | exact decT (by omega) | exact notT (decF (by omega))) ?_ | refine kIf_F (by first | exact rfl | exact decF (by omega) | exact notF (decT (by omega))) ?_)
  refine kld_of (v := nV x.a) hb2' rfl ?_
  refine kG_of rfl ?_
  refine kcall_of (hW.res x.a (hW.loc hi h2.drew)) ?_
  rintro v w6 ⟨⟨bb, rfl⟩, h6⟩
  refine kext_at rfl ?_
  refine kext_at rfl ?_
  exact ⟨rfl, h2.drew.trans h6⟩
 rw [if_neg h1]
 refine eql_at ?_
 refine kB_at ?_
 refine kIf_dec (fun h1 => ?_) (fun h1 => ?_)
 ·rw [if_pos h1]
  refine kN_at ?_
  refine kfld_of ?_
  refine kld_at hbd rfl ?_
  exact ⟨rfl, h2⟩
 rw [if_neg h1]
 refine eql_at ?_
 refine kB_at ?_
 refine kIf_dec (fun h1 => ?_) (fun h1 => ?_)
 ·rw [if_pos h1]
  refine kN_at ?_
  refine kfld_of ?_
  refine kld_at hbd rfl ?_
  refine kcall_of (hW.fr hi2) ?_
  rintro v w6 ⟨rfl, h6⟩
  exact ⟨rfl, h2.trans h6⟩
 rw [if_neg h1]
 exact ⟨rfl, h2⟩
theorem hDraw (hW : WI W h w0 cost I) (hi : I X w s) (hb : HAt h b w) (hc : cost s ≤ 5000) (n : Int) (hn : I64 n) : Meets Tryz.prog 85 #[.pointer (some ⟨b, 0, none⟩), nV n] w fun v w' => v = nV (W.dr s n).2 ∧ I X w' (W.dr s n).1 ∧ Mod (fun k => w0.heap.size ≤ k ∧ ¬ X k) w w' := by
 obtain ⟨la, k, lc, pl, sv, fu, ov, hbd⟩ := hb
 refine f85_ok ?_
 unfold f85
 refine kN_at ?_
 refine kfld_of ?_
 refine kfld_of ?_
 refine kld_at hbd rfl ?_
 refine kcall_of (hW.dr n hi hc hn) ?_
 rintro v w6 ⟨⟨e, rfl⟩, h1, h2⟩
 refine kext_at rfl ?_
 refine kext_at rfl ?_
 exact ⟨rfl, h1, h2⟩
theorem ordF_ok (hwho : I64 h.who) {x : IN} (hx : okIN x) : (ordF h x).ok := by
 have z : I64 0 := by unfold I64; omega
 have u : ∀ n : Int, 0 ≤ n ∧ n ≤ 10 → I64 n := fun n hn => by unfold I64; omega
 unfold ordF OrdM.ok
 split
 ·refine ⟨u 1 (by omega), z, ?_, z⟩
  show (x.a % 4294967296).toNat < 4294967296
  omega
 ·split
  ·exact ⟨u 2 (by omega), hwho, by show (0 : Nat) < 4294967296; omega, z⟩
  ·split
   ·exact ⟨u 3 (by omega), hwho, by show (0 : Nat) < 4294967296; omega, hx⟩
   ·exact ⟨u 4 (by omega), hwho, by show (0 : Nat) < 4294967296; omega, hx⟩
theorem hWrite (hW : WI W h w0 cost I) (hi : I X w s) (hb : HAt h b w) {x : IN} (hx : okIN x) (ho : x.op = 23 ∨ x.op = 27 ∨ x.op = 31 ∨ x.op = 32 ∨ x.op = 33 ∨ x.op = 34) (hc : cost s ≤ 5000) (top : Int) (h64 : I64 top) :
  Meets Tryz.prog 86 #[.pointer (some ⟨b, 0, none⟩), .agg x.cells.toArray, nV top] w fun v w' => I X w' ((mkHost W h).wr s x top) ∧ Mod (fun k => w0.heap.size ≤ k ∧ ¬ X k) w w' := by
 have er : (mkHost W h).wr s x top = if x.op = 23 then W.set s x.a x.b top else if x.op = 27 then W.asg s x.a top else W.add s (ordF h x) := rfl
 rw [er]
 refine f86_ok ?_
 unfold f86
 refine knew_of fun w2 h2 hs2 hb2 => ?_
 obtain ⟨la, k, lc, pl, sv, fu, ov, hbd⟩ := hb.same h2
 refine kN_at ?_
 refine kfld_of ?_
 refine kld_at hbd rfl ?_
 refine kbld_of (cs := (⟨0, h.who, 0, 0⟩ : OrdM).cells) rfl ?_
 refine knew_of fun w7 h7 hs7 hb7 => ?_
 refine kst_of (vs := (⟨0, h.who, 0, 0⟩ : OrdM).cells) hb7 rfl rfl rfl (by simp) (by simp [OrdM.cells]) fun w8 h8 hs8 hb8 => ?_
 have hb8 : blk w8 w2.heap.size = some (.cells (⟨0, h.who, 0, 0⟩ : OrdM).cells.toArray 278) := hb8
 have h28 : Same w2 w8 := h7.trans' (h8.mono fun k _ e => .inr (by omega))
 have m8 := h2.trans h28
 have hb28 : blk w8 w.heap.size = some (.cells x.cells.toArray 67) := h28.get hb2 (fun h => h)
 have hz : w.heap.size ≠ w2.heap.size := by have := lt_of_blk hb2; omega
 have hbd8 := h28.get hbd (fun h => h)
 have m8d : Same w w8.drew := m8.drew
 have hb28d : blk w8.drew w.heap.size = some (.cells x.cells.toArray 67) := hb28
 have hbd8d : blk w8.drew b = _ := hbd8
 have hb8d : blk w8.drew w2.heap.size = some (.cells (⟨0, h.who, 0, 0⟩ : OrdM).cells.toArray 278) := hb8
 have md : Same w2 w8.drew := h28.drew
 clear h7 hb7 h8 hs8
 refine kfld_of ?_
 refine kld_of (v := .int .i64 x.op) hb28 rfl ?_
 refine eql_at ?_
 refine kB_at ?_
 refine kIf_dec (fun h1 => ?_) (fun h1 => ?_)
 ·rw [if_pos h1]
  generalize w8.drew = wd at *
  repeat (first | refine kN_at ?_ | refine kB_at ?_ | refine kfld_of ?_ | refine kext_at rfl ?_ | refine kld_at hbd8d rfl ?_ | refine kldN_at hbd8d rfl (by omega) ?_ | refine kG_of (by first | exact rfl | omega) ?_ | refine klen_at ?_ | refine eql_at ?_ | refine neq_at ?_ | refine lss_at ?_ | refine leq_at ?_ | refine gtr_at ?_ | refine geq_at ?_ | refine add_at (by omega) (by omega) ?_ | refine sub_at (by omega) (by omega) ?_ | refine not_at ?_ | refine kO_at ?_ | refine kprt_at rfl ?_ | refine kprtN_at rfl ?_ | refine kcap_at ?_ | refine klenStr_at ?_ | refine kN_iat ?_ | refine kN_fat ?_ | refine kIf_T (by first | exact rfl | exact decT (by omega) | exact notT (decF (by omega))) ?_ | refine kIf_F (by first | exact rfl | exact decF (by omega) | exact notF (decT (by omega))) ?_)
  refine kld_of (v := nV x.a) hb28d rfl ?_
  refine kG_of rfl ?_
  refine kfld_of ?_
  refine kld_of (v := nV x.b) hb28d rfl ?_
  refine kG_of rfl ?_
  refine kcall_of (hW.set x.a x.b top (hW.loc hi m8d) hx hc h64) ?_
  rintro v w6 ⟨h1, h2⟩
  exact ⟨h1, (Mod.of_same m8d).trans h2⟩
 rw [if_neg h1]
 refine eql_at ?_
 refine kB_at ?_
 refine kIf_dec (fun h2 => ?_) (fun h2 => ?_)
 ·rw [if_pos h2]
  generalize w8.drew = wd at *
  repeat (first | refine kN_at ?_ | refine kB_at ?_ | refine kfld_of ?_ | refine kext_at rfl ?_ | refine kld_at hbd8d rfl ?_ | refine kldN_at hbd8d rfl (by omega) ?_ | refine kG_of (by first | exact rfl | omega) ?_ | refine klen_at ?_ | refine eql_at ?_ | refine neq_at ?_ | refine lss_at ?_ | refine leq_at ?_ | refine gtr_at ?_ | refine geq_at ?_ | refine add_at (by omega) (by omega) ?_ | refine sub_at (by omega) (by omega) ?_ | refine not_at ?_ | refine kO_at ?_ | refine kprt_at rfl ?_ | refine kprtN_at rfl ?_ | refine kcap_at ?_ | refine klenStr_at ?_ | refine kN_iat ?_ | refine kN_fat ?_ | refine kIf_T (by first | exact rfl | exact decT (by omega) | exact notT (decF (by omega))) ?_ | refine kIf_F (by first | exact rfl | exact decF (by omega) | exact notF (decT (by omega))) ?_)
  refine kld_of (v := nV x.a) hb28d rfl ?_
  refine kG_of rfl ?_
  refine kcall_of (hW.asg x.a top (hW.loc hi m8d) hc h64) ?_
  rintro v w6 ⟨h1, h2⟩
  exact ⟨h1, (Mod.of_same m8d).trans h2⟩
 rw [if_neg h2]
 have hok := ordF_ok (h := h) hW.in64.2.2 hx
 have fin : ∀ wz : World, Same w2 wz ∨ Mod (fun k => k = w2.heap.size) w2 wz → blk wz w2.heap.size = some (.cells (ordF h x).cells.toArray 278) → f86_0 (.pointer (some ⟨b, 0, none⟩)) (.pointer (some ⟨w2.heap.size, 0, none⟩)) (fun v w' => I X w' (W.add s (ordF h x)) ∧ Mod (fun k => w0.heap.size ≤ k ∧ ¬ X k) w w') wz := by
  intro wz hm hbo
  have mz : Same w wz := by
   rcases hm with hm | hm
   ·exact ‹Same w w2›.trans hm
   ·exact ‹Same w w2›.trans' (hm.mono fun k _ e => .inr (by have := lt_of_blk hb2; omega))
  have mzd : Same w wz.drew := mz.drew
  obtain ⟨la, k, lc, pl, sv, fu, ov, hbz⟩ := hb.same mzd
  have hbo : blk wz.drew w2.heap.size = some (.cells (ordF h x).cells.toArray 278) := hbo
  unfold f86_0
  generalize wz.drew = wd at *
  repeat (first | refine kN_at ?_ | refine kB_at ?_ | refine kfld_of ?_ | refine kext_at rfl ?_ | refine kld_at hbz rfl ?_ | refine kldN_at hbz rfl (by omega) ?_ | refine kG_of (by first | exact rfl | omega) ?_ | refine klen_at ?_ | refine eql_at ?_ | refine neq_at ?_ | refine lss_at ?_ | refine leq_at ?_ | refine gtr_at ?_ | refine geq_at ?_ | refine add_at (by omega) (by omega) ?_ | refine sub_at (by omega) (by omega) ?_ | refine not_at ?_ | refine kO_at ?_ | refine kprt_at rfl ?_ | refine kprtN_at rfl ?_ | refine kcap_at ?_ | refine klenStr_at ?_ | refine kN_iat ?_ | refine kN_fat ?_ | refine kIf_T (by first | exact rfl | exact decT (by omega) | exact notT (decF (by omega))) ?_ | refine kIf_F (by first | exact rfl | exact decF (by omega) | exact notF (decT (by omega))) ?_)
  refine kldN_at hbo rfl (by omega) ?_
  refine kG_of rfl ?_
  refine kcall_of (hW.add (ordF h x) (hW.loc hi mzd) hok hc) ?_
  rintro v w6 ⟨h1, h2⟩
  exact ⟨h1, (Mod.of_same mzd).trans h2⟩
 have ofil : ∀ n : Int, (x.op = 33 ∧ n = 3 ∨ x.op = 34 ∧ n = 4) → ordF h x = ⟨n, h.who, 0, x.a⟩ := by
  intro n hn
  unfold ordF
  rw [if_neg (by omega), if_neg (by omega)]
  rcases hn with ⟨h, rfl⟩ | ⟨h, rfl⟩
  ·rw [if_pos h]
  ·rw [if_neg (by omega)]
 refine eql_at ?_
 refine kB_at ?_
 refine kIf_dec (fun h3 => ?_) (fun h3 => ?_)
 ·refine kfld_of ?_
  refine kld_of (v := .int .i64 x.a) hb28 rfl ?_
  rw [kcnv_int]
  have em : (.int .u32 (IntKind.u32.wrap x.a) : Value) = msk (IntKind.u32.wrap x.a).toNat := by
   have hp : 0 ≤ IntKind.u32.wrap x.a := by show 0 ≤ x.a % 4294967296; omega
   unfold msk
   rw [Int.toNat_of_nonneg hp]
  rw [em]
  have eo : ordF h x = ⟨1, 0, (IntKind.u32.wrap x.a).toNat, 0⟩ := by unfold ordF; rw [if_pos h3]
  refine kbld_of (cs := (ordF h x).cells) (by rw [eo]; rfl) ?_
  refine kst_of (vs := (ordF h x).cells) hb8 rfl rfl (by rw [eo]; rfl) (by simp [OrdM.cells]) (by simp [OrdM.cells]) fun w34 h34 hs34 hb34 => ?_
  exact fin w34 (.inr ((Mod.of_same h28).trans h34)) hb34
 refine eql_at ?_
 refine kB_at ?_
 refine kIf_dec (fun h3' => ?_) (fun h3' => ?_)
 ·have eo : ordF h x = ⟨2, h.who, 0, 0⟩ := by unfold ordF; rw [if_neg h3, if_pos h3']
  refine kfld_of ?_
  refine kst1_of hb8 rfl rfl (by simp [OrdM.cells]) fun w34 h34 hs34 hb34 => ?_
  exact fin w34 (.inr ((Mod.of_same h28).trans h34)) (by rw [eo]; exact hb34)
 have tl : ∀ n : Int, (x.op = 33 ∧ n = 3 ∨ x.op = 34 ∧ n = 4) → (kfld 1 (.pointer (some ⟨w.heap.size, 0, none⟩)) fun v44 => kld v44 w8.drew fun v45 => kG (w8.drew = w8.drew) <| kfld 0 (.pointer (some ⟨w2.heap.size, 0, none⟩)) fun v46 => kst 1 v46 (.int .i64 n) w8.drew fun w47 => kG (kld v44 w47 fun v50 => v50 = v45 ∧ w47 = w47) <| kfld 3 (.pointer (some ⟨w2.heap.size, 0, none⟩)) fun v48 => kst 1 v48 v45 w47 fun w49 => f86_0 (.pointer (some ⟨b, 0, none⟩)) (.pointer (some ⟨w2.heap.size, 0, none⟩)) (fun v w' => I X w' (W.add s (ordF h x)) ∧ Mod (fun k => w0.heap.size ≤ k ∧ ¬ X k) w w') w49) := by
  intro n hn
  have eo := ofil n hn
  generalize w8.drew = wd at *
  refine kfld_of ?_
  refine kld_of (v := .int .i64 x.a) hb28d rfl ?_
  refine kG_of rfl ?_
  refine kfld_of ?_
  refine kst1_of hb8d rfl rfl (by simp [OrdM.cells]) fun w47 h47 hs47 hb47 => ?_
  refine kG_of (kld_of (v := .int .i64 x.a) (h47.get hb28d hz) rfl ⟨rfl, rfl⟩) ?_
  refine kfld_of ?_
  refine kst1_of hb47 rfl rfl (by simp [OrdM.cells]) fun w49 h49 hs49 hb49 => ?_
  exact fin w49 (.inr ((Mod.of_same md).trans (h47.trans h49))) (by rw [eo]; exact hb49)
 refine eql_at ?_
 refine kB_at ?_
 refine kIf_dec (fun h3'' => ?_) (fun h3'' => ?_)
 ·exact tl 3 (.inl ⟨h3'', rfl⟩)
 refine eql_at ?_
 refine kB_at ?_
 refine kIf_T (decT (by omega)) ?_
 exact tl 4 (.inr ⟨by omega, rfl⟩)
theorem loadF64 {g : Option Part} (h : ∀ q, g = some q → q.ok) (i : Int) : I64 (loadF g i) := by
 cases g with
 | none => exact I64_0
 | some q =>
  obtain ⟨_, h0, h1, h2, h3, _⟩ := h q rfl
  exact ite_at (P := I64) (fun _ => I64_0) (fun _ => ite_at (P := I64) (fun _ => h0) (fun _ => ite_at (P := I64) (fun _ => h1) (fun _ => ite_at (P := I64) (fun _ => h2) (fun _ => h3))))
theorem host_of (hW : WI W h w0 cost I) : HostI (mkHost W h) h w0 okIN cost I where
 base := hW.base
 lt := hW.lt
 loc := hW.loc
 less := hW.less
 grow := hW.grow
 rdo s x hr := by
  unfold reads
  refine Classical.byContradiction fun hn => hr ?_
  show (if x.op = 1 then some x.a else if x.op = 22 then some (loadF (W.get s x.a) x.b) else if x.op = 24 then some (flagF (W.get s x.a).isSome) else if x.op = 25 then some (inpF h x.a) else if x.op = 26 then some ((W.res s x.a).getD 0) else if x.op = 29 then some h.who else if x.op = 30 then some (W.fr s) else none) = none
  rw [if_neg (by omega), if_neg (by omega), if_neg (by omega), if_neg (by omega), if_neg (by omega), if_neg (by omega), if_neg (by omega)]
 rdi s x _ hr := by
  unfold reads at hr
  show (if x.op = 1 then some x.a else if x.op = 22 then some (loadF (W.get s x.a) x.b) else if x.op = 24 then some (flagF (W.get s x.a).isSome) else if x.op = 25 then some (inpF h x.a) else if x.op = 26 then some ((W.res s x.a).getD 0) else if x.op = 29 then some h.who else if x.op = 30 then some (W.fr s) else none) ≠ none
  rcases hr with h | h | h | h | h | h | h <;> rw [h] <;> exact fun e => by cases e
 read hi hb hx := hRead hW hi hb hx
 write {_ _ _ _ _ top} hi hb _ hx ho hc h64 := hWrite hW hi hb hx ho hc top h64
 draw {_ _ _ _ _ n} hi hb _ _ _ hc hn := hDraw hW hi hb hc n hn
 rd64 {X w s x v} hi hok hv := by
  have hv : (if x.op = 1 then some x.a else if x.op = 22 then some (loadF (W.get s x.a) x.b) else if x.op = 24 then some (flagF (W.get s x.a).isSome) else if x.op = 25 then some (inpF h x.a) else if x.op = 26 then some ((W.res s x.a).getD 0) else if x.op = 29 then some h.who else if x.op = 30 then some (W.fr s) else none) = some v := hv
  have fin : ∀ {o : Option Int}, o = some v → (∀ u, o = some u → I64 u) → I64 v := fun e g => g v e
  refine fin hv ?_
  refine ite_at (P := fun o => ∀ u, o = some u → I64 u) (fun _ u e => by cases e; exact hok) (fun _ => ?_)
  refine ite_at (P := fun o => ∀ u, o = some u → I64 u) (fun _ u e => by cases e; exact loadF64 (fun q hq => hW.get64 hi hq) _) (fun _ => ?_)
  refine ite_at (P := fun o => ∀ u, o = some u → I64 u) (fun _ u e => by cases e; exact flagF64 _) (fun _ => ?_)
  refine ite_at (P := fun o => ∀ u, o = some u → I64 u) (fun _ u e => by cases e; exact ite_at (P := I64) (fun _ => I64_0) (fun _ => ite_at (P := I64) (fun _ => hW.in64.1) (fun _ => hW.in64.2.1))) (fun _ => ?_)
  refine ite_at (P := fun o => ∀ u, o = some u → I64 u) (fun _ u e => by
   cases e
   cases hr : W.res s x.a with
   | none => exact I64_0
   | some r => exact hW.res64 hi hr) (fun _ => ?_)
  refine ite_at (P := fun o => ∀ u, o = some u → I64 u) (fun _ u e => by cases e; exact hW.in64.2.2) (fun _ => ?_)
  refine ite_at (P := fun o => ∀ u, o = some u → I64 u) (fun _ u e => by cases e; exact hW.fr64 hi) (fun _ u e => by cases e)
 dr64 := hW.dr64
 costw s x n := by
  show cost (if x.op = 23 then W.set s x.a x.b n else if x.op = 27 then W.asg s x.a n else W.add s (ordF h x)) ≤ _
  split
  ·exact hW.cset _ _ _ _
  ·split
   ·exact hW.casg _ _ _
   ·exact hW.cadd _ _
 costd s n := hW.cdr s n
end
end
section
attribute [local irreducible] kO kB kStr kInt kN kG kIf kfld kld kldN kst knew kmap kbld kbldS kext kcnv klenStr klen kcap kprt kprtN kbool kint kstr keq kun ksl kix kiv kta kmk kmm ksem ksemU kextf kcallV kcallM kcall kL
def stepD (seed : Int) : Int := IntKind.i64.wrap (IntKind.u64.wrap (IntKind.u64.wrap seed + IntKind.u64.wrap (IntKind.u64.wrap 1 * 11400714819323198485)))
def mixD (z : Int) : Int :=
 let a := ixor .u64 z (ishr .u64 z 30)
 let b := IntKind.u64.wrap (a * 13787848793156543929)
 let c := ixor .u64 b (ishr .u64 b 27)
 let d := IntKind.u64.wrap (c * 10723151780598845931)
 ixor .u64 d (ishr .u64 d 31)
def drawD (seed n : Int) : Int × Int := (stepD seed, if n ≤ 0 then 0 else IntKind.i64.wrap ((mixD (IntKind.u64.wrap (stepD seed))).tmod (IntKind.u64.wrap n)))
theorem skip_spec (seed : Int) (w : World) : Meets Tryz.prog 244 #[nV seed, nV 1] w fun v w' => v = nV (stepD seed) ∧ w' = w := by
 refine f244_ok ?_
 unfold f244
 unfold nV
 rw [kcnv_int, kcnv_int, kint_mul, kint_add, kcnv_int]
 exact ⟨rfl, rfl⟩
theorem mix_spec (z : Int) (w : World) : Meets Tryz.prog 245 #[.int .u64 z] w fun v w' => v = .int .u64 (mixD z) ∧ w' = w := by
 refine f245_ok ?_
 unfold f245
 rw [kint_shr]
 refine kG_of (by decide) ?_
 rw [kint_xor, kint_mul, kint_shr]
 refine kG_of (by decide) ?_
 rw [kint_xor, kint_mul, kint_shr]
 refine kG_of (by decide) ?_
 rw [kint_xor]
 exact ⟨rfl, rfl⟩
theorem next_spec (seed : Int) (w : World) : Meets Tryz.prog 227 #[nV seed] w fun v w' => v = .tuple #[nV (stepD seed), .int .u64 (mixD (IntKind.u64.wrap (stepD seed)))] ∧ w' = w := by
 refine f227_ok ?_
 unfold f227
 refine kcall_of (skip_spec seed w) ?_
 rintro v w2 ⟨rfl, rfl⟩
 unfold nV
 rw [kcnv_int]
 refine kcall_of (mix_spec _ w2) ?_
 rintro v w2 ⟨rfl, rfl⟩
 exact ⟨rfl, rfl⟩
theorem drawD_spec (seed n : Int) (hn : I64 n) (w : World) : Meets Tryz.prog 194 #[nV seed, nV n] w fun v w' => v = .tuple #[nV (drawD seed n).1, nV (drawD seed n).2] ∧ Same w w' := by
 refine f194_ok ?_
 unfold f194
 refine kcall_of (next_spec seed w) ?_
 rintro v w2 ⟨rfl, rfl⟩
 unfold drawD
 refine kext_at rfl ?_
 refine kext_at rfl ?_
 unfold nV
 refine leq_at ?_
 refine kB_at ?_
 refine kIf_dec (fun h => ?_) (fun h => ?_)
 ·rw [if_pos h]
  exact ⟨rfl, Mod.refl _ _⟩
 ·unfold f194_0
  rw [if_neg h, kcnv_int, kint_rem]
  refine kG_of ?_ ?_
  ·have : IntKind.u64.wrap n = n := by
    show n % 18446744073709551616 = n
    have := hn.2
    omega
   omega
  rw [kcnv_int]
  exact ⟨rfl, (Mod.refl (fun _ => False) _).drew⟩
section
variable {c : WC} {w0 : World} {fx : Nat → Prop} {w : World} {S : SM} {t : Nat} {B : BdM}
theorem gLen (h : WdAt c w0 fx w S t B) : Meets Tryz.prog 226 #[.pointer (some ⟨c.bg, 0, none⟩)] w fun v w' => v = natV c.R.length ∧ w' = w := by
 have hb := h.gh
 obtain ⟨a, n, cc, e, hs, hn⟩ := h.go.is
 have hn : n = c.R.length := by simpa using hn rfl
 rw [e] at hb
 refine f226_ok ?_
 unfold f226
 rw [keq_ptr_nil ptGoo]
 refine kB_at ?_
 refine kIf_F rfl ?_
 unfold f226_0
 refine kN_at ?_
 refine kfld_of ?_
 refine kld_at hb rfl ?_
 refine klen_at ?_
 exact ⟨by rw [hn]; rfl, rfl⟩
def getR (R : List Int) (i : Int) : Option Int := if i < 0 ∨ (R.length : Int) ≤ i then none else R[i.toNat]?
theorem getR_in {R : List Int} {i : Int} (h0 : 0 ≤ i) (h1 : i < R.length) : getR R i = some (R[i.toNat]'(by omega)) := by
 unfold getR
 rw [if_neg (by omega), List.getElem?_eq_getElem (by omega)]
theorem gGet (h : WdAt c w0 fx w S t B) (i : Int) : Meets Tryz.prog 193 #[.pointer (some ⟨c.bg, 0, none⟩), nV i] w fun v w' => v = .tuple #[nV ((getR c.R i).getD 0), .bool (getR c.R i).isSome] ∧ w' = w := by
 refine f193_ok ?_
 unfold f193
 have out : ∀ Q : PQ, (i < 0 ∨ (c.R.length : Int) ≤ i) → Q (.tuple #[nV ((getR c.R i).getD 0), .bool (getR c.R i).isSome]) w → f193_0 (.pointer (some ⟨c.bg, 0, none⟩)) (nV i) (.bool true) Q w := by
  intro Q ho hQ
  have e : getR c.R i = none := if_pos ho
  rw [e] at hQ
  unfold f193_0
  refine kB_at ?_
  exact kIf_T rfl hQ
 refine lss_at ?_
 refine kB_at ?_
 refine kIf_ndec (fun h0 => ?_) (fun h0 => out _ (.inl h0) ⟨rfl, rfl⟩)
 refine kcall_of (gLen h) ?_
 rintro v w2 ⟨rfl, rfl⟩
 refine geq_at ?_
 by_cases h1 : (c.R.length : Int) ≤ i
 ·rw [decide_eq_true h1]
  exact out _ (.inr h1) ⟨rfl, rfl⟩
 ·rw [decide_eq_false h1]
  have e := getR_in (R := c.R) (i := i) (by omega) (by omega)
  rw [e]
  have hb := h.gh
  obtain ⟨a, n, cc, e, hs, hn⟩ := h.go.is
  have hn : n = c.R.length := by simpa using hn rfl
  subst hn
  rw [e] at hb
  unfold f193_0
  refine kB_at ?_
  refine kIf_F rfl ?_
  unfold f193_1
  refine kN_at ?_
  refine kfld_of ?_
  refine kld_at hb rfl ?_
  obtain ⟨k, rfl⟩ : ∃ k : Nat, i = (k : Int) := ⟨i.toNat, by omega⟩
  refine kixld_of (F := Value.int .i64) hs (by omega) rfl ?_
  exact ⟨rfl, rfl⟩
theorem wResource (h : WdAt c w0 fx w S t B) (i : Int) : Meets Tryz.prog 141 #[.pointer (some ⟨c.bw, 0, none⟩), nV i] w fun v w' => v = .tuple #[nV ((getR c.R i).getD 0), .bool (getR c.R i).isSome] ∧ w' = w := by
 refine f141_ok ?_
 unfold f141
 rw [keq_ptr_nil ptWor]
 refine kB_at ?_
 refine kIf_F rfl ?_
 unfold f141_0
 refine kN_at ?_
 refine kfld_of ?_
 refine kld_at h.here rfl ?_
 refine kcall_of (gGet h i) ?_
 rintro v w2 ⟨rfl, rfl⟩
 refine kext_at rfl ?_
 refine kext_at rfl ?_
 exact ⟨rfl, rfl⟩
theorem WdAt.tune (h : WdAt c w0 fx w S t B) {w' : World} {R : List Int} {frame seed : Int} {gn : Value} (hgn : ∃ n : Int, gn = .int .i64 n) {fp : Nat → Prop} (m : Mod fp w w') (hf : ∀ k, fp k → k = c.bw ∨ k = c.bg ∨ vblk c.gs k)
  (hb : blk w' c.bw = some (.cells ({ c with R := R, frame := frame, seed := seed, gn := gn } : WC).cells 160)) (hg : blk w' c.bg = some (.cells #[c.gm, c.gs, gn] 246)) (ho : Own w' c.gs 1 (R.map (Value.int .i64))) :
  WdAt { c with R := R, frame := frame, seed := seed, gn := gn } w0 fx w' S t B ∧ Mod (fun k => w0.heap.size ≤ k ∧ c.mine k) w w' := by
 have hm : ∀ k, fp k → c.mine k := fun k hk => by
  rcases hf k hk with e | e | e
  ·exact .inl e
  ·exact .inr (.inr (.inl e))
  ·exact .inr (.inr (.inr e))
 have hA := (h.A.other m (fun k hk => h.fm k (hm k hk))).less (fx' := fx) (fun k hk => .inl hk)
 obtain ⟨a1, a2, a3⟩ := h.ap
 refine ⟨⟨hb, h.fm, h.comps.mod m (fun k f e hk => ?_), hg, ho, h.rvc, h.good, h.rl, hA, h.link, h.cs, hgn, h.ap⟩, m.mono fun k _ hk => ⟨(h.A.lt (h.fm k (hm k hk))).1, hm k hk⟩⟩
 rcases hf k hk with hk | hk | hk
 ·exact (a3 k f e).2 hk
 ·exact (a3 k f e).1 hk
 ·exact (a1 k hk).2.2 f e
def WC.tune (c : WC) (R : List Int) (frame seed : Int) (gn : Value) : WC := { c with R := R, frame := frame, seed := seed, gn := gn }
theorem wDraw (h : WdAt c w0 fx w S t B) (n : Int) (hn : I64 n) : Meets Tryz.prog 143 #[.pointer (some ⟨c.bw, 0, none⟩), nV n] w fun v w' => v = .tuple #[nV (drawD c.seed n).2, .nilIface] ∧ WdAt (c.tune c.R c.frame (drawD c.seed n).1 c.gn) w0 fx w' S t B ∧ Mod (fun k => w0.heap.size ≤ k ∧ c.mine k) w w' := by
 refine f143_ok ?_
 unfold f143
 rw [keq_ptr_nil ptWor]
 refine kB_at ?_
 refine kIf_F rfl ?_
 unfold f143_0
 refine kN_at ?_
 refine kfld_of ?_
 refine kld_at h.here rfl ?_
 refine kbld_of (cs := [.int .i64 8, .int .i64 0, .int .i64 0, .int .i64 0, .int .i64 0, .int .i64 0, .int .i64 0, .int .i64 0, .slice none 0 0, .int .i64 0, .int .i64 c.seed]) rfl ?_
 refine kcall_of (wNote h.here _) ?_
 rintro v w10 ⟨rfl, h10⟩
 have hb10 := h10.get h.here (fun h => h)
 refine kN_at ?_
 refine kfld_of ?_
 refine kld_at hb10 rfl ?_
 refine kcall_of (drawD_spec c.seed n hn w10) ?_
 rintro v w14 ⟨rfl, h14⟩
 refine kext_at rfl ?_
 refine kext_at rfl ?_
 have m14 := h10.trans h14
 have h' := h.loc m14
 unfold nV
 refine kN_at ?_
 refine kfld_of ?_
 refine kst1_of h'.here rfl rfl (by show 7 < 9; omega) fun w18 h18 hs18 hb18 => ?_
 obtain ⟨a1, a2, a3⟩ := h.ap
 have hw := h'.tune (R := c.R) (frame := c.frame) (seed := (drawD c.seed n).1) (gn := c.gn) h.gi h18 (fun k hk => .inl hk) hb18 (h18.get h'.gh a2) (h'.go.mod h18 fun k hk e => (a1 k hk).2.1 e)
 exact ⟨rfl, hw.1, (Mod.of_same m14).trans hw.2⟩
theorem wTick (h : WdAt c w0 fx w S t B) (hf : 0 ≤ c.frame) (hlt : c.frame < 1073741824) : Meets Tryz.prog 36 #[.pointer (some ⟨c.bw, 0, none⟩)] w fun v w' => v = .nilIface ∧ WdAt (c.tune c.R (c.frame + 1) c.seed c.gn) w0 fx w' S t B ∧ Mod (fun k => w0.heap.size ≤ k ∧ c.mine k) w w' := by
 refine f36_ok ?_
 unfold f36
 rw [keq_ptr_nil ptWor]
 refine kB_at ?_
 refine kIf_F rfl ?_
 refine kN_at ?_
 refine kfld_of ?_
 refine kld_at h.here rfl ?_
 refine geq_at ?_
 refine kB_at ?_
 refine kIf_F (decF (by omega)) ?_
 unfold f36_0
 refine kN_at ?_
 refine kfld_of ?_
 refine kld_at h.here rfl ?_
 refine kbld_of (cs := [.int .i64 9, .int .i64 0, .int .i64 0, .int .i64 0, .int .i64 0, .int .i64 0, .int .i64 0, .int .i64 0, .slice none 0 0, .int .i64 0, .int .i64 c.frame]) rfl ?_
 refine kcall_of (wNote h.here _) ?_
 rintro v w10 ⟨rfl, h10⟩
 have h' := h.loc h10
 refine kN_at ?_
 refine kfld_of ?_
 refine kld_at h'.here rfl ?_
 refine add_at (by omega) (by omega) ?_
 refine kN_at ?_
 refine kfld_of ?_
 refine kst1_of h'.here rfl rfl (by show 6 < 9; omega) fun w18 h18 hs18 hb18 => ?_
 obtain ⟨a1, a2, a3⟩ := h.ap
 have hw := h'.tune (R := c.R) (frame := c.frame + 1) (seed := c.seed) (gn := c.gn) h.gi h18 (fun k hk => .inl hk) hb18 (h18.get h'.gh a2) (h'.go.mod h18 fun k hk e => (a1 k hk).2.1 e)
 exact ⟨rfl, hw.1, (Mod.of_same h10).trans hw.2⟩
end
end
section
attribute [local irreducible] kO kB kStr kInt kN kG kIf kfld kld kldN kst knew kmap kbld kbldS kext kcnv klenStr klen kcap kprt kprtN kbool kint kstr keq kun ksl kix kiv kta kmk kmm ksem ksemU kextf kcallV kcallM kcall kL
section
variable {pr : Nat → Prop} {Sa : Nat → Addr} {c : WC} {w0 : World} {fx : Nat → Prop} {w : World} {S : SM} {t : Nat} {B : BdM}
def setR (R : List Int) (i n : Int) : List Int := if i < 0 ∨ (R.length : Int) ≤ i then R else R.set i.toNat n
theorem gWrong {k lo : Nat} {x : Value} {w : World} (h : ErrX Sa k lo x w) (hlo : lo ≤ w.heap.size) : Meets Tryz.prog 119 #[x] w fun v w' => ErrX Sa k lo v w' ∧ Same w w' := by
 refine f119_ok ?_
 unfold f119
 refine kcall_of (atX_spec _ h hlo) ?_
 rintro v w' ⟨h1, h2⟩
 exact ⟨h1, h2⟩
theorem gSet_out (hL : LaidP pr Sa w0) (h7 : pr 7) (h : WdAt c w0 fx w S t B) {i : Int} (ho : i < 0 ∨ (c.R.length : Int) ≤ i) (n : Int) :
  Meets Tryz.prog 198 #[.pointer (some ⟨c.bg, 0, none⟩), nV i, nV n] w fun v w' => (∃ e, v = .tuple #[nV 0, e] ∧ ErrX Sa 7 w.heap.size e w') ∧ Same w w' := by
 have e : getR c.R i = none := if_pos ho
 refine f198_ok ?_
 unfold f198
 refine kcall_of (gGet h i) ?_
 rintro v w2 ⟨rfl, rfl⟩
 rw [e]
 refine kext_at rfl ?_
 refine kext_at rfl ?_
 rw [keq_ptr_nil ptGoo]
 refine kB_at ?_
 refine kIf_F rfl ?_
 refine not_at ?_
 refine kB_at ?_
 refine kIf_T rfl ?_
 refine kld_err (hL.same h.A.same0) h7 rfl rfl ?_
 refine kcall_of (gWrong (ErrX.sent Sa 7 w2.heap.size w2) (Nat.le_refl _)) ?_
 rintro v w4 ⟨hE, h4⟩
 exact ⟨⟨_, rfl, hE⟩, h4⟩
theorem gSet_in (h : WdAt c w0 fx w S t B) {k : Nat} (hk : k < c.R.length) (n : Int) :
  Meets Tryz.prog 198 #[.pointer (some ⟨c.bg, 0, none⟩), nV k, nV n] w fun v w' => (∃ was, v = .tuple #[nV was, .nilIface]) ∧ ∃ gn, (∃ z : Int, gn = .int .i64 z) ∧ Mod (fun j => j = c.bg ∨ vblk c.gs j) w w' ∧ blk w' c.bg = some (.cells #[c.gm, c.gs, gn] 246) ∧ Own w' c.gs 1 ((c.R.set k n).map (Value.int .i64)) := by
 have e := getR_in (R := c.R) (i := (k : Int)) (by omega) (by omega)
 obtain ⟨z, hz⟩ := h.gi
 obtain ⟨a1, a2, a3⟩ := h.ap
 have hb := h.gh
 obtain ⟨bc, m, cp, arr, ty, hgs, hbc, hl1, hl2, hl3, hl4, hl5⟩ := h.go.view (by intro e; have := congrArg List.length e; simp at this; rw [this] at hk; cases hk)
 have hm : m = c.R.length := by simpa using hl1.symm
 have hv : vblk c.gs bc := ⟨0, m, cp, hgs⟩
 refine f198_ok ?_
 unfold f198
 refine kcall_of (gGet h k) ?_
 rintro v w2 ⟨rfl, rfl⟩
 rw [e]
 refine kext_at rfl ?_
 refine kext_at rfl ?_
 rw [keq_ptr_nil ptGoo]
 refine kB_at ?_
 refine kIf_F rfl ?_
 refine not_at ?_
 refine kB_at ?_
 refine kIf_F rfl ?_
 unfold f198_0
 refine kN_at ?_
 refine kfld_of ?_
 rw [hgs] at hb
 refine kld_at hb rfl ?_
 unfold nV
 rw [kix_slice]
 refine kG_of (by omega) ?_
 rw [add_mk]
 refine kst_of (o := 0 + k * 1) (vs := [.int .i64 n]) hbc rfl rfl rfl (by simp; omega) (by simp) fun w17 h17 hs17 hb17 => ?_
 have hb17' := h17.get hb (fun e => (a1 bc hv).1 e.symm)
 rw [hz] at hb17'
 refine kN_at ?_
 refine kfld_of ?_
 refine kld_at hb17' rfl ?_
 rw [kint_add]
 refine kN_at ?_
 refine kfld_of ?_
 refine kst1_of hb17' rfl rfl (by show 2 < 3; omega) fun w22 h22 hs22 hb22 => ?_
 have hb22 : blk w22 c.bg = some (.cells #[c.gm, .slice (some ⟨bc, 0, none⟩) m cp, .int .i64 (IntKind.i64.wrap (z + 1))] 246) := hb22
 have ho := h.go
 rw [hgs] at ho
 rw [hgs]
 rw [Nat.zero_add, Nat.mul_one] at hb17
 refine ⟨⟨_, rfl⟩, _, ⟨_, rfl⟩, (h17.mono fun j _ e => .inr ⟨0, m, cp, by rw [e]⟩).trans (h22.mono fun j _ e => .inl e), hb22, ?_⟩
 have := (ho.set1 hbc hb17 (by simpa using hk)).mod h22 fun j hj e => (a1 j (hgs ▸ hj)).1 e
 rw [List.map_set]
 exact this
theorem wAssign (hL : LaidP pr Sa w0) (h7 : pr 7) (h : WdAt c w0 fx w S t B) (i n : Int) : Meets Tryz.prog 145 #[.pointer (some ⟨c.bw, 0, none⟩), nV i, nV n] w fun v w' => ∃ gn, WdAt (c.tune (setR c.R i n) c.frame c.seed gn) w0 fx w' S t B ∧ Mod (fun k => w0.heap.size ≤ k ∧ c.mine k) w w' := by
 unfold setR
 refine f145_ok ?_
 unfold f145
 rw [keq_ptr_nil ptWor]
 refine kB_at ?_
 refine kIf_F rfl ?_
 unfold f145_0
 refine kN_at ?_
 refine kfld_of ?_
 refine kld_at h.here rfl ?_
 by_cases ho : i < 0 ∨ (c.R.length : Int) ≤ i
 ·rw [if_pos ho]
  refine kcall_of (gSet_out hL h7 h ho n) ?_
  rintro v w9 ⟨⟨e, rfl, hE⟩, h9⟩
  refine kext_at rfl ?_
  refine kext_at rfl ?_
  obtain ⟨ty, y, rfl⟩ := hE.if
  rw [keq_if_nil' ifErr]
  refine kB_at ?_
  refine kIf_T rfl ?_
  refine kcall_of (wWrong hE h9.size) ?_
  rintro v w15 ⟨_, h15⟩
  exact ⟨c.gn, h.loc (h9.trans h15), Mod.of_same (h9.trans h15)⟩
 ·rw [if_neg ho]
  obtain ⟨k, rfl⟩ : ∃ k : Nat, i = (k : Int) := ⟨i.toNat, by omega⟩
  rw [Int.toNat_natCast]
  obtain ⟨a1, a2, a3⟩ := h.ap
  refine kcall_of (gSet_in h (k := k) (by omega) n) ?_
  rintro v w9 ⟨⟨was, rfl⟩, gn, hgn, h9, hb9, ho9⟩
  have hh9 := h9.get h.here (fun e => by
   rcases e with e | e
   ·exact a2 e.symm
   ·exact (a1 _ e).2.1 rfl)
  refine kext_at rfl ?_
  refine kext_at rfl ?_
  rw [keq_nil_nil' ifErr]
  refine kB_at ?_
  refine kIf_F rfl ?_
  unfold f145_1
  refine kbld_of (cs := [.int .i64 6, .int .i64 0, .int .i64 0, .int .i64 0, .int .i64 0, .int .i64 0, .int .i64 0, .int .i64 0, .slice none 0 0, .int .i64 k, nV was]) rfl ?_
  refine kcall_of (wNote hh9 _) ?_
  rintro v w18 ⟨rfl, h18⟩
  have hw := h.tune (R := c.R.set k n) (frame := c.frame) (seed := c.seed) (gn := gn) hgn (h9.trans (Mod.of_same h18)) (fun j hj => .inr hj) (h18.get hh9 (fun h => h)) (h18.get hb9 (fun h => h)) (ho9.same h18)
  exact ⟨gn, hw.1, hw.2⟩
theorem wGet_fail {k : Nat} {wp : Value} {x n : Value} (he : ∀ w2, Same w w2 → Meets Tryz.prog 195 #[wp, x] w2 fun v w' => (∃ e, v = .tuple #[entV 0 0, e] ∧ ErrX Sa k w2.heap.size e w') ∧ Same w2 w') :
  Meets Tryz.prog 192 #[wp, x, n] w fun v w' => (∃ e, v = .tuple #[.agg (⟨0, 0, 0, 0, 0, 0⟩ : Part).cells.toArray, e] ∧ ErrI e) ∧ Same w w' := by
 refine f192_ok ?_
 unfold f192
 refine knew_of fun w2 h2 hs2 hb2 => ?_
 refine kcall_of (he _ h2) ?_
 rintro v w4 ⟨⟨e, rfl, hE⟩, h4⟩
 unfold entV
 refine kext_at rfl ?_
 refine kext_at rfl ?_
 refine knew_of fun w8 h8 hs8 hb8 => ?_
 refine kst_of (vs := [.int .i64 0, .int .i64 0]) hb8 rfl rfl rfl (by simp) (by simp) fun w9 h9 hs9 hb9 => ?_
 have m9 : Same w4 w9 := h8.trans' (h9.mono fun k _ e => .inr (by omega))
 have m29 := h4.trans m9
 have hb29 := m29.get hb2 (fun h => h)
 obtain ⟨ty, y, rfl⟩ := hE.if
 rw [keq_if_nil' ifErr]
 refine kB_at ?_
 refine kIf_T rfl ?_
 refine kbld_of (cs := (⟨0, 0, 0, 0, 0, 0⟩ : Part).cells) rfl ?_
 refine kst_of (vs := (⟨0, 0, 0, 0, 0, 0⟩ : Part).cells) hb29 rfl rfl rfl (by simp [Part.cells]) (by simp [Part.cells]) fun w12 h12 hs12 hb12 => ?_
 have hb12 : blk w12 w.heap.size = some (.cells (⟨0, 0, 0, 0, 0, 0⟩ : Part).cells.toArray 102) := hb12
 refine kldN_at hb12 rfl (by omega) ?_
 exact ⟨⟨_, rfl, _, _, rfl⟩, (h2.trans m29).trans' (h12.mono fun k _ e => .inr (by omega))⟩
theorem wSet_fail {k : Nat} {wp : Value} {x a b d : Value} (he : Meets Tryz.prog 195 #[wp, x] w fun v w' => (∃ e, v = .tuple #[entV 0 0, e] ∧ ErrX Sa k w.heap.size e w') ∧ Same w w') :
  Meets Tryz.prog 144 #[wp, x, a, b, d] w fun v w' => Same w w' := by
 refine f144_ok ?_
 unfold f144
 refine kcall_of he ?_
 rintro v w4 ⟨⟨e, rfl, hE⟩, h4⟩
 unfold entV
 refine kext_at rfl ?_
 refine kext_at rfl ?_
 refine knew_of fun w8 h8 hs8 hb8 => ?_
 refine kst_of (vs := [.int .i64 0, .int .i64 0]) hb8 rfl rfl rfl (by simp) (by simp) fun w9 h9 hs9 hb9 => ?_
 have m9 : Same w4 w9 := h8.trans' (h9.mono fun k _ e => .inr (by omega))
 obtain ⟨ty, y, rfl⟩ := hE.if
 rw [keq_if_nil' ifErr]
 refine kB_at ?_
 refine kIf_T rfl ?_
 exact h4.trans m9
theorem wGet_dead (hL : LaidP pr Sa w0) (h17 : pr 17) (h : WdAt c w0 fx w S t B) {x : Int} (hf : B.l.find? (fun z => decide (((z.1 : Nat) : Int) = x)) = none) (n : Value) :
  Meets Tryz.prog 192 #[.pointer (some ⟨c.bw, 0, none⟩), .int .i64 x, n] w fun v w' => (∃ e, v = .tuple #[.agg (⟨0, 0, 0, 0, 0, 0⟩ : Part).cells.toArray, e] ∧ ErrI e) ∧ Same w w' :=
 wGet_fail fun w2 m => wEntity_no hL h17 (h.loc m) hf
theorem wSet_dead (hL : LaidP pr Sa w0) (h17 : pr 17) (h : WdAt c w0 fx w S t B) {x : Int} (hf : B.l.find? (fun z => decide (((z.1 : Nat) : Int) = x)) = none) (a b d : Value) :
  Meets Tryz.prog 144 #[.pointer (some ⟨c.bw, 0, none⟩), .int .i64 x, a, b, d] w fun v w' => Same w w' :=
 wSet_fail (wEntity_no hL h17 h hf)
end
end
section
attribute [local irreducible] kO kB kStr kInt kN kG kIf kfld kld kldN kst knew kmap kbld kbldS kext kcnv klenStr klen kcap kprt kprtN kbool kint kstr keq kun ksl kix kiv kta kmk kmm ksem ksemU kextf kcallV kcallM kcall kL
theorem cWrong {Sa : Nat → Addr} {k lo : Nat} {x : Value} {w : World} (h : ErrX Sa k lo x w) (hlo : lo ≤ w.heap.size) : Meets Tryz.prog 217 #[x] w fun v w' => ErrX Sa k lo v w' ∧ Same w w' := by
 refine f217_ok ?_
 unfold f217
 refine kcall_of (atX_spec _ h hlo) ?_
 rintro v w' ⟨h1, h2⟩
 exact ⟨h1, h2⟩
theorem cSet_bad {pr : Nat → Prop} {Sa : Nat → Addr} {o : Lab} {w : World} (hL : LaidP pr Sa w) (h1 : pr 1) {b i c wd : Nat} {rows : List Part} (h : ColAt o w b i c wd rows) {n : Nat} (hn : n < rows.length) {cell : Int} (hcell : cell < 0 ∨ (wd : Int) ≤ cell) (value frame : Int) :
  Meets Tryz.prog 230 #[.pointer (some ⟨b, 0, none⟩), .int .i64 n, .int .i64 cell, .int .i64 value, .int .i64 frame] w fun v w' => ∃ x, v = .tuple #[zPartV, x] ∧ ErrX Sa 1 w.heap.size x w' ∧ Same w w' := by
 obtain ⟨bc, cp, bt, ct, arr, arrt, tc, tt, hv, hbcl, hbtl, hO1, hO2⟩ := h.view (by omega)
 refine f230_ok ?_
 unfold f230
 refine knew_of fun w2 h2 hs2 hb2 => ?_
 refine kcall_of (crow_spec (h.same h2) hn (hv.same h2)) ?_
 rintro v w4 ⟨rfl, h4⟩
 have m4 := h2.trans h4
 have hb4 := h4.get hb2 (fun h => h)
 refine kext_at rfl ?_
 refine kext_at rfl ?_
 rw [keq_nil_nil' ifErr]
 refine kB_at ?_
 refine kIf_F rfl ?_
 refine lss_at ?_
 refine kB_at ?_
 have fin : f230_0 (.pointer (some ⟨b, 0, none⟩)) (.int .i64 n) (.int .i64 cell) (.int .i64 value) (.int .i64 frame) (.pointer (some ⟨w.heap.size, 0, none⟩)) (.slice (some ⟨bc, n * wd, none⟩) wd (cp - n * wd)) (.bool true) (fun v w' => ∃ x, v = .tuple #[zPartV, x] ∧ ErrX Sa 1 w.heap.size x w' ∧ Same w w') w4 := by
  unfold f230_0
  refine kB_at ?_
  refine kIf_T rfl ?_
  refine kbld_of (cs := [.int .i64 0, .int .i64 0, .int .i64 0, .int .i64 0, .int .i64 0, .int .i64 0]) rfl ?_
  refine kld_err (hL.same m4) h1 rfl rfl ?_
  refine kcall_of (cWrong (ErrX.sent Sa 1 w4.heap.size w4) (Nat.le_refl _)) ?_
  rintro v w20 ⟨hE, h20⟩
  refine kst_of (vs := [.int .i64 0, .int .i64 0, .int .i64 0, .int .i64 0, .int .i64 0, .int .i64 0]) (h20.get hb4 (fun h => h)) rfl rfl rfl (by simp) (by simp) fun w21 h21 hs21 hb21 => ?_
  have hb21 : blk w21 w.heap.size = some (.cells #[.int .i64 0, .int .i64 0, .int .i64 0, .int .i64 0, .int .i64 0, .int .i64 0] 102) := hb21
  refine kldN_at hb21 rfl (by omega) ?_
  have hz := m4.size
  have hl := lt_of_blk hb4
  exact ⟨_, rfl, (hE.mod h21 fun k h1 h2 e => by omega).mono (by omega), (m4.trans h20).trans' (h21.mono fun k _ e => .inr (by omega))⟩
 refine kIf_ndec (fun hc => ?_) (fun hc => fin)
 refine klen_at ?_
 refine geq_at ?_
 rw [decT (by omega)]
 exact fin
theorem sSet_bad {pr : Nat → Prop} {Sa : Nat → Addr} {o : Lab} {w : World} (hL : LaidP pr Sa w) (h1 : pr 1) {b : Nat} {p : Ptrs} {S : SM} (h : StoreP o w b p S) {i : Nat} {g : Int} (hg : S.gens[i]? = some (g, true)) {n r : Nat} (hs : S.spots[i]? = some (n, r)) (hn : n < S.tabs.length) {c : Nat} (hc : c ∈ compsM S.masks n) (hr : r < (S.tabs[n].col c).length) {cell : Int} (hcell : cell < 0 ∨ (wdF S.cs c : Int) ≤ cell) (value frame : Int) :
  Meets Tryz.prog 196 #[ptrV b, entV i g, .int .i64 c, .int .i64 cell, .int .i64 value, .int .i64 frame] w fun v w' => ∃ x, v = .tuple #[zPartV, x] ∧ ErrX Sa 1 w.heap.size x w' ∧ Same w w' := by
 refine f196_ok ?_
 unfold f196
 refine knew_of fun w2 hm2 hs2 hb2 => ?_
 have hb2 : blk w2 w.heap.size = some (.cells #[.int .i64 i, .int .i64 g] 176) := hb2
 refine knew_of fun w4 hm4 hs4 hb4 => ?_
 have m4 := hm2.trans hm4
 have hb2' := hm4.get hb2 (fun h => h)
 have hS4 := h.same m4
 refine kldN_at hb2' rfl (by omega) ?_
 refine kcall_of (sColumn_spec hS4 hg hs hn hc) ?_
 rintro v w7 ⟨rfl, hC, h7⟩
 have m7 := m4.trans h7
 refine kext_at rfl ?_
 refine kext_at rfl ?_
 refine kext_at rfl ?_
 rw [keq_nil_nil' ifErr]
 refine kB_at ?_
 refine kIf_F rfl ?_
 refine kcall_of (cSet_bad (hL.same m7) h1 hC hr hcell value frame) ?_
 rintro v w17 ⟨x, rfl, hx, h17⟩
 refine kext_at rfl ?_
 refine kext_at rfl ?_
 have hz7 := m7.size
 refine kst_of (vs := [.int .i64 0, .int .i64 0, .int .i64 0, .int .i64 0, .int .i64 0, .int .i64 0]) ((h7.trans h17).get hb4 (fun h => h)) rfl rfl rfl (by simp) (by simp) fun w20 h20 hs20 hb20 => ?_
 have hb20 : blk w20 w2.heap.size = some (.cells #[.int .i64 0, .int .i64 0, .int .i64 0, .int .i64 0, .int .i64 0, .int .i64 0] 102) := hb20
 refine kldN_at hb20 rfl (by omega) ?_
 have hz4 := h7.size
 exact ⟨_, rfl, (hx.mod h20 fun k h1 h2 e => by omega).mono (by omega), (m7.trans h17).trans' (h20.mono fun k _ e => .inr (by omega))⟩
section
variable {pr : Nat → Prop} {Sa : Nat → Addr} {c : WC} {w0 : World} {fx : Nat → Prop} {w : World} {S : SM} {t : Nat} {B : BdM}
def Cells (S S' : SM) : Prop := S'.gens = S.gens ∧ S'.cs = S.cs ∧ S'.masks = S.masks ∧ S'.tabs.length = S.tabs.length ∧ S'.free = S.free
theorem Link.cells {S' : SM} (h : Link S B) (k : Cells S S') : Link S' B := by
 obtain ⟨k1, k2, k3, k4, k5⟩ := k
 exact ⟨fun x hx => by rw [k1]; exact h.live x hx, fun i g hg => h.all i g (k1 ▸ hg), by rw [k4, k3]; exact h.tm, by rw [k5, k1]; exact h.cnt⟩
theorem wSet_gen (h : WdAt c w0 fx w S t B) {x : Int} {y : Nat × EK} (hf : B.l.find? (fun z => decide (((z.1 : Nat) : Int) = x)) = some y) {i : Nat} (hyi : y.2.i = (i : Int)) {n cell value : Int} {R : SM → Prop} (hR : ∀ S', R S' → Cells S S')
  (hst : ∀ (o : Lab) (p : Ptrs) (w1 : World), Same w0 w1 → StoreP o w1 c.bs p S → GS S t → Meets Tryz.prog 196 #[ptrV c.bs, entV i y.2.g, .int .i64 n, .int .i64 cell, .int .i64 value, .int .i64 c.frame] w1 fun v w' => ∃ (q : Part) (e : Value), v = .tuple #[.agg q.cells.toArray, e] ∧ ((e = .nilIface ∧ I64 q.comp ∧ ∃ S', R S' ∧ GS S' t ∧ Turned o w1 c.bs S' w') ∨ (R S ∧ (∃ k, ErrX Sa k w1.heap.size e w') ∧ Same w1 w'))) :
  Meets Tryz.prog 144 #[.pointer (some ⟨c.bw, 0, none⟩), .int .i64 x, .int .i64 n, .int .i64 cell, .int .i64 value] w fun v w' => ∃ S', R S' ∧ WdAt c w0 fx w' S' t B ∧ Mod (fun k => w0.heap.size ≤ k ∧ ¬ fx k) w w' := by
 have hwl := lt_of_blk h.here
 refine f144_ok ?_
 unfold f144
 refine kcall_of (wEntity_ok h hf) ?_
 rintro v w2 ⟨rfl, h2⟩
 unfold EK.v entV
 rw [hyi]
 refine kext_at rfl ?_
 refine kext_at rfl ?_
 refine knew_of fun w6 h6 hs6 hb6 => ?_
 refine kst_of (vs := [.int .i64 i, .int .i64 y.2.g]) hb6 rfl rfl rfl (by simp) (by simp) fun w7 h7 hs7 hb7 => ?_
 have hb7 : blk w7 w2.heap.size = some (.cells #[.int .i64 i, .int .i64 y.2.g] 176) := hb7
 have m7 : Same w2 w7 := h6.trans' (h7.mono fun k _ e => .inr (by omega))
 rw [keq_nil_nil' ifErr]
 refine kB_at ?_
 refine kIf_F rfl ?_
 unfold f144_0
 have md : Same w w7.drew := (h2.trans m7).drew
 have hbd : blk w7.drew w2.heap.size = some (.cells #[.int .i64 i, .int .i64 y.2.g] 176) := hb7
 have hz2 := h2.size
 have hz7 : w2.heap.size < w7.drew.heap.size := lt_of_blk hbd
 generalize w7.drew = wd at *
 have hcall : ∀ w1, Same wd w1 → Meets Tryz.prog 196 #[.pointer (some ⟨c.bs, 0, none⟩), .agg #[.int .i64 i, .int .i64 y.2.g], .int .i64 n, .int .i64 cell, .int .i64 value, .int .i64 c.frame] w1 fun v w' => ∃ (q : Part) (e : Value), v = .tuple #[.agg q.cells.toArray, e] ∧ (∃ S', R S' ∧ WdAt c w0 (fun k => fx k ∨ (w.heap.size ≤ k ∧ k < w1.heap.size)) w' S' t B ∧ Mod (fun k => w0.heap.size ≤ k ∧ ¬ (fx k ∨ (w.heap.size ≤ k ∧ k < w1.heap.size))) w1 w') ∧ ((e = .nilIface ∧ I64 q.comp) ∨ ∃ k, ErrX Sa k w1.heap.size e w') := by
  intro w1 m
  have h1 := h.ext (md.trans m)
  obtain ⟨o, p, U, C, hb, hU, hfx⟩ := id h1.A
  have := hst o p w1 C.same C.sp C.gs
  rw [ptrV, entV] at this
  refine this.mono ?_
  rintro v w' ⟨q, e, rfl, ⟨rfl, hq, S', hRS, hG, T⟩ | ⟨hRS, hE, m'⟩⟩
  ·obtain ⟨hA, hm⟩ := WAt.turned C hb hU hfx T hG
   exact ⟨q, _, rfl, ⟨S', hRS, h1.step hA hm (h.link.cells (hR S' hRS)) (hR S' hRS).2.1, hm⟩, .inl ⟨rfl, hq⟩⟩
  ·exact ⟨q, e, rfl, ⟨S, hRS, h1.loc m', Mod.of_same m'⟩, .inr hE⟩
 have tail : ∀ (w1 : World) (bp lo : Nat) (q : Part) (e : Value) (S' : SM) (fx1 : Nat → Prop), R S' → WdAt c w0 fx1 w1 S' t B → (∀ k, fx k → fx1 k) → Mod (fun k => w0.heap.size ≤ k ∧ ¬ fx k) w w1 → lo ≤ w1.heap.size → ((e = .nilIface ∧ I64 q.comp) ∨ ∃ k, ErrX Sa k lo e w1) → blk w1 bp = some (.cells q.cells.toArray 102) → f144_1 (.pointer (some ⟨c.bw, 0, none⟩)) (.int .i64 x) e (.pointer (some ⟨bp, 0, none⟩)) (fun v w' => ∃ S', R S' ∧ WdAt c w0 fx w' S' t B ∧ Mod (fun k => w0.heap.size ≤ k ∧ ¬ fx k) w w') w1 := by
  intro w1 bp lo q e S' fx1 hRS h1 hs hm hlo he hbp
  unfold f144_1
  have h1' := h1.less hs h.fm
  rcases he with ⟨rfl, hq⟩ | ⟨k, hE⟩
  ·rw [keq_nil_nil' ifErr]
   refine kB_at ?_
   refine kIf_F rfl ?_
   unfold f144_2
   refine kldN_at (cs := q.cells) hbp rfl (by omega) ?_
   refine kcall_of (wNoteOf h1.here h1.rl 1 x q hq) ?_
   rintro v w28 ⟨_, h28⟩
   exact ⟨S', hRS, h1'.loc h28, hm.trans (Mod.of_same h28)⟩
  ·obtain ⟨ty, y', rfl⟩ := hE.if
   rw [keq_if_nil' ifErr]
   refine kB_at ?_
   refine kIf_T rfl ?_
   refine kcall_of (wWrong hE hlo) ?_
   rintro v w25 ⟨_, h25⟩
   exact ⟨S', hRS, h1'.loc h25, hm.trans (Mod.of_same h25)⟩
 have hdw := h.loc md
 refine ⟨?_, ?_⟩
 ·refine kN_at ?_
  refine kfld_of ?_
  refine kld_of (v := .pointer (some ⟨c.bs, 0, none⟩)) hdw.here rfl ?_
  refine kG_of rfl ?_
  refine kldN_at (cs := [.int .i64 i, .int .i64 y.2.g]) hbd rfl (by omega) ?_
  refine kG_of rfl ?_
  refine kN_at ?_
  refine kfld_of ?_
  refine kld_of (v := .int .i64 c.frame) hdw.here rfl ?_
  refine kG_of rfl ?_
  refine kcall_of (hcall wd (Mod.refl _ _)) ?_
  rintro v w16 ⟨q, e, rfl, ⟨S', hRS, h1, hm⟩, he⟩
  have hz16 := hm.size
  refine knew_of fun w18 h18 hs18 hb18 => ?_
  have h1' := h1.loc h18
  refine kG_of (kld_of (v := .int .i64 c.frame) h1'.here rfl ⟨rfl, rfl⟩) ?_
  refine kG_of (kldN_at (cs := [.int .i64 i, .int .i64 y.2.g]) (h18.get (hm.get hbd (fun hk => hk.2 (.inr ⟨by omega, by omega⟩))) (fun h => h)) rfl (by omega) ⟨rfl, rfl⟩) ?_
  refine kG_of (kld_of (v := .pointer (some ⟨c.bs, 0, none⟩)) h1'.here rfl ⟨rfl, rfl⟩) ?_
  refine kext_at rfl ?_
  refine kst_of (vs := q.cells) hb18 rfl rfl rfl (by simp) (by simp [Part.cells]) fun w20 h20 hs20 hb20 => ?_
  have hb20 : blk w20 w16.heap.size = some (.cells q.cells.toArray 102) := hb20
  have m20 : Same w16 w20 := h18.trans' (h20.mono fun k _ e => .inr (by omega))
  refine kext_at rfl ?_
  refine tail w20 _ wd.heap.size q e S' _ hRS (h1.loc m20) (fun k hk => .inl hk) (((Mod.of_same md).trans (hm.mono fun k _ hk => ⟨hk.1, fun hx => hk.2 (.inl hx)⟩)).trans (Mod.of_same m20)) (by have := m20.size; omega) (he.imp id fun ⟨k, hE⟩ => ⟨k, hE.same m20⟩) hb20
 ·refine knew_of fun w34 h34 hs34 hb34 => ?_
  refine kN_at ?_
  refine kfld_of ?_
  have hd34 := hdw.loc h34
  refine kld_of (v := .pointer (some ⟨c.bs, 0, none⟩)) hd34.here rfl ?_
  refine kG_of rfl ?_
  refine kG_of (kld_of (v := .pointer (some ⟨c.bs, 0, none⟩)) hdw.here rfl ⟨rfl, rfl⟩) ?_
  refine kldN_at (cs := [.int .i64 i, .int .i64 y.2.g]) (h34.get hbd (fun h => h)) rfl (by omega) ?_
  refine kG_of rfl ?_
  refine kG_of (kldN_at (cs := [.int .i64 i, .int .i64 y.2.g]) hbd rfl (by omega) ⟨rfl, rfl⟩) ?_
  refine kN_at ?_
  refine kfld_of ?_
  refine kld_of (v := .int .i64 c.frame) hd34.here rfl ?_
  refine kG_of rfl ?_
  refine kG_of (kld_of (v := .int .i64 c.frame) hdw.here rfl ⟨rfl, rfl⟩) ?_
  refine kcall_of (hcall w34 h34) ?_
  rintro v w41 ⟨q, e, rfl, ⟨S', hRS, h1, hm⟩, he⟩
  have hz34 := h34.size
  have hl34 := lt_of_blk hb34
  refine kext_at rfl ?_
  refine kst_of (vs := q.cells) (hm.get hb34 (fun hk => hk.2 (.inr ⟨by omega, by omega⟩))) rfl rfl rfl (by simp) (by simp [Part.cells]) fun w43 h43 hs43 hb43 => ?_
  have hb43 : blk w43 wd.heap.size = some (.cells q.cells.toArray 102) := hb43
  have h143 := h1.other h43 fun k hk => ⟨.inr ⟨by omega, by omega⟩, fun e => by have := (h.A.lt (h.fm k e)).2; omega⟩
  refine kext_at rfl ?_
  have hm43 : Mod (fun k => w0.heap.size ≤ k ∧ ¬ fx k) w w43 := ((Mod.of_same (md.trans h34)).trans (hm.mono fun k _ hk => ⟨hk.1, fun hx => hk.2 (.inl hx)⟩)).trans' (h43.mono fun k _ e => .inr (by omega))
  have hz41 := hm.size
  refine tail w43 _ w34.heap.size q e S' _ hRS h143 (fun k hk => .inl (.inl hk)) hm43 (by omega) (he.imp id fun ⟨k, hE⟩ => ⟨k, hE.mod h43 fun j h1 h2 e => by omega⟩) hb43
end
end
section
attribute [local irreducible] kO kB kStr kInt kN kG kIf kfld kld kldN kst knew kmap kbld kbldS kext kcnv klenStr klen kcap kprt kprtN kbool kint kstr keq kun ksl kix kiv kta kmk kmm ksem ksemU kextf kcallV kcallM kcall kL
theorem oAdd_nobody {pr : Nat → Prop} {Sa : Nat → Addr} {w : World} (hL : LaidP pr Sa w) (h2 : pr 2) (x : OrdM) :
  Meets Tryz.prog 146 #[.pointer none, x.val] w fun v w' => ErrX Sa 2 w.heap.size v w' ∧ Same w w' := by
 unfold OrdM.val
 refine f146_ok ?_
 unfold f146
 refine knew_of fun w2 hm2 hs2 hb2 => ?_
 rw [keq_ptr_nil ptOrd]
 refine kB_at ?_
 refine kIf_T rfl ?_
 refine kld_err (hL.same hm2) h2 rfl rfl ?_
 refine kcall_of (oWrong (ErrX.sent Sa 2 w.heap.size w2) (by omega)) ?_
 rintro v w5 ⟨hE, h5⟩
 exact ⟨hE, hm2.trans h5⟩
structure NB where
 R : List Int
 seed : Int
 l : List OrdM
 gv : Nat
 dr : Nat
def nbAdd (og : Bool) (n most : Nat) (s : NB) (x : OrdM) : NB :=
 if og = true then (if x.fit n then (if most ≤ s.gv then { s with dr := s.dr + 1 } else { s with l := s.l ++ [x], gv := s.gv + 1 }) else s) else s
theorem Pair.tune {c c' : WC} {w0 : World} {o : OC} {X fx U : Nat → Prop} {w w' : World} {S : SM} {t : Nat} {B : BdM} {l : List OrdM} {gv dr : Nat} (h0 : 0 < o.L.length) (hO : OAt o U w l gv dr) (hU : ∀ k, U k → fx k ∧ ¬ X k ∧ ¬ c.mine k) (hX : ∀ k, X k → fx k) (hap : ∀ k, X k → ¬ c.mine k)
  (hmi : c'.mine = c.mine) (hW' : WdAt c' w0 fx w' S t B) (m : Mod (fun k => w0.heap.size ≤ k ∧ c.mine k) w w') : Pair c' w0 o X w' S t B l gv dr ∧ Mod (fun k => w0.heap.size ≤ k ∧ ¬ X k) w w' :=
 ⟨⟨⟨fx, U, hW', hO.mod m (fun k hk hn => (hU k hk).2.2 hn.2), by rw [hmi]; exact hU, hX⟩, h0⟩, m.mono fun k _ hk => ⟨hk.1, fun hx => hap k hx hk.2⟩⟩
theorem setR64 {R : List Int} (h : numL R) (i : Int) {n : Int} (hn : I64 n) : numL (setR R i n) := by
 unfold setR
 split
 ·exact h
 ·intro v hv
  rcases List.mem_or_eq_of_mem_set hv with hv | hv
  ·exact h v hv
  ·rw [hv]; exact hn
theorem drawD64 (seed n : Int) : I64 (drawD seed n).2 := ite_at (P := I64) (fun _ => I64_0) (fun _ => wrap64 _)
def nbH (c0 : WC) (o : OC) (og : Bool) (i0 i1 who : Int) : HC := ⟨some ⟨c0.bw, 0, none⟩, if og = true then some ⟨o.bo, 0, none⟩ else none, i0, i1, who⟩
def nbCost (s : NB) : Nat := s.dr + s.gv
end
section
attribute [local irreducible] kO kB kStr kInt kN kG kIf kfld kld kldN kst knew kmap kbld kbldS kext kcnv klenStr klen kcap kprt kprtN kbool kint kstr keq kun ksl kix kiv kta kmk kmm ksem ksemU kextf kcallV kcallM kcall kL
def compIs (c : Int) (q : Part) : Bool := decide (q.comp = c)
def setL (L : List Part) (c : Int) (cell : Nat) (n frame : Int) : List Part := L.map fun q => if q.comp = c then q.setCell cell n frame else q
def getV (V : ViewT) (x c : Int) : Option Part := (findV V x).bind fun y => y.2.find? (compIs c)
def setC (cs : List Comp) (frame : Int) (V : ViewT) (x c i n : Int) : ViewT := match findV V x with
 | some y => if (y.2.find? (compIs c)).isSome ∧ 0 ≤ i ∧ i < (wdF cs c.toNat : Int) then setV V y.1 (setL y.2 c i.toNat n frame) else V
 | none => V
theorem compIs_eq {L : List Part} {c : Int} {q : Part} (h : L.find? (compIs c) = some q) : q.comp = c := by
 have := List.find?_some h
 exact of_decide_eq_true this
theorem setCell_ok {q : Part} (hq : q.ok) {cell : Nat} {n frame : Int} (hn : I64 n) (hf : I64 frame) : (q.setCell cell n frame).ok := by
 obtain ⟨h1, h2, h3, h4, h5, h6⟩ := hq
 unfold Part.setCell
 split
 ·exact ⟨h1, hn, h3, h4, h5, hf⟩
 ·exact ⟨h1, h2, hn, h4, h5, hf⟩
 ·exact ⟨h1, h2, h3, hn, h5, hf⟩
 ·exact ⟨h1, h2, h3, h4, hn, hf⟩
theorem setC_ok {cs : List Comp} {frame : Int} {V : ViewT} (h : okV V) (x c i : Int) {n : Int} (hn : I64 n) (hf : I64 frame) : okV (setC cs frame V x c i n) := by
 unfold setC
 cases hv : findV V x with
 | none => exact h
 | some y =>
  show okV (if _ then _ else _)
  have hy := (findV_mem hv).1
  split
  ·intro z hz q hq
   obtain ⟨u, hu, rfl⟩ := List.mem_map.1 hz
   split at hq
   ·obtain ⟨r, hr, rfl⟩ := List.mem_map.1 hq
    split
    ·exact setCell_ok (h y hy r hr) hn hf
    ·exact h y hy r hr
   ·exact h u hu q hq
  ·exact h
theorem view_put {S S' : SM} {B : BdM} (h : Link S B) (hwf : B.WF) {i c : Nat} {q : Part} (hW : PutS S S' i c q) {y : Nat × EK} (hy : y ∈ B.l) (hyi : y.2.i = (i : Int)) : viewS S' B = setV (viewS S B) y.1 ((partsOf S i).map fun x => if x.comp = (c : Int) then q else x) := by
 unfold viewS setV
 rw [List.map_map]
 apply List.map_congr_left
 intro x hx
 show (x.1, partsOf S' x.2.i.toNat) = if x.1 = y.1 then (y.1, _) else (x.1, partsOf S x.2.i.toNat)
 by_cases he : x.1 = y.1
 ·have := nd_num hwf hx hy he
  subst this
  rw [if_pos rfl, hyi, Int.toNat_natCast, hW.parts]
 ·rw [if_neg he]
  obtain ⟨j, h1, h2⟩ := h.live x hx
  rw [h1, Int.toNat_natCast, hW.others j _ (fun e => he ?_) h2]
  have : x.2 = y.2 := h.index hx hy (by rw [h1, hyi, e])
  rw [nd_key hwf hx hy this]
section
variable {pr : Nat → Prop} {Sa : Nat → Addr} {c : WC} {w0 : World} {fx : Nat → Prop} {w : World} {S : SM} {t : Nat} {B : BdM}
theorem wGet_none (hL : LaidP pr Sa w0) (h7 : pr 7) (h : WdAt c w0 fx w S t B) {x : Int} {n : Int} {y : Nat × EK} (hf : B.l.find? (fun z => decide (((z.1 : Nat) : Int) = x)) = some y) (hno : ∀ q ∈ partsOf S y.2.i.toNat, q.comp ≠ n) :
  Meets Tryz.prog 192 #[.pointer (some ⟨c.bw, 0, none⟩), .int .i64 x, .int .i64 n] w fun v w' => (∃ e, v = .tuple #[.agg (⟨0, 0, 0, 0, 0, 0⟩ : Part).cells.toArray, e] ∧ ErrI e) ∧ Same w w' := by
 have hym := List.mem_of_find?_eq_some hf
 obtain ⟨i, hyi, hg⟩ := h.link.live y hym
 rw [hyi, Int.toNat_natCast] at hno
 have hs0 := h.A.same0
 refine f192_ok ?_
 unfold f192
 refine knew_of fun w2 h2 hs2 hb2 => ?_
 refine kcall_of (wEntity_ok (h.loc h2) hf) ?_
 rintro v w4 ⟨rfl, h4⟩
 unfold EK.v entV
 rw [hyi]
 refine kext_at rfl ?_
 refine kext_at rfl ?_
 refine knew_of fun w8 h8 hs8 hb8 => ?_
 refine kst_of (vs := [.int .i64 i, .int .i64 y.2.g]) hb8 rfl rfl rfl (by simp) (by simp) fun w9 h9 hs9 hb9 => ?_
 have hb9 : blk w9 w4.heap.size = some (.cells #[.int .i64 i, .int .i64 y.2.g] 176) := hb9
 have m9 : Same w4 w9 := h8.trans' (h9.mono fun k _ e => .inr (by omega))
 rw [keq_nil_nil' ifErr]
 refine kB_at ?_
 refine kIf_F rfl ?_
 unfold f192_0
 have md : Same w9 w9.drew := (Mod.refl (fun _ => False) _).drew
 have m29 : Same w2 w9.drew := (h4.trans m9).trans md
 have hd := h.loc (h2.trans m29)
 have hbd := md.get hb9 (fun h => h)
 have hb2d := m29.get hb2 (fun h => h)
 have hz2 := m29.size
 generalize w9.drew = wd at *
 have key : ∀ {w1 : World}, Same wd w1 → blk w1 c.bw = some (.cells c.cells 160) := fun m => m.get hd.here (fun h => h)
 have tail : ∀ (w1 : World) (bp lo : Nat) (e : Value), Same wd w1 → lo ≤ w1.heap.size → ErrX Sa 7 lo e w1 → f192_1 (.pointer (some ⟨w.heap.size, 0, none⟩)) e (.pointer (some ⟨bp, 0, none⟩)) (fun v w' => (∃ e, v = .tuple #[.agg (⟨0, 0, 0, 0, 0, 0⟩ : Part).cells.toArray, e] ∧ ErrI e) ∧ Same w w') w1 := by
  intro w1 bp lo e m hlo hE
  unfold f192_1
  obtain ⟨ty, y', rfl⟩ := hE.if
  rw [keq_if_nil' ifErr]
  refine kB_at ?_
  refine kIf_T rfl ?_
  refine kbld_of (cs := (⟨0, 0, 0, 0, 0, 0⟩ : Part).cells) rfl ?_
  refine kcall_of (wWrong hE hlo) ?_
  rintro v w29 ⟨hE2, h29⟩
  refine kst_of (vs := (⟨0, 0, 0, 0, 0, 0⟩ : Part).cells) ((m.trans h29).get hb2d (fun h => h)) rfl rfl rfl (by simp [Part.cells]) (by simp [Part.cells]) fun w33 h33 hs33 hb33 => ?_
  have hb33 : blk w33 w.heap.size = some (.cells (⟨0, 0, 0, 0, 0, 0⟩ : Part).cells.toArray 102) := hb33
  refine kldN_at hb33 rfl (by omega) ?_
  obtain ⟨ty2, y2, rfl⟩ := hE2.if
  exact ⟨⟨_, rfl, _, _, rfl⟩, (((h2.trans m29).trans m).trans h29).trans' (h33.mono fun k _ e => .inr (by omega))⟩
 obtain ⟨o, p, U, C, hb, hU, hfx⟩ := hd.A
 obtain ⟨nn, r, hsp, hn, hnc⟩ := none_at C.sp C.gs hg hno
 have hget : ∀ w1, Same wd w1 → Meets Tryz.prog 225 #[.pointer (some ⟨c.bs, 0, none⟩), .agg #[.int .i64 i, .int .i64 y.2.g], .int .i64 n] w1 fun v w' => ∃ x, v = .tuple #[zPartV, x] ∧ ErrX Sa 7 w1.heap.size x w' ∧ Same w1 w' := by
  intro w1 m
  have := sGet_err (Sa := Sa) (k := 7) (b := c.bs) (idx := i) (gen := y.2.g) (c := n) (w := w1) fun w2 m2 => sColumn_none (hL.same ((C.same.trans m).trans m2)) h7 (C.sp.same (m.trans m2)) hg hsp hn hnc
  rw [ptrV, entV] at this
  exact this
 refine ⟨?_, ?_⟩
 ·refine kN_at ?_
  refine kfld_of ?_
  refine kld_of (v := .pointer (some ⟨c.bs, 0, none⟩)) hd.here rfl ?_
  refine kG_of rfl ?_
  refine kldN_at (cs := [.int .i64 i, .int .i64 y.2.g]) hbd rfl (by omega) ?_
  refine kG_of rfl ?_
  refine kcall_of (hget _ (Mod.refl _ _)) ?_
  rintro v w19 ⟨e, rfl, hE, h19⟩
  refine knew_of fun w21 h21 hs21 hb21 => ?_
  refine kG_of (kldN_at (cs := [.int .i64 i, .int .i64 y.2.g]) ((h19.trans h21).get hbd (fun h => h)) rfl (by omega) ⟨rfl, rfl⟩) ?_
  refine kG_of (kld_of (v := .pointer (some ⟨c.bs, 0, none⟩)) (key (h19.trans h21)) rfl ⟨rfl, rfl⟩) ?_
  refine kext_at rfl ?_
  refine kst_of (vs := (⟨0, 0, 0, 0, 0, 0⟩ : Part).cells) hb21 rfl rfl rfl (by simp [Part.cells]) (by simp [Part.cells]) fun w23 h23 hs23 hb23 => ?_
  have m23 : Same w19 w23 := h21.trans' (h23.mono fun k _ e => .inr (by omega))
  refine kext_at rfl ?_
  exact tail _ _ wd.heap.size _ (h19.trans m23) (h19.trans m23).size (hE.same m23)
 ·refine knew_of fun w39 h39 hs39 hb39 => ?_
  refine kN_at ?_
  refine kfld_of ?_
  refine kld_of (v := .pointer (some ⟨c.bs, 0, none⟩)) (key h39) rfl ?_
  refine kG_of rfl ?_
  refine kG_of (kld_of (v := .pointer (some ⟨c.bs, 0, none⟩)) hd.here rfl ⟨rfl, rfl⟩) ?_
  refine kldN_at (cs := [.int .i64 i, .int .i64 y.2.g]) (h39.get hbd (fun h => h)) rfl (by omega) ?_
  refine kG_of rfl ?_
  refine kG_of (kldN_at (cs := [.int .i64 i, .int .i64 y.2.g]) hbd rfl (by omega) ⟨rfl, rfl⟩) ?_
  refine kcall_of (hget _ h39) ?_
  rintro v w44 ⟨e, rfl, hE, h44⟩
  have hl39 := lt_of_blk hb39
  refine kext_at rfl ?_
  refine kst_of (vs := (⟨0, 0, 0, 0, 0, 0⟩ : Part).cells) (h44.get hb39 (fun h => h)) rfl rfl rfl (by simp [Part.cells]) (by simp [Part.cells]) fun w46 h46 hs46 hb46 => ?_
  refine kext_at rfl ?_
  have hz44 := h44.size
  exact tail _ _ w39.heap.size _ ((h39.trans h44).trans' (h46.mono fun k _ e => .inr (by omega))) (by omega) (hE.mod h46 fun k h1 h2 e => by omega)
theorem wGet_any (hL : LaidP pr Sa w0) (h7 : pr 7) (h17 : pr 17) (h : WdAt c w0 fx w S t B) (x n : Int) :
  Meets Tryz.prog 192 #[.pointer (some ⟨c.bw, 0, none⟩), .int .i64 x, .int .i64 n] w fun v w' => (∃ q e, v = .tuple #[.agg q.cells.toArray, e] ∧ (getV (viewS S B) x n = some q ∧ e = .nilIface ∨ getV (viewS S B) x n = none ∧ ErrI e)) ∧ Same w w' := by
 unfold getV
 rw [findV_view]
 cases hf : B.l.find? (fun z => decide (((z.1 : Nat) : Int) = x)) with
 | none =>
  refine (wGet_dead hL h17 h hf _).mono ?_
  rintro v w' ⟨⟨e, rfl, hE⟩, h'⟩
  exact ⟨⟨_, e, rfl, .inr ⟨rfl, hE⟩⟩, h'⟩
 | some y =>
  have hym := List.mem_of_find?_eq_some hf
  obtain ⟨i, hyi, hg⟩ := h.link.live y hym
  show Meets _ _ _ _ fun v w' => (∃ q e, _ ∧ ((partsOf S y.2.i.toNat).find? (compIs n) = some q ∧ _ ∨ (partsOf S y.2.i.toNat).find? (compIs n) = none ∧ _)) ∧ _
  cases hq : (partsOf S y.2.i.toNat).find? (compIs n) with
  | none =>
   refine (wGet_none hL h7 h hf (n := n) fun q hq' e => ?_).mono ?_
   ·have := List.find?_eq_none.1 hq q hq'
    exact this (decide_eq_true e)
   ·rintro v w' ⟨⟨e, rfl, hE⟩, h'⟩
    exact ⟨⟨_, e, rfl, .inr ⟨rfl, hE⟩⟩, h'⟩
  | some q =>
   have hqm := List.mem_of_find?_eq_some hq
   have hqc : q.comp = n := compIs_eq hq
   obtain ⟨o, p, U, C, _⟩ := id h.A
   obtain ⟨_, _, _, _, _, _, _, _, _, hfit, _⟩ := parts_ok C.sp C.gs hg
   obtain ⟨m, hm, _⟩ := hfit q (by rw [hyi] at hqm; exact hqm)
   obtain rfl : n = (m : Int) := by omega
   refine (wGet_ok h hf hqm hm).mono ?_
   rintro v w' ⟨rfl, h'⟩
   exact ⟨⟨_, _, rfl, .inl ⟨rfl, rfl⟩⟩, h'⟩
theorem wSet_any (hL : LaidP pr Sa w0) (h1 : pr 1) (h7 : pr 7) (h17 : pr 17) (h : WdAt c w0 fx w S t B) (x n cell value : Int) :
  Meets Tryz.prog 144 #[.pointer (some ⟨c.bw, 0, none⟩), .int .i64 x, .int .i64 n, .int .i64 cell, .int .i64 value] w fun v w' => ∃ S', viewS S' B = setC c.L c.frame (viewS S B) x n cell value ∧ S'.gens = S.gens ∧ WdAt c w0 fx w' S' t B ∧ Mod (fun k => w0.heap.size ≤ k ∧ ¬ fx k) w w' := by
 have hwf := h.wf
 have hl := h.link
 unfold setC
 rw [findV_view]
 cases hf : B.l.find? (fun z => decide (((z.1 : Nat) : Int) = x)) with
 | none =>
  refine (wSet_dead hL h17 h hf _ _ _).mono ?_
  intro v w' h'
  exact ⟨S, rfl, rfl, h.loc h', Mod.of_same h'⟩
 | some y =>
  have hym := List.mem_of_find?_eq_some hf
  obtain ⟨i, hyi, hg⟩ := hl.live y hym
  show Meets _ _ _ _ fun v w' => ∃ S', viewS S' B = (if ((partsOf S y.2.i.toNat).find? (compIs n)).isSome ∧ 0 ≤ cell ∧ cell < (wdF c.L n.toNat : Int) then setV (viewS S B) y.1 (setL (partsOf S y.2.i.toNat) n cell.toNat value c.frame) else viewS S B) ∧ _
  rw [hyi, Int.toNat_natCast]
  have stay : Cells S S := ⟨rfl, rfl, rfl, rfl, rfl⟩
  cases hq : (partsOf S i).find? (compIs n) with
  | none =>
   rw [if_neg (fun e => by simp at e)]
   refine (wSet_gen (Sa := Sa) h hf hyi (R := fun S' => S' = S) (fun S' e => by subst e; exact stay) fun o p w1 hs0 hsp hG => ?_).mono ?_
   ·obtain ⟨nn, r, hsp', hn, hnc⟩ := none_at hsp hG hg (c := n) fun q hq' e => List.find?_eq_none.1 hq q hq' (decide_eq_true e)
    refine (sSet_err (Sa := Sa) (k := 7) fun w2 m2 => sColumn_none (hL.same (hs0.trans m2)) h7 (hsp.same m2) hg hsp' hn hnc).mono ?_
    rintro v w' ⟨e, rfl, hE, h'⟩
    exact ⟨⟨0, 0, 0, 0, 0, 0⟩, e, rfl, .inr ⟨rfl, ⟨7, hE⟩, h'⟩⟩
   ·rintro v w' ⟨S', rfl, hW, hm⟩
    exact ⟨_, rfl, rfl, hW, hm⟩
  | some q =>
   have hqm := List.mem_of_find?_eq_some hq
   have hqc : q.comp = n := compIs_eq hq
   obtain ⟨o, p, U, C, _⟩ := id h.A
   obtain ⟨_, _, _, _, _, _, _, _, hmap, hfit, _⟩ := parts_ok C.sp C.gs hg
   obtain ⟨m, hm, _⟩ := hfit q hqm
   obtain rfl : n = (m : Int) := by omega
   by_cases hc : 0 ≤ cell ∧ cell < (wdF c.L m : Int)
   ·rw [if_pos ⟨rfl, hc⟩]
    obtain ⟨k, rfl⟩ : ∃ k : Nat, cell = (k : Int) := ⟨cell.toNat, by omega⟩
    refine (wSet_gen (Sa := Sa) h hf hyi (R := fun S' => PutS S S' i m (q.setCell k value c.frame)) (fun S' e => ⟨e.gens, e.cs, e.masks, e.tabs, e.free⟩) fun o p w1 hs0 hsp hG => ?_).mono ?_
    ·refine (set_at hsp hG hg hqm hm (cell := k) (by rw [h.cs]; omega) value c.frame).mono ?_
     rintro v w' ⟨rfl, S', hG', hP, T⟩
     obtain ⟨j, hj, hjl, _⟩ := hfit q hqm
     have hl16 := h.good.len
     have hcs := h.cs
     exact ⟨q, _, rfl, .inl ⟨rfl, by rw [hj]; rw [hcs] at hjl; unfold I64; omega, S', hP, hG', T⟩⟩
    ·rintro v w' ⟨S', hP, hW, hm'⟩
     refine ⟨S', ?_, hP.gens, hW, hm'⟩
     rw [view_put hl hwf hP hym hyi]
     congr 1
     unfold setL
     apply List.map_congr_left
     intro z hz
     by_cases hzc : z.comp = (m : Int)
     ·rw [if_pos hzc, if_pos hzc]
      rw [Int.toNat_natCast]
      have : z = q := by
       have hnd : ((partsOf S i).map (·.comp)).Nodup := by
        rw [hmap]
        exact List.Pairwise.map _ (fun a b hab e => hab (by omega)) (listF_nodup _)
       obtain ⟨a, ha, rfl⟩ := List.mem_iff_getElem.1 hz
       obtain ⟨b, hb, rfl⟩ := List.mem_iff_getElem.1 hqm
       have := (List.getElem_inj (h₀ := by simpa using ha) (h₁ := by simpa using hb) hnd).1 (by rw [List.getElem_map, List.getElem_map, hzc, hqc])
       subst this
       rfl
      rw [this]
     ·rw [if_neg hzc, if_neg hzc]
   ·rw [if_neg (fun e => hc e.2)]
    refine (wSet_gen (Sa := Sa) h hf hyi (R := fun S' => S' = S) (fun S' e => by subst e; exact stay) fun o p w1 hs0 hsp hG => ?_).mono ?_
    ·obtain ⟨nn, r, hsp', hn, hcm, hr, _, _⟩ := part_at hsp hG hg hqm hm
     refine (sSet_bad (hL.same hs0) h1 hsp hg hsp' hn hcm hr (cell := cell) (by rw [h.cs]; omega) value c.frame).mono ?_
     rintro v w' ⟨e, rfl, hE, h'⟩
     exact ⟨⟨0, 0, 0, 0, 0, 0⟩, e, rfl, .inr ⟨rfl, ⟨1, hE⟩, h'⟩⟩
    ·rintro v w' ⟨S', rfl, hW, hm⟩
     exact ⟨_, rfl, rfl, hW, hm⟩
end
end
section
abbrev LS : Type := ViewT × NB
def lvW (cs : List Comp) (og : Bool) (n most : Nat) (frame who : Int) : WM LS where
 get s c := getV s.1 who c
 res s i := getR s.2.R i
 fr _ := frame
 set s c i v := (setC cs frame s.1 who c i v, s.2)
 asg s i v := (s.1, { s.2 with R := setR s.2.R i v })
 dr s v := ((s.1, { s.2 with seed := (drawD s.2.seed v).1 }), (drawD s.2.seed v).2)
 add s x := (s.1, nbAdd og n most s.2 x)
structure LvI (c0 : WC) (w0 : World) (o : OC) (nx : Nat) (X : Nat → Prop) (w : World) (s : LS) : Prop where
 pr : ∃ gn S t B, Pair (c0.tune s.2.R c0.frame s.2.seed gn) w0 o X w S t B s.2.l s.2.gv s.2.dr ∧ viewS S B = s.1 ∧ B.nx = nx
 ap : ∀ k, X k → ¬ c0.mine k
 num : numL s.2.R
 few : s.2.l.length ≤ s.2.gv
 ok : okV s.1
 rl : s.2.R.length ≤ 1000
section
variable {pr : Nat → Prop} {Sa : Nat → Addr} {c0 : WC} {w0 : World} {o : OC} {nx : Nat} {X : Nat → Prop} {w : World}
theorem LvI.ap' {s : LS} {w' : World} (h : LvI c0 w0 o nx X w s) : ∀ k, newB w w' X k → ¬ c0.mine k := by
 obtain ⟨gn, S, t, B, ⟨⟨fx, U, hW, _⟩, _⟩, _⟩ := h.pr
 intro k hk
 rcases hk with hk | hk
 ·exact h.ap k hk
 ·intro e
  have := (hW.A.lt (hW.fm k e)).2
  omega
theorem setR_len (R : List Int) (i n : Int) : (setR R i n).length = R.length := by
 unfold setR
 split
 ·rfl
 ·rw [List.length_set]
theorem add_num {og : Bool} {n most : Nat} {s : NB} {x : OrdM} : (nbAdd og n most s x).R = s.R ∧ (nbAdd og n most s x).seed = s.seed := by
 unfold nbAdd
 split
 ·split
  ·split
   ·exact ⟨rfl, rfl⟩
   ·exact ⟨rfl, rfl⟩
  ·exact ⟨rfl, rfl⟩
 ·exact ⟨rfl, rfl⟩
theorem add_any (hL : LaidP pr Sa w0) (h1 : pr 1) (h2 : pr 2) (h6 : pr 6) (og : Bool) {c : WC} {S : SM} {t : Nat} {B : BdM} {s : NB} (hP : Pair c w0 o X w S t B s.l s.gv s.dr) (hmo : o.most ≤ 1000000) (hfew : s.l.length ≤ s.gv) {x : OrdM} (hx : x.ok) (hc : s.dr + s.gv ≤ 5000) :
  Meets Tryz.prog 146 #[.pointer (if og = true then some ⟨o.bo, 0, none⟩ else none), x.val] w fun v w' => (Pair c w0 o X w' S t B (nbAdd og o.L.length o.most s x).l (nbAdd og o.L.length o.most s x).gv (nbAdd og o.L.length o.most s x).dr ∧ (nbAdd og o.L.length o.most s x).l.length ≤ (nbAdd og o.L.length o.most s x).gv) ∧ Mod (fun k => w0.heap.size ≤ k ∧ ¬ X k) w w' := by
 unfold nbAdd
 by_cases ho : og = true
 ·rw [if_pos ho, if_pos ho]
  by_cases hfit : x.fit o.L.length
  ·rw [if_pos hfit]
   by_cases hf : o.most ≤ s.gv
   ·rw [if_pos hf]
    refine (pAdd_full hL h6 hP x hx hfit hf (by omega)).mono ?_
    rintro v w' ⟨_, hP', hm⟩
    exact ⟨⟨hP'.less fun k hk => .inl hk, hfew⟩, hm⟩
   ·rw [if_neg hf]
    refine (pAdd_ok hP x hx hfit (by omega) hmo (by omega)).mono ?_
    rintro v w' ⟨_, hP', hm⟩
    exact ⟨⟨hP', by show (s.l ++ [x]).length ≤ s.gv + 1; rw [List.length_append, List.length_singleton]; omega⟩, hm⟩
  ·rw [if_neg hfit]
   refine (pAdd_bad hL h1 hP x hx hfit).mono ?_
   rintro v w' ⟨_, hm⟩
   exact ⟨⟨hP.loc hm, hfew⟩, Mod.of_same hm⟩
 ·rw [if_neg ho, if_neg ho]
  refine (oAdd_nobody (hL.same hP.same0) h2 x).mono ?_
  rintro v w' ⟨_, hm⟩
  exact ⟨⟨hP.loc hm, hfew⟩, Mod.of_same hm⟩
theorem add_cost (og : Bool) (n most : Nat) (s : NB) (x : OrdM) : nbCost (nbAdd og n most s x) ≤ nbCost s + 1 := by
 unfold nbAdd nbCost
 split
 ·split
  ·split
   ·show s.dr + 1 + s.gv ≤ _; omega
   ·show s.dr + (s.gv + 1) ≤ _; omega
  ·omega
 ·omega
theorem getV_ok {V : ViewT} (h : okV V) {x c : Int} {q : Part} (hq : getV V x c = some q) : q.ok := by
 unfold getV at hq
 obtain ⟨y, hy, hq⟩ := Option.bind_eq_some_iff.1 hq
 exact h y (findV_mem hy).1 q (List.mem_of_find?_eq_some hq)
theorem lv_host (hL : LaidP pr Sa w0) (h1 : pr 1) (h2 : pr 2) (h6 : pr 6) (h7 : pr 7) (h17 : pr 17) (og : Bool) {i0 i1 who : Int} (hi0 : I64 i0) (hi1 : I64 i1) (hwho : I64 who) (hmo : o.most ≤ 1000000) (hfr : I64 c0.frame) :
  WI (lvW c0.L og o.L.length o.most c0.frame who) (nbH c0 o og i0 i1 who) w0 (fun s : LS => nbCost s.2) (LvI c0 w0 o nx) where
 base h := by obtain ⟨gn, S, t, B, hP, _⟩ := h.pr; exact hP.same0
 lt h := by obtain ⟨gn, S, t, B, hP, _⟩ := h.pr; exact fun k hk => hP.lt hk
 loc h m := by obtain ⟨gn, S, t, B, hP, h2⟩ := h.pr; exact ⟨⟨gn, S, t, B, hP.loc m, h2⟩, h.ap, h.num, h.few, h.ok, h.rl⟩
 less h hs := by obtain ⟨gn, S, t, B, hP, h2⟩ := h.pr; exact ⟨⟨gn, S, t, B, hP.less hs, h2⟩, fun k hk => h.ap k (hs k hk), h.num, h.few, h.ok, h.rl⟩
 grow h m hf := by
  obtain ⟨gn, S, t, B, hP, h2⟩ := id h.pr
  exact ⟨⟨gn, S, t, B, hP.grow m fun k hk => ⟨hf k hk, h.ap k (hf k hk)⟩, h2⟩, h.ap', h.num, h.few, h.ok, h.rl⟩
 get {X w s} c h hc := by
  obtain ⟨gn, S, t, B, ⟨⟨fx, U, hW, _⟩, _⟩, hv, _⟩ := h.pr
  show Meets _ _ _ _ fun v w' => (∃ q e, _ ∧ (getV s.1 who c = some q ∧ _ ∨ getV s.1 who c = none ∧ _)) ∧ _
  rw [← hv]
  exact wGet_any hL h7 h17 hW who c
 res i h := by
  obtain ⟨gn, S, t, B, ⟨⟨fx, U, hW, _⟩, _⟩, _⟩ := h.pr
  refine (wResource hW i).mono ?_
  rintro v w' ⟨rfl, rfl⟩
  exact ⟨⟨_, rfl⟩, Mod.refl _ _⟩
 fr h := by
  obtain ⟨gn, S, t, B, ⟨⟨fx, U, hW, _⟩, _⟩, _⟩ := h.pr
  refine (wFrame hW.here).mono ?_
  rintro v w' ⟨rfl, rfl⟩
  exact ⟨rfl, Mod.refl _ _⟩
 set {X w s} c i n h hc _ hn := by
  obtain ⟨gn, S, t, B, ⟨⟨fx, U, hW, hO, hU, hX⟩, h0⟩, hv, hnx⟩ := h.pr
  refine (wSet_any hL h1 h7 h17 hW who c i n).mono ?_
  rintro v w' ⟨S', hv', hg, hW', hm⟩
  obtain ⟨hP, hm⟩ := Pair.act h0 hO hU hX hW' hm
  exact ⟨⟨⟨gn, S', t, B, hP, by rw [hv', hv]; rfl, hnx⟩, h.ap, h.num, h.few, setC_ok h.ok _ _ _ hn hfr, h.rl⟩, hm⟩
 asg {X w s} i n h _ hn := by
  obtain ⟨gn, S, t, B, ⟨⟨fx, U, hW, hO, hU, hX⟩, h0⟩, h2⟩ := h.pr
  refine (wAssign hL h7 hW i n).mono ?_
  rintro v w' ⟨gn', hW', hm⟩
  obtain ⟨hP, hm⟩ := Pair.tune (c := c0.tune s.2.R c0.frame s.2.seed gn) (c' := c0.tune (setR s.2.R i n) c0.frame s.2.seed gn') h0 hO hU hX h.ap rfl hW' hm
  exact ⟨⟨⟨gn', S, t, B, hP, h2⟩, h.ap, setR64 h.num i hn, h.few, h.ok, by show (setR s.2.R i n).length ≤ 1000; rw [setR_len]; exact h.rl⟩, hm⟩
 dr {X w s} n h _ hn := by
  obtain ⟨gn, S, t, B, ⟨⟨fx, U, hW, hO, hU, hX⟩, h0⟩, h2⟩ := h.pr
  refine (wDraw hW n hn).mono ?_
  rintro v w' ⟨rfl, hW', hm⟩
  obtain ⟨hP, hm⟩ := Pair.tune (c := c0.tune s.2.R c0.frame s.2.seed gn) (c' := c0.tune s.2.R c0.frame (drawD s.2.seed n).1 gn) h0 hO hU hX h.ap rfl hW' hm
  exact ⟨⟨_, rfl⟩, ⟨⟨_, S, t, B, hP, h2⟩, h.ap, h.num, h.few, h.ok, h.rl⟩, hm⟩
 add {X w s} x h hx hc := by
  obtain ⟨gn, S, t, B, hP, h3⟩ := h.pr
  obtain ⟨e1, e2⟩ := add_num (og := og) (n := o.L.length) (most := o.most) (s := s.2) (x := x)
  refine (add_any hL h1 h2 h6 og hP hmo h.few hx hc).mono ?_
  rintro v w' ⟨⟨hP', hf⟩, hm⟩
  exact ⟨⟨⟨gn, S, t, B, by show Pair (c0.tune (nbAdd og o.L.length o.most s.2 x).R c0.frame (nbAdd og o.L.length o.most s.2 x).seed gn) _ _ _ _ _ _ _ _ _ _; rw [e1, e2]; exact hP', h3⟩, h.ap, by show numL (nbAdd og o.L.length o.most s.2 x).R; rw [e1]; exact h.num, hf, h.ok, by show (nbAdd og o.L.length o.most s.2 x).R.length ≤ 1000; rw [e1]; exact h.rl⟩, hm⟩
 get64 h hq := getV_ok h.ok hq
 res64 {X w s i v} h hv := by
  have hv : getR s.2.R i = some v := hv
  unfold getR at hv
  split at hv
  ·cases hv
  ·exact h.num v (List.mem_of_getElem? hv)
 fr64 _ := hfr
 dr64 s n := drawD64 _ _
 in64 := ⟨hi0, hi1, hwho⟩
 cset s c i n := Nat.le_succ _
 casg s i n := Nat.le_succ _
 cdr s n := Nat.le_succ _
 cadd s x := add_cost _ _ _ _ _
end
end
section
attribute [local irreducible] kO kB kStr kInt kN kG kIf kfld kld kldN kst knew kmap kbld kbldS kext kcnv klenStr klen kcap kprt kprtN kbool kint kstr keq kun ksl kix kiv kta kmk kmm ksem ksemU kextf kcallV kcallM kcall kL
section
variable {pr : Nat → Prop} {Sa : Nat → Addr} {w : World}
theorem nilEntity (hL : LaidP pr Sa w) (h2' : pr 2) (x : Value) : Meets Tryz.prog 195 #[.pointer none, x] w fun v w' => (∃ e, v = .tuple #[entV 0 0, e] ∧ ErrX Sa 2 w.heap.size e w') ∧ Same w w' := by
 refine f195_ok ?_
 unfold f195
 refine knew_of fun w2 h2 hs2 hb2 => ?_
 rw [keq_ptr_nil ptWor]
 refine kB_at ?_
 refine kIf_T rfl ?_
 refine kbld_of (cs := [.int .i64 0, .int .i64 0]) rfl ?_
 refine kld_err (hL.same h2) h2' rfl rfl ?_
 refine kcall_of (wWrong (ErrX.sent Sa 2 w2.heap.size w2) (Nat.le_refl _)) ?_
 rintro v w8 ⟨hE, h8⟩
 refine kst_of (vs := [.int .i64 0, .int .i64 0]) (h8.get hb2 (fun h => h)) rfl rfl rfl (by simp) (by simp) fun w9 h9 hs9 hb9 => ?_
 have hb9 : blk w9 w.heap.size = some (.cells #[.int .i64 0, .int .i64 0] 176) := hb9
 refine kldN_at hb9 rfl (by omega) ?_
 have hz := lt_of_blk hb2
 exact ⟨⟨_, rfl, (hE.mod h9 fun k h1 h2 e => by omega).mono h2.size⟩, (h2.trans h8).trans' (h9.mono fun k _ e => .inr (by omega))⟩
theorem nilResource (w : World) (i : Value) : Meets Tryz.prog 141 #[.pointer none, i] w fun v w' => v = .tuple #[nV 0, .bool false] ∧ w' = w := by
 refine f141_ok ?_
 unfold f141
 rw [keq_ptr_nil ptWor]
 refine kB_at ?_
 refine kIf_T rfl ?_
 exact ⟨rfl, rfl⟩
theorem nilFrame (w : World) : Meets Tryz.prog 142 #[.pointer none] w fun v w' => v = nV 0 ∧ w' = w := by
 refine f142_ok ?_
 unfold f142
 rw [keq_ptr_nil ptWor]
 refine kB_at ?_
 refine kIf_T rfl ?_
 exact ⟨rfl, rfl⟩
theorem nilDraw (hL : LaidP pr Sa w) (h2 : pr 2) (n : Value) : Meets Tryz.prog 143 #[.pointer none, n] w fun v w' => (∃ e, v = .tuple #[nV 0, e]) ∧ Same w w' := by
 refine f143_ok ?_
 unfold f143
 rw [keq_ptr_nil ptWor]
 refine kB_at ?_
 refine kIf_T rfl ?_
 refine kld_err hL h2 rfl rfl ?_
 refine kcall_of (wWrong (ErrX.sent Sa 2 w.heap.size w) (Nat.le_refl _)) ?_
 rintro v w5 ⟨hE, h5⟩
 exact ⟨⟨_, rfl⟩, h5⟩
theorem nilAssign (hL : LaidP pr Sa w) (h2 : pr 2) (i n : Value) : Meets Tryz.prog 145 #[.pointer none, i, n] w fun v w' => Same w w' := by
 refine f145_ok ?_
 unfold f145
 rw [keq_ptr_nil ptWor]
 refine kB_at ?_
 refine kIf_T rfl ?_
 refine kld_err hL h2 rfl rfl ?_
 refine kcall_of (wWrong (ErrX.sent Sa 2 w.heap.size w) (Nat.le_refl _)) ?_
 rintro v w5 ⟨hE, h5⟩
 exact h5
end
def noW (og : Bool) (n most : Nat) : WM NB where
 get _ _ := none
 res _ _ := none
 fr _ := 0
 set s _ _ _ := s
 asg s _ _ := s
 dr s _ := (s, 0)
 add := nbAdd og n most
structure NoI (c : WC) (w0 : World) (o : OC) (S : SM) (t : Nat) (B : BdM) (X : Nat → Prop) (w : World) (s : NB) : Prop where
 pr : Pair c w0 o X w S t B s.l s.gv s.dr
 ap : ∀ k, X k → ¬ c.mine k
 few : s.l.length ≤ s.gv
def noH (o : OC) (og : Bool) (i0 i1 who : Int) : HC := ⟨none, if og = true then some ⟨o.bo, 0, none⟩ else none, i0, i1, who⟩
theorem no_host {pr : Nat → Prop} {Sa : Nat → Addr} {c : WC} {w0 : World} (hL : LaidP pr Sa w0) (h1 : pr 1) (h2 : pr 2) (h6 : pr 6) {o : OC} {S : SM} {t : Nat} {B : BdM} (og : Bool) {i0 i1 who : Int} (hi0 : I64 i0) (hi1 : I64 i1) (hwho : I64 who) (hmo : o.most ≤ 1000000) :
  WI (noW og o.L.length o.most) (noH o og i0 i1 who) w0 nbCost (NoI c w0 o S t B) where
 base h := h.pr.same0
 lt h := fun k hk => h.pr.lt hk
 loc h m := ⟨h.pr.loc m, h.ap, h.few⟩
 less h hs := ⟨h.pr.less hs, fun k hk => h.ap k (hs k hk), h.few⟩
 grow h m hf := by
  have hP := h.pr
  obtain ⟨⟨fx, U, hW, _⟩, _⟩ := id hP
  refine ⟨hP.grow m fun k hk => ⟨hf k hk, h.ap k (hf k hk)⟩, fun k hk => ?_, h.few⟩
  rcases hk with hk | hk
  ·exact h.ap k hk
  ·intro e
   have := (hW.A.lt (hW.fm k e)).2
   omega
 get {X w s} c h hc := by
  refine (wGet_fail (Sa := Sa) (k := 2) fun w2 m => nilEntity (hL.same (h.pr.same0.trans m)) h2 _).mono ?_
  rintro v w' ⟨⟨e, rfl, hE⟩, h'⟩
  exact ⟨⟨_, e, rfl, .inr ⟨rfl, hE⟩⟩, h'⟩
 res i h := by
  refine (nilResource _ _).mono ?_
  rintro v w' ⟨rfl, rfl⟩
  exact ⟨⟨_, rfl⟩, Mod.refl _ _⟩
 fr h := by
  refine (nilFrame _).mono ?_
  rintro v w' ⟨rfl, rfl⟩
  exact ⟨rfl, Mod.refl _ _⟩
 set {X w s} c i n h hc _ _ := by
  refine (wSet_fail (Sa := Sa) (k := 2) (nilEntity (hL.same h.pr.same0) h2 _)).mono ?_
  intro v w' h'
  exact ⟨⟨h.pr.loc h', h.ap, h.few⟩, Mod.of_same h'⟩
 asg {X w s} i n h _ _ := by
  refine (nilAssign (hL.same h.pr.same0) h2 _ _).mono ?_
  intro v w' h'
  exact ⟨⟨h.pr.loc h', h.ap, h.few⟩, Mod.of_same h'⟩
 dr {X w s} n h _ _ := by
  refine (nilDraw (hL.same h.pr.same0) h2 _).mono ?_
  rintro v w' ⟨⟨e, rfl⟩, h'⟩
  exact ⟨⟨e, rfl⟩, ⟨h.pr.loc h', h.ap, h.few⟩, Mod.of_same h'⟩
 add {X w s} x h hx hc := by
  refine (add_any hL h1 h2 h6 og h.pr hmo h.few hx hc).mono ?_
  rintro v w' ⟨⟨hP, hf⟩, hm⟩
  exact ⟨⟨hP, h.ap, hf⟩, hm⟩
 get64 h hq := by cases hq
 res64 h hv := by cases hv
 fr64 _ := I64_0
 dr64 s n := I64_0
 in64 := ⟨hi0, hi1, hwho⟩
 cset s c i n := Nat.le_succ _
 casg s i n := Nat.le_succ _
 cdr s n := Nat.le_succ _
 cadd s x := add_cost _ _ _ _ _
end
section
def plainQ (i : Nat) : Comp := ⟨⟨#[UInt8.ofNat (97 + i)]⟩, ((1 + i : Nat) : Int), decide (i < 3), (i : Int), 0, 0, 0⟩
def plainC : List Comp := (List.range 4).map plainQ
def plainR : List ResM := [⟨⟨#[115]⟩, 5⟩, ⟨⟨#[116]⟩, 0⟩]
theorem plainQ_in {q : Comp} (h : q ∈ plainC) : ∃ i, i < 4 ∧ q = plainQ i := by
 obtain ⟨i, hi, rfl⟩ := List.mem_map.1 h
 exact ⟨i, by simpa using hi, rfl⟩
theorem one_ok {n : Nat} (h1 : 97 ≤ n) (h2 : n ≤ 122) : NameOk ⟨#[UInt8.ofNat n]⟩ :=
 ⟨by show 1 ≤ 1; omega, by show 1 ≤ 8; omega, fun x hx => by
  have : x = UInt8.ofNat n := by
   have hx : x ∈ [UInt8.ofNat n] := hx
   simpa using hx
  subst this
  rw [UInt8.toNat_ofNat']
  omega⟩
theorem plainC_good : GoodSc plainC where
 len := by decide
 names q hq := by
  obtain ⟨i, hi, rfl⟩ := plainQ_in hq
  exact one_ok (by omega) (by omega)
 apart i j hi hj e := by
  have hi : i < 4 := hi
  have hj : j < 4 := hj
  simp only [plainC, List.getElem_map, List.getElem_range, plainQ] at e
  have e2 : [UInt8.ofNat (97 + i)] = [UInt8.ofNat (97 + j)] := congrArg (fun b : ByteArray => b.data.toList) e
  have e3 := congrArg UInt8.toNat (List.cons.inj e2).1
  rw [UInt8.toNat_ofNat', UInt8.toNat_ofNat'] at e3
  omega
 wide q hq := by
  obtain ⟨i, hi, rfl⟩ := plainQ_in hq
  exact ⟨1 + i, rfl, by omega, by omega⟩
 clean q hq := by
  obtain ⟨i, hi, rfl⟩ := plainQ_in hq
  exact ⟨fun _ => rfl, fun _ => rfl, fun _ => rfl⟩
theorem plainR_good : GoodR plainC plainR where
 len := by decide
 names r hr := by
  simp only [plainR, List.mem_cons, List.not_mem_nil, or_false] at hr
  rcases hr with rfl | rfl
  ·exact one_ok (n := 115) (by omega) (by omega)
  ·exact one_ok (n := 116) (by omega) (by omega)
 apart i j hi hj e := by
  have hi : i < 2 := hi
  have hj : j < 2 := hj
  have h1 : i = 0 ∨ i = 1 := by omega
  have h2 : j = 0 ∨ j = 1 := by omega
  rcases h1 with rfl | rfl <;> rcases h2 with rfl | rfl
  ·rfl
  ·exact absurd (congrArg (fun b : ByteArray => b.data.toList) e) (by simp [plainR])
  ·exact absurd (congrArg (fun b : ByteArray => b.data.toList) e) (by simp [plainR])
  ·rfl
 other r hr q hq e := by
  obtain ⟨i, hi, rfl⟩ := plainQ_in hq
  have e2 : [UInt8.ofNat (97 + i)] = r.name.data.toList := congrArg (fun b : ByteArray => b.data.toList) e
  simp only [plainR, List.mem_cons, List.not_mem_nil, or_false] at hr
  rcases hr with rfl | rfl
  ·have e3 := congrArg UInt8.toNat (List.cons.inj (e2 : [UInt8.ofNat (97 + i)] = [115])).1
   rw [UInt8.toNat_ofNat'] at e3
   have : (97 + i) % 2 ^ 8 = 115 := e3
   omega
  ·have e3 := congrArg UInt8.toNat (List.cons.inj (e2 : [UInt8.ofNat (97 + i)] = [116])).1
   rw [UInt8.toNat_ofNat'] at e3
   have : (97 + i) % 2 ^ 8 = 116 := e3
   omega
theorem plain_str : ∀ j, j < 4 → (⟨#[97, 98, 99, 100]⟩ : ByteArray).extract j (j + 1) = ⟨#[UInt8.ofNat (97 + j)]⟩
 | 0, _ => rfl | 1, _ => rfl | 2, _ => rfl | 3, _ => rfl
 | n + 4, h => by omega
end
section
def f34_4 (x3 x7 x8 : Value) (J5 : Value → World → Prop) (Q : PQ) (w : World) : Prop :=
 kint .i64 .add x8 (.int .i64 1) fun v35 =>
 J5 v35 w
def f34_3 (x3 x7 x8 : Value) (J5 : Value → World → Prop) (Q : PQ) (w : World) : Prop :=
 kN x7 <|
 kfld 7 x7 fun v22 =>
 kld v22 w.drew fun v23 =>
 kG (w.drew = w.drew) <|
 kfld 1 x3 fun v24 =>
 kld v24 w.drew fun v25 =>
 kG (w.drew = w.drew) <|
 kix (some (.slice 82)) (some 2) v25 x8 fun v26 =>
 kfld 1 v26 fun v27 =>
 kld v27 w.drew fun v28 =>
 kG (w.drew = w.drew) <|
 kbldS [.int .i64 0] 1 [(0, 1, v28)] 3 w.drew fun v29 w30 =>
 kG (kld v22 w30 fun v36 =>
 v36 = v23 ∧ w30 = w30) <|
 ksem Tryz.prog (Builtin.append_ #[57, 57] 0 #[v23, v29]) w30 fun v31 w32 =>
 kN x7 <|
 kfld 7 x7 fun v33 =>
 kst 1 v33 v31 w32 fun w34 =>
 f34_4 x3 x7 x8 J5 Q w34
def f34_5 (x7 : Value) (Q : PQ) (w : World) : Prop :=
 Q x7 w
def f34_2 (x8 x3 x7 : Value) (J5 : Value → World → Prop) (Q : PQ) (w : World) : Prop :=
 kfld 1 x3 fun v17 =>
 kld v17 w fun v18 =>
 klen v18 fun v19 =>
 kint .i64 .lss x8 v19 fun v21 =>
 kB v21 fun b37 => kIf b37
 (f34_3 x3 x7 x8 J5 Q w)
 (f34_5 x7 Q w)
def f34_1 (x1 x2 x3 : Value) (Q : PQ) (w : World) : Prop :=
 kldN 2 x3 w fun v13 =>
 kbld [.slice none 0 0, .slice none 0 0, .int .i64 0, .slice none 0 0, .int .i64 0, .int .i64 0, .int .i64 0, .slice none 0 0, .slice none 0 0, .bool false] [(0, 2, v13), (2, 1, x1), (5, 1, (.int .i64 1)), (6, 1, x2)] fun v14 =>
 knew (Value.cells v14) 169 w fun v15 w16 =>
 kL fun (I : Value → World → Prop) (μ : Value → World → Nat) => I (.int .i64 0) w16 ∧ ∀ (x8 : Value) (w1 : World), I x8 w1 →
 f34_2 x8 x3 v15 (fun y8 w2 => I y8 w2 ∧ μ y8 w2 < μ x8 w1) Q w1
def f34_0 (x1 x2 x3 x20 : Value) (Q : PQ) (w : World) : Prop :=
 kB x20 fun b38 => kIf b38
 (Q (.pointer none) w)
 (f34_1 x1 x2 x3 Q w)
def f34 (x0 x1 x2 : Value) (Q : PQ) (w : World) : Prop :=
 knew (Value.cells x0) 25 w fun v1 w2 =>
 kldN 2 v1 w2 fun v3 =>
 kcall Tryz.prog 70 #[v3] w2 fun v4 w5 =>
 klen v4 fun v6 =>
 kint .i64 .gtr v6 (.int .i64 0) fun v8 =>
 kB v8 fun b9 => kIf (!b9)
 (kint .i64 .lss x1 (.int .i64 0) fun v10 =>
 kB v10 fun b11 => kIf (!b11)
 (kint .i64 .gtr x1 (.int .i64 64) fun v12 =>
 f34_0 x1 x2 v1 v12 Q w5)
 (f34_0 x1 x2 v1 (.bool true) Q w5))
 (f34_0 x1 x2 v1 (.bool true) Q w5)
theorem f34_ok {x0 x1 x2 : Value} {Q : PQ} {w : World} (h : f34 x0 x1 x2 Q w) : Meets Tryz.prog 34 #[x0, x1, x2] w Q :=
 sound' (c := Tryz.f34.body.get rfl) [(5, [8])] Tryz.func34 rfl rfl (args := [x0, x1, x2]) rfl (by kernel_rfl) h
def f37_0 (x0 : Value) (Q : PQ) (w : World) : Prop :=
 kN x0 <|
 kfld 4 x0 fun v4 =>
 kld v4 w fun v5 =>
 kbld [.int .i64 0, .int .i64 0, .int .i64 0, .int .i64 0, .int .i64 0, .int .i64 0, .int .i64 0, .int .i64 0, .slice none 0 0, .int .i64 0, .int .i64 0] [(0, 1, (.int .i64 9)), (10, 1, v5)] fun v6 =>
 kcall Tryz.prog 72 #[x0, v6] w fun v7 w8 =>
 kN x0 <|
 kfld 4 x0 fun v9 =>
 kld v9 w8 fun v10 =>
 kint .i64 .add v10 (.int .i64 1) fun v11 =>
 kN x0 <|
 kfld 4 x0 fun v12 =>
 kst 1 v12 v11 w8 fun w13 =>
 Q (.int .i64 0) w13
def f37 (x0 : Value) (Q : PQ) (w : World) : Prop :=
 kN x0 <|
 kfld 4 x0 fun v1 =>
 kld v1 w fun v2 =>
 kint .i64 .geq v2 (.int .i64 1073741824) fun v3 =>
 kB v3 fun b14 => kIf b14
 (Q (.int .i64 6) w)
 (f37_0 x0 Q w)
theorem f37_ok {x0 : Value} {Q : PQ} {w : World} (h : f37 x0 Q w) : Meets Tryz.prog 37 #[x0] w Q :=
 sound' (c := Tryz.f37.body.get rfl) [] Tryz.func37 rfl rfl (args := [x0]) rfl (by kernel_rfl) h
def f39_2 (x0 x6 : Value) (Q : PQ) (w : World) : Prop :=
 kN x0 <|
 kfld 5 x0 fun v17 =>
 kld v17 w fun v18 =>
 kN x0 <|
 kfld 5 x0 fun v19 =>
 kld v19 w fun v20 =>
 kbld [.int .i64 0, .int .i64 0, .int .i64 0, .int .i64 0, .int .i64 0, .int .i64 0, .int .i64 0, .int .i64 0, .slice none 0 0, .int .i64 0, .int .i64 0] [(0, 1, (.int .i64 7)), (10, 1, v20)] fun v21 =>
 kcall Tryz.prog 72 #[x0, v21] w fun v22 w23 =>
 kbld [.int .i64 0, .int .i64 0, .int .i64 0, .int .i64 0, .int .i64 0, .int .i64 0, .int .i64 0, .int .i64 0, .slice none 0 0, .int .i64 0, .int .i64 0] [(0, 1, (.int .i64 2)), (1, 1, v18)] fun v24 =>
 kcall Tryz.prog 72 #[x0, v24] w23 fun v25 w26 =>
 kN x0 <|
 kfld 5 x0 fun v27 =>
 kld v27 w26 fun v28 =>
 kint .i64 .add v28 (.int .i64 1) fun v29 =>
 kN x0 <|
 kfld 5 x0 fun v30 =>
 kst 1 v30 v29 w26 fun w31 =>
 kcall Tryz.prog 78 #[x0, v18, x6] w31 fun v32 w33 =>
 Q (.tuple #[v18, .int .i64 0]) w33
def f39_1 (x0 x6 x34 : Value) (Q : PQ) (w : World) : Prop :=
 kB x34 fun b34 => kIf b34
 (Q (.tuple #[.int .i64 0, .int .i64 6]) w)
 (f39_2 x0 x6 Q w)
def f39_0 (x0 x6 : Value) (Q : PQ) (w : World) : Prop :=
 kN x0 <|
 kfld 3 x0 fun v6 =>
 kld v6 w.drew fun v7 =>
 kG (w.drew = w.drew) <|
 klen v7 fun v8 =>
 kN x0 <|
 kfld 2 x0 fun v10 =>
 kld v10 w.drew fun v11 =>
 kG (w.drew = w.drew) <|
 kint .i64 .geq v8 v11 fun v12 =>
 kB v12 fun b13 => kIf (!b13)
 (kN x0 <|
 kfld 5 x0 fun v14 =>
 kld v14 w.drew fun v15 =>
 kG (w.drew = w.drew) <|
 kint .i64 .gtr v15 (.int .i64 1073741824) fun v16 =>
 f39_1 x0 x6 v16 Q w.drew)
 (f39_1 x0 x6 (.bool true) Q w.drew)
def f39 (x0 x1 : Value) (Q : PQ) (w : World) : Prop :=
 kcall Tryz.prog 77 #[x0, x1] w fun v1 w2 =>
 kext v1 0 fun v3 =>
 kext v1 1 fun v4 =>
 kint .i64 .neq v4 (.int .i64 0) fun v5 =>
 kB v5 fun b35 => kIf b35
 (Q (.tuple #[.int .i64 0, v4]) w2)
 (f39_0 x0 v3 Q w2)
theorem f39_ok {x0 x1 : Value} {Q : PQ} {w : World} (h : f39 x0 x1 Q w) : Meets Tryz.prog 39 #[x0, x1] w Q :=
 sound' (c := Tryz.f39.body.get rfl) [] Tryz.func39 rfl rfl (args := [x0, x1]) rfl (by kernel_rfl) h
def f77_4 (x0 x1 x6 x7 x8 : Value) (J4 : Value → Value → Value → World → Prop) (Q : PQ) (w : World) : Prop :=
 kint .i64 .add x8 (.int .i64 1) fun v24 =>
 J4 x6 x7 v24 w
def f77_3 (x0 x1 x6 x7 x8 : Value) (J4 : Value → Value → Value → World → Prop) (Q : PQ) (w : World) : Prop :=
 kix (some (.slice 102)) (some 6) x1 x8 fun v20 =>
 kldN 6 v20 w fun v21 =>
 kcall Tryz.prog 138 #[x6, v21] w fun v22 w23 =>
 f77_4 x0 x1 v22 x7 x8 J4 Q w23
def f77_2 (x0 x1 x6 x7 x8 : Value) (J4 : Value → Value → Value → World → Prop) (Q : PQ) (w : World) : Prop :=
 kB x7 fun b13 => kIf (!b13)
 (kix (some (.slice 102)) (some 6) x1 x8 fun v14 =>
 kfld 0 v14 fun v15 =>
 kld v15 w fun v16 =>
 kcall Tryz.prog 137 #[x6, v16] w fun v17 w18 =>
 kint .i64 .geq v17 (.int .i64 0) fun v19 =>
 f77_3 x0 x1 x6 v19 x8 J4 Q w18)
 (f77_3 x0 x1 x6 (.bool true) x8 J4 Q w)
def f77_1 (x0 x1 x6 x7 x8 : Value) (J4 : Value → Value → Value → World → Prop) (Q : PQ) (w : World) : Prop :=
 kN x0 <|
 kfld 0 x0 fun v6 =>
 kldN 2 v6 w.drew fun v7 =>
 kG (w.drew = w.drew) <|
 kix (some (.slice 102)) (some 6) x1 x8 fun v8 =>
 kldN 6 v8 w.drew fun v9 =>
 kG (w.drew = w.drew) <|
 kcall Tryz.prog 136 #[v7, v9] w.drew fun v10 w11 =>
 kun .not (some .bool) v10 fun v12 =>
 kB v12 fun b25 => kIf b25
 (Q (.tuple #[.slice none 0 0, .int .i64 1]) w11)
 (f77_2 x0 x1 x6 x7 x8 J4 Q w11)
def f77_6 (x6 : Value) (Q : PQ) (w : World) : Prop :=
 Q (.tuple #[x6, .int .i64 0]) w
def f77_5 (x6 x7 : Value) (Q : PQ) (w : World) : Prop :=
 kB x7 fun b26 => kIf b26
 (Q (.tuple #[.slice none 0 0, .int .i64 9]) w)
 (f77_6 x6 Q w)
def f77_0 (x6 x7 x8 x0 x1 : Value) (J4 : Value → Value → Value → World → Prop) (Q : PQ) (w : World) : Prop :=
 klen x1 fun v3 =>
 kint .i64 .lss x8 v3 fun v5 =>
 kB v5 fun b27 => kIf b27
 (f77_1 x0 x1 x6 x7 x8 J4 Q w)
 (f77_5 x6 x7 Q w)
def f77 (x0 x1 : Value) (Q : PQ) (w : World) : Prop :=
 kbldS [.int .i64 0, .int .i64 0, .int .i64 0, .int .i64 0, .int .i64 0, .int .i64 0] 0 [] 102 w fun v1 w2 =>
 kL fun (I : Value → Value → Value → World → Prop) (μ : Value → Value → Value → World → Nat) => I v1 (.bool false) (.int .i64 0) w2 ∧ ∀ (x6 x7 x8 : Value) (w1 : World), I x6 x7 x8 w1 →
 f77_0 x6 x7 x8 x0 x1 (fun y6 y7 y8 w2 => I y6 y7 y8 w2 ∧ μ y6 y7 y8 w2 < μ x6 x7 x8 w1) Q w1
theorem f77_ok {x0 x1 : Value} {Q : PQ} {w : World} (h : f77 x0 x1 Q w) : Meets Tryz.prog 77 #[x0, x1] w Q :=
 sound' (c := Tryz.f77.body.get rfl) [(4, [6, 7, 8])] Tryz.func77 rfl rfl (args := [x0, x1]) rfl (by kernel_rfl) h
def f78_4 (x0 x1 x2 x6 x7 x8 : Value) (J3 : Value → Value → Value → World → Prop) (Q : PQ) (w : World) : Prop :=
 kint .i64 .add x8 (.int .i64 1) fun v29 =>
 J3 x6 x7 v29 w
def f78_3 (x0 x1 x2 x6 x7 x8 : Value) (J3 : Value → Value → Value → World → Prop) (Q : PQ) (w : World) : Prop :=
 kN x0 <|
 kfld 3 x0 fun v21 =>
 kld v21 w fun v22 =>
 kix (some (.slice 270)) (some 2) v22 x8 fun v23 =>
 kldN 2 v23 w fun v24 =>
 kbldS [.int .i64 0, .slice none 0 0] 1 [(0, 2, v24)] 270 w fun v25 w26 =>
 ksem Tryz.prog (Builtin.append_ #[166, 166] 0 #[x6, v25]) w26 fun v27 w28 =>
 f78_4 x0 x1 x2 v27 x7 x8 J3 Q w28
def f78_2 (x0 x1 x2 x6 x7 x8 x32 : Value) (J3 : Value → Value → Value → World → Prop) (Q : PQ) (w : World) : Prop :=
 kB x32 fun b30 => kIf b30
 (kbld [.int .i64 0, .slice none 0 0] [(0, 1, x1), (1, 1, x2)] fun v16 =>
 kbldS [.int .i64 0, .slice none 0 0] 1 [(0, 2, v16)] 270 w fun v17 w18 =>
 ksem Tryz.prog (Builtin.append_ #[166, 166] 0 #[x6, v17]) w18 fun v19 w20 =>
 f78_3 x0 x1 x2 v19 (.bool true) x8 J3 Q w20)
 (f78_3 x0 x1 x2 x6 x7 x8 J3 Q w)
def f78_1 (x0 x1 x2 x6 x7 x8 : Value) (J3 : Value → Value → Value → World → Prop) (Q : PQ) (w : World) : Prop :=
 kun .not (some .bool) x7 fun v8 =>
 kB v8 fun b9 => kIf b9
 (kN x0 <|
 kfld 3 x0 fun v10 =>
 kld v10 w fun v11 =>
 kix (some (.slice 270)) (some 2) v11 x8 fun v12 =>
 kfld 0 v12 fun v13 =>
 kld v13 w fun v14 =>
 kint .i64 .gtr v14 x1 fun v15 =>
 f78_2 x0 x1 x2 x6 x7 x8 v15 J3 Q w)
 (f78_2 x0 x1 x2 x6 x7 x8 (.bool false) J3 Q w)
def f78_6 (x0 x6 : Value) (Q : PQ) (w : World) : Prop :=
 kN x0 <|
 kfld 3 x0 fun v37 =>
 kst 1 v37 x6 w fun w38 =>
 Q (.tuple #[]) w38
def f78_5 (x0 x1 x2 x6 x7 : Value) (Q : PQ) (w : World) : Prop :=
 kun .not (some .bool) x7 fun v31 =>
 kB v31 fun b39 => kIf b39
 (kbld [.int .i64 0, .slice none 0 0] [(0, 1, x1), (1, 1, x2)] fun v32 =>
 kbldS [.int .i64 0, .slice none 0 0] 1 [(0, 2, v32)] 270 w fun v33 w34 =>
 ksem Tryz.prog (Builtin.append_ #[166, 166] 0 #[x6, v33]) w34 fun v35 w36 =>
 f78_6 x0 v35 Q w36)
 (f78_6 x0 x6 Q w)
def f78_0 (x6 x7 x8 x0 x1 x2 : Value) (J3 : Value → Value → Value → World → Prop) (Q : PQ) (w : World) : Prop :=
 kN x0 <|
 kfld 3 x0 fun v3 =>
 kld v3 w fun v4 =>
 klen v4 fun v5 =>
 kint .i64 .lss x8 v5 fun v7 =>
 kB v7 fun b40 => kIf b40
 (f78_1 x0 x1 x2 x6 x7 x8 J3 Q w)
 (f78_5 x0 x1 x2 x6 x7 Q w)
def f78 (x0 x1 x2 : Value) (Q : PQ) (w : World) : Prop :=
 kbldS [.int .i64 0, .slice none 0 0] 0 [] 270 w fun v1 w2 =>
 kL fun (I : Value → Value → Value → World → Prop) (μ : Value → Value → Value → World → Nat) => I v1 (.bool false) (.int .i64 0) w2 ∧ ∀ (x6 x7 x8 : Value) (w1 : World), I x6 x7 x8 w1 →
 f78_0 x6 x7 x8 x0 x1 x2 (fun y6 y7 y8 w2 => I y6 y7 y8 w2 ∧ μ y6 y7 y8 w2 < μ x6 x7 x8 w1) Q w1
theorem f78_ok {x0 x1 x2 : Value} {Q : PQ} {w : World} (h : f78 x0 x1 x2 Q w) : Meets Tryz.prog 78 #[x0, x1, x2] w Q :=
 sound' (c := Tryz.f78.body.get rfl) [(3, [6, 7, 8])] Tryz.func78 rfl rfl (args := [x0, x1, x2]) rfl (by kernel_rfl) h
def f72 (x0 x1 : Value) (Q : PQ) (w : World) : Prop :=
 knew (Value.cells x1) 174 w fun v1 w2 =>
 kN x0 <|
 kfld 9 x0 fun v3 =>
 kld v3 w2 fun v4 =>
 kB v4 fun b54 => kIf b54
 ((kbldS [.int .i64 0, .int .i64 0, .int .i64 0, .int .i64 0, .int .i64 0, .int .i64 0, .int .i64 0, .int .i64 0, .slice none 0 0, .int .i64 0, .int .i64 0] 0 [] 174 w2.drew fun v5 w6 =>
 (kN x0 <|
 kfld 8 x0 fun v7 =>
 kld v7 w6 fun v8 =>
 kG (w6 = w6) <|
 kG (kld v7 w2.drew fun v21 =>
 v21 = v8 ∧ w2.drew = w2.drew) <|
 ksem Tryz.prog (Builtin.append_ #[167, 167] 0 #[v5, v8]) w6 fun v9 w10 =>
 kldN 11 v1 w10 fun v11 =>
 kG (w10 = w10) <|
 kG (kldN 11 v1 w6 fun v20 =>
 v20 = v11 ∧ w6 = w6) <|
 kG (kldN 11 v1 w2.drew fun v19 =>
 v19 = v11 ∧ w2.drew = w2.drew) <|
 kbldS [.int .i64 0, .int .i64 0, .int .i64 0, .int .i64 0, .int .i64 0, .int .i64 0, .int .i64 0, .int .i64 0, .slice none 0 0, .int .i64 0, .int .i64 0] 1 [(0, 11, v11)] 174 w10 fun v12 w13 =>
 kG (kld v7 w13 fun v18 =>
 v18 = v8 ∧ w13 = w13) <|
 ksem Tryz.prog (Builtin.append_ #[167, 167] 0 #[v9, v12]) w13 fun v14 w15 =>
 kN x0 <|
 kfld 8 x0 fun v16 =>
 kst 1 v16 v14 w15 fun w17 =>
 Q (.tuple #[]) w17) ∧
 (kldN 11 v1 w6 fun v22 =>
 kG (w6 = w6) <|
 kG (kldN 11 v1 w2.drew fun v36 =>
 v36 = v22 ∧ w2.drew = w2.drew) <|
 kbldS [.int .i64 0, .int .i64 0, .int .i64 0, .int .i64 0, .int .i64 0, .int .i64 0, .int .i64 0, .int .i64 0, .slice none 0 0, .int .i64 0, .int .i64 0] 1 [(0, 11, v22)] 174 w6 fun v23 w24 =>
 kN x0 <|
 kfld 8 x0 fun v25 =>
 kld v25 w24 fun v26 =>
 kG (w24 = w24) <|
 kG (kld v25 w6 fun v35 =>
 v35 = v26 ∧ w6 = w6) <|
 kG (kld v25 w2.drew fun v34 =>
 v34 = v26 ∧ w2.drew = w2.drew) <|
 ksem Tryz.prog (Builtin.append_ #[167, 167] 0 #[v5, v26]) w24 fun v27 w28 =>
 kG (kldN 11 v1 w28 fun v33 =>
 v33 = v22 ∧ w28 = w28) <|
 ksem Tryz.prog (Builtin.append_ #[167, 167] 0 #[v27, v23]) w28 fun v29 w30 =>
 kN x0 <|
 kfld 8 x0 fun v31 =>
 kst 1 v31 v29 w30 fun w32 =>
 Q (.tuple #[]) w32)) ∧
 (kldN 11 v1 w2.drew fun v37 =>
 kG (w2.drew = w2.drew) <|
 kbldS [.int .i64 0, .int .i64 0, .int .i64 0, .int .i64 0, .int .i64 0, .int .i64 0, .int .i64 0, .int .i64 0, .slice none 0 0, .int .i64 0, .int .i64 0] 1 [(0, 11, v37)] 174 w2.drew fun v38 w39 =>
 kbldS [.int .i64 0, .int .i64 0, .int .i64 0, .int .i64 0, .int .i64 0, .int .i64 0, .int .i64 0, .int .i64 0, .slice none 0 0, .int .i64 0, .int .i64 0] 0 [] 174 w39 fun v40 w41 =>
 kG (kldN 11 v1 w41 fun v53 =>
 v53 = v37 ∧ w41 = w41) <|
 kN x0 <|
 kfld 8 x0 fun v42 =>
 kld v42 w41 fun v43 =>
 kG (w41 = w41) <|
 kG (kld v42 w39 fun v52 =>
 v52 = v43 ∧ w39 = w39) <|
 kG (kld v42 w2.drew fun v51 =>
 v51 = v43 ∧ w2.drew = w2.drew) <|
 ksem Tryz.prog (Builtin.append_ #[167, 167] 0 #[v40, v43]) w41 fun v44 w45 =>
 kG (kldN 11 v1 w45 fun v50 =>
 v50 = v37 ∧ w45 = w45) <|
 ksem Tryz.prog (Builtin.append_ #[167, 167] 0 #[v44, v38]) w45 fun v46 w47 =>
 kN x0 <|
 kfld 8 x0 fun v48 =>
 kst 1 v48 v46 w47 fun w49 =>
 Q (.tuple #[]) w49))
 (Q (.tuple #[]) w2)
theorem f72_ok {x0 x1 : Value} {Q : PQ} {w : World} (h : f72 x0 x1 Q w) : Meets Tryz.prog 72 #[x0, x1] w Q :=
 sound' (c := Tryz.f72.body.get rfl) [] Tryz.func72 rfl rfl (args := [x0, x1]) rfl (by kernel_rfl) h
def f137_2 (x0 x1 x5 : Value) (J2 : Value → World → Prop) (Q : PQ) (w : World) : Prop :=
 kint .i64 .add x5 (.int .i64 1) fun v8 =>
 J2 v8 w
def f137_1 (x0 x1 x5 : Value) (J2 : Value → World → Prop) (Q : PQ) (w : World) : Prop :=
 kix (some (.slice 102)) (some 6) x0 x5 fun v4 =>
 kfld 0 v4 fun v5 =>
 kld v5 w fun v6 =>
 kint .i64 .eql v6 x1 fun v7 =>
 kB v7 fun b9 => kIf b9
 (Q x5 w)
 (f137_2 x0 x1 x5 J2 Q w)
def f137_3 (Q : PQ) (w : World) : Prop :=
 Q (.int .i64 (-1)) w
def f137_0 (x5 x0 x1 : Value) (J2 : Value → World → Prop) (Q : PQ) (w : World) : Prop :=
 klen x0 fun v1 =>
 kint .i64 .lss x5 v1 fun v3 =>
 kB v3 fun b10 => kIf b10
 (f137_1 x0 x1 x5 J2 Q w)
 (f137_3 Q w)
def f137 (x0 x1 : Value) (Q : PQ) (w : World) : Prop :=
 kL fun (I : Value → World → Prop) (μ : Value → World → Nat) => I (.int .i64 0) w ∧ ∀ (x5 : Value) (w1 : World), I x5 w1 →
 f137_0 x5 x0 x1 (fun y5 w2 => I y5 w2 ∧ μ y5 w2 < μ x5 w1) Q w1
theorem f137_ok {x0 x1 : Value} {Q : PQ} {w : World} (h : f137 x0 x1 Q w) : Meets Tryz.prog 137 #[x0, x1] w Q :=
 sound' (c := Tryz.f137.body.get rfl) [(2, [5])] Tryz.func137 rfl rfl (args := [x0, x1]) rfl (by kernel_rfl) h
def f136_4 (x3 x5 : Value) (J4 : Value → World → Prop) (Q : PQ) (w : World) : Prop :=
 kint .i64 .add x5 (.int .i64 1) fun v28 =>
 J4 v28 w
def f136_3 (x3 x5 : Value) (J4 : Value → World → Prop) (Q : PQ) (w : World) : Prop :=
 kfld 1 x3 fun v24 =>
 kix (some (.array 4 3)) (some 1) v24 x5 fun v25 =>
 kld v25 w fun v26 =>
 kint .i64 .neq v26 (.int .i64 0) fun v27 =>
 kB v27 fun b29 => kIf b29
 (Q (.bool false) w)
 (f136_4 x3 x5 J4 Q w)
def f136_5 (Q : PQ) (w : World) : Prop :=
 Q (.bool true) w
def f136_2 (x5 x3 : Value) (J4 : Value → World → Prop) (Q : PQ) (w : World) : Prop :=
 kint .i64 .lss x5 (.int .i64 4) fun v23 =>
 kB v23 fun b30 => kIf b30
 (f136_3 x3 x5 J4 Q w)
 (f136_5 Q w)
def f136_1 (x2 x3 : Value) (Q : PQ) (w : World) : Prop :=
 kfld 0 x2 fun v16 =>
 kld v16 w fun v17 =>
 kfld 0 x3 fun v18 =>
 kld v18 w fun v19 =>
 kix (some (.slice 80)) (some 7) v17 v19 fun v20 =>
 kfld 1 v20 fun v21 =>
 kld v21 w fun v22 =>
 kL fun (I : Value → World → Prop) (μ : Value → World → Nat) => I v22 w ∧ ∀ (x5 : Value) (w1 : World), I x5 w1 →
 f136_2 x5 x3 (fun y5 w2 => I y5 w2 ∧ μ y5 w2 < μ x5 w1) Q w1
def f136_0 (x2 x3 x16 : Value) (Q : PQ) (w : World) : Prop :=
 kB x16 fun b31 => kIf b31
 (Q (.bool false) w)
 (f136_1 x2 x3 Q w)
def f136 (x0 x1 : Value) (Q : PQ) (w : World) : Prop :=
 knew (Value.cells x0) 25 w fun v1 w2 =>
 knew (Value.cells x1) 102 w2 fun v3 w4 =>
 kfld 0 v3 fun v5 =>
 kld v5 w4 fun v6 =>
 kint .i64 .lss v6 (.int .i64 0) fun v7 =>
 kB v7 fun b8 => kIf (!b8)
 (kfld 0 v3 fun v9 =>
 kld v9 w4 fun v10 =>
 kfld 0 v1 fun v11 =>
 kld v11 w4 fun v12 =>
 klen v12 fun v13 =>
 kint .i64 .geq v10 v13 fun v15 =>
 f136_0 v1 v3 v15 Q w4)
 (f136_0 v1 v3 (.bool true) Q w4)
theorem f136_ok {x0 x1 : Value} {Q : PQ} {w : World} (h : f136 x0 x1 Q w) : Meets Tryz.prog 136 #[x0, x1] w Q :=
 sound' (c := Tryz.f136.body.get rfl) [(4, [5])] Tryz.func136 rfl rfl (args := [x0, x1]) rfl (by kernel_rfl) h
def f138_4 (x0 x3 x5 x6 x7 : Value) (J4 : Value → Value → Value → World → Prop) (Q : PQ) (w : World) : Prop :=
 kint .i64 .add x7 (.int .i64 1) fun v27 =>
 J4 x5 x6 v27 w
def f138_3 (x0 x3 x5 x6 x7 : Value) (J4 : Value → Value → Value → World → Prop) (Q : PQ) (w : World) : Prop :=
 kix (some (.slice 102)) (some 6) x0 x7 fun v21 =>
 kldN 6 v21 w fun v22 =>
 kbldS [.int .i64 0, .int .i64 0, .int .i64 0, .int .i64 0, .int .i64 0, .int .i64 0] 1 [(0, 6, v22)] 102 w fun v23 w24 =>
 ksem Tryz.prog (Builtin.append_ #[83, 83] 0 #[x5, v23]) w24 fun v25 w26 =>
 f138_4 x0 x3 v25 x6 x7 J4 Q w26
def f138_2 (x0 x3 x5 x6 x7 x26 : Value) (J4 : Value → Value → Value → World → Prop) (Q : PQ) (w : World) : Prop :=
 kB x26 fun b28 => kIf b28
 (kldN 6 x3 w fun v16 =>
 kbldS [.int .i64 0, .int .i64 0, .int .i64 0, .int .i64 0, .int .i64 0, .int .i64 0] 1 [(0, 6, v16)] 102 w fun v17 w18 =>
 ksem Tryz.prog (Builtin.append_ #[83, 83] 0 #[x5, v17]) w18 fun v19 w20 =>
 f138_3 x0 x3 v19 (.bool true) x7 J4 Q w20)
 (f138_3 x0 x3 x5 x6 x7 J4 Q w)
def f138_1 (x0 x3 x5 x6 x7 : Value) (J4 : Value → Value → Value → World → Prop) (Q : PQ) (w : World) : Prop :=
 kun .not (some .bool) x6 fun v8 =>
 kB v8 fun b9 => kIf b9
 (kix (some (.slice 102)) (some 6) x0 x7 fun v10 =>
 kfld 0 v10 fun v11 =>
 kld v11 w.drew fun v12 =>
 kG (w.drew = w.drew) <|
 kfld 0 x3 fun v13 =>
 kld v13 w.drew fun v14 =>
 kG (w.drew = w.drew) <|
 kint .i64 .gtr v12 v14 fun v15 =>
 f138_2 x0 x3 x5 x6 x7 v15 J4 Q w.drew)
 (f138_2 x0 x3 x5 x6 x7 (.bool false) J4 Q w.drew)
def f138_6 (x5 : Value) (Q : PQ) (w : World) : Prop :=
 Q x5 w
def f138_5 (x3 x5 x6 : Value) (Q : PQ) (w : World) : Prop :=
 kun .not (some .bool) x6 fun v29 =>
 kB v29 fun b35 => kIf b35
 (kldN 6 x3 w fun v30 =>
 kbldS [.int .i64 0, .int .i64 0, .int .i64 0, .int .i64 0, .int .i64 0, .int .i64 0] 1 [(0, 6, v30)] 102 w fun v31 w32 =>
 ksem Tryz.prog (Builtin.append_ #[83, 83] 0 #[x5, v31]) w32 fun v33 w34 =>
 f138_6 v33 Q w34)
 (f138_6 x5 Q w)
def f138_0 (x5 x6 x7 x0 x3 : Value) (J4 : Value → Value → Value → World → Prop) (Q : PQ) (w : World) : Prop :=
 klen x0 fun v5 =>
 kint .i64 .lss x7 v5 fun v7 =>
 kB v7 fun b36 => kIf b36
 (f138_1 x0 x3 x5 x6 x7 J4 Q w)
 (f138_5 x3 x5 x6 Q w)
def f138 (x0 x1 : Value) (Q : PQ) (w : World) : Prop :=
 knew (Value.cells x1) 102 w fun v1 w2 =>
 kbldS [.int .i64 0, .int .i64 0, .int .i64 0, .int .i64 0, .int .i64 0, .int .i64 0] 0 [] 102 w2 fun v3 w4 =>
 kL fun (I : Value → Value → Value → World → Prop) (μ : Value → Value → Value → World → Nat) => I v3 (.bool false) (.int .i64 0) w4 ∧ ∀ (x5 x6 x7 : Value) (w1 : World), I x5 x6 x7 w1 →
 f138_0 x5 x6 x7 x0 v1 (fun y5 y6 y7 w2 => I y5 y6 y7 w2 ∧ μ y5 y6 y7 w2 < μ x5 x6 x7 w1) Q w1
theorem f138_ok {x0 x1 : Value} {Q : PQ} {w : World} (h : f138 x0 x1 Q w) : Meets Tryz.prog 138 #[x0, x1] w Q :=
 sound' (c := Tryz.f138.body.get rfl) [(4, [5, 6, 7])] Tryz.func138 rfl rfl (args := [x0, x1]) rfl (by kernel_rfl) h
def f70_5 (x1 x3 x4 : Value) (J5 : Value → Value → World → Prop) (Q : PQ) (w : World) : Prop :=
 kint .i64 .add x4 (.int .i64 1) fun v55 =>
 J5 x3 v55 w
def f70_9 (x1 x3 x4 x5 x6 x9 x10 : Value) (J18 : Value → Value → World → Prop) (J5 : Value → Value → World → Prop) (Q : PQ) (w : World) : Prop :=
 kint .i64 .add x10 (.int .i64 1) fun v64 =>
 J18 x9 v64 w
def f70_8 (x1 x3 x4 x5 x6 x9 x10 : Value) (J18 : Value → Value → World → Prop) (J5 : Value → Value → World → Prop) (Q : PQ) (w : World) : Prop :=
 kB x9 fun b59 => kIf b59
 (kfld 3 x5 fun v60 =>
 kix (some (.array 4 3)) (some 1) v60 x10 fun v61 =>
 kld v61 w fun v62 =>
 kint .i64 .eql v62 (.int .i64 0) fun v63 =>
 f70_9 x1 x3 x4 x5 x6 v63 x10 J18 J5 Q w)
 (f70_9 x1 x3 x4 x5 x6 (.bool false) x10 J18 J5 Q w)
def f70_10 (x1 x3 x4 x6 x9 : Value) (J5 : Value → Value → World → Prop) (Q : PQ) (w : World) : Prop :=
 kun .not (some .bool) x9 fun v65 =>
 kB v65 fun b72 => kIf b72
 (kstr .add x6 (.string ⟨#[100, 101, 102, 97, 117, 108, 116]⟩) fun v66 =>
 kbld [(.string ⟨#[]⟩), .int .i64 0] [(0, 1, v66), (1, 1, (.int .i64 1))] fun v67 =>
 kbldS [(.string ⟨#[]⟩), .int .i64 0] 1 [(0, 2, v67)] 252 w fun v68 w69 =>
 ksem Tryz.prog (Builtin.append_ #[164, 164] 0 #[x3, v68]) w69 fun v70 w71 =>
 f70_5 x1 v70 x4 J5 Q w71)
 (f70_5 x1 x3 x4 J5 Q w)
def f70_7 (x9 x10 x1 x3 x4 x5 x6 : Value) (J18 : Value → Value → World → Prop) (J5 : Value → Value → World → Prop) (Q : PQ) (w : World) : Prop :=
 kint .i64 .lss x10 (.int .i64 4) fun v58 =>
 kB v58 fun b73 => kIf b73
 (f70_8 x1 x3 x4 x5 x6 x9 x10 J18 J5 Q w)
 (f70_10 x1 x3 x4 x6 x9 J5 Q w)
def f70_6 (x1 x3 x4 x5 x6 : Value) (J5 : Value → Value → World → Prop) (Q : PQ) (w : World) : Prop :=
 kfld 1 x5 fun v56 =>
 kld v56 w fun v57 =>
 kL fun (I : Value → Value → World → Prop) (μ : Value → Value → World → Nat) => I (.bool true) v57 w ∧ ∀ (x9 x10 : Value) (w1 : World), I x9 x10 w1 →
 f70_7 x9 x10 x1 x3 x4 x5 x6 (fun y9 y10 w2 => I y9 y10 w2 ∧ μ y9 y10 w2 < μ x9 x10 w1) J5 Q w1
def f70_4 (x1 x3 x4 x5 x6 x79 : Value) (J5 : Value → Value → World → Prop) (Q : PQ) (w : World) : Prop :=
 kB x79 fun b74 => kIf b74
 (kstr .add x6 (.string ⟨#[119, 105, 100, 116, 104]⟩) fun v49 =>
 kbld [(.string ⟨#[]⟩), .int .i64 0] [(0, 1, v49), (1, 1, (.int .i64 1))] fun v50 =>
 kbldS [(.string ⟨#[]⟩), .int .i64 0] 1 [(0, 2, v50)] 252 w fun v51 w52 =>
 ksem Tryz.prog (Builtin.append_ #[164, 164] 0 #[x3, v51]) w52 fun v53 w54 =>
 f70_5 x1 v53 x4 J5 Q w54)
 (f70_6 x1 x3 x4 x5 x6 J5 Q w)
def f70_3 (x1 x3 x4 x5 x6 : Value) (J5 : Value → Value → World → Prop) (Q : PQ) (w : World) : Prop :=
 kfld 1 x5 fun v42 =>
 kld v42 w fun v43 =>
 kint .i64 .lss v43 (.int .i64 1) fun v44 =>
 kB v44 fun b45 => kIf (!b45)
 (kfld 1 x5 fun v46 =>
 kld v46 w fun v47 =>
 kint .i64 .gtr v47 (.int .i64 4) fun v48 =>
 f70_4 x1 x3 x4 x5 x6 v48 J5 Q w)
 (f70_4 x1 x3 x4 x5 x6 (.bool true) J5 Q w)
def f70_11 (x1 x3 x4 x5 x6 x65 : Value) (J5 : Value → Value → World → Prop) (Q : PQ) (w : World) : Prop :=
 kB x65 fun b90 => kIf b90
 (kstr .add x6 (.string ⟨#[110, 97, 109, 101]⟩) fun v84 =>
 kbld [(.string ⟨#[]⟩), .int .i64 0] [(0, 1, v84), (1, 1, (.int .i64 9))] fun v85 =>
 kbldS [(.string ⟨#[]⟩), .int .i64 0] 1 [(0, 2, v85)] 252 w fun v86 w87 =>
 ksem Tryz.prog (Builtin.append_ #[164, 164] 0 #[x3, v86]) w87 fun v88 w89 =>
 f70_3 x1 v88 x4 x5 x6 J5 Q w89)
 (f70_3 x1 x3 x4 x5 x6 J5 Q w)
def f70_2 (x1 x3 x4 : Value) (J5 : Value → Value → World → Prop) (Q : PQ) (w : World) : Prop :=
 kfld 0 x1 fun v20 =>
 kld v20 w fun v21 =>
 kix (some (.slice 80)) (some 7) v21 x4 fun v22 =>
 kldN 7 v22 w fun v23 =>
 knew #[(.string ⟨#[]⟩), .int .i64 0, .bool false, .int .i64 0, .int .i64 0, .int .i64 0, .int .i64 0] 80 w fun v24 w25 =>
 kst 7 v24 v23 w25 fun w26 =>
 kcall Tryz.prog 121 #[x4] w26 fun v27 w28 =>
 kstr .add (.string ⟨#[99, 111, 109, 112, 111, 110, 101, 110, 116, 115, 47]⟩) v27 fun v29 =>
 kstr .add v29 (.string ⟨#[47]⟩) fun v30 =>
 kfld 0 v24 fun v31 =>
 kld v31 w28 fun v32 =>
 kcall Tryz.prog 122 #[v32] w28 fun v33 w34 =>
 kun .not (some .bool) v33 fun v35 =>
 kB v35 fun b91 => kIf b91
 (kstr .add v30 (.string ⟨#[110, 97, 109, 101]⟩) fun v36 =>
 kbld [(.string ⟨#[]⟩), .int .i64 0] [(0, 1, v36), (1, 1, (.int .i64 10))] fun v37 =>
 kbldS [(.string ⟨#[]⟩), .int .i64 0] 1 [(0, 2, v37)] 252 w34 fun v38 w39 =>
 ksem Tryz.prog (Builtin.append_ #[164, 164] 0 #[x3, v38]) w39 fun v40 w41 =>
 f70_3 x1 v40 x4 v24 v30 J5 Q w41)
 (kldN 2 x1 w34 fun v75 =>
 kfld 0 v24 fun v76 =>
 kld v76 w34 fun v77 =>
 kcall Tryz.prog 123 #[v75, v77] w34 fun v78 w79 =>
 kext v78 0 fun v80 =>
 kext v78 1 fun v81 =>
 kB v81 fun b82 => kIf b82
 (kint .i64 .lss v80 x4 fun v83 =>
 f70_11 x1 x3 x4 v24 v30 v83 J5 Q w79)
 (f70_11 x1 x3 x4 v24 v30 (.bool false) J5 Q w79))
def f70_16 (x1 x3 x11 : Value) (J26 : Value → Value → World → Prop) (Q : PQ) (w : World) : Prop :=
 kint .i64 .add x11 (.int .i64 1) fun v134 =>
 J26 x3 v134 w
def f70_17 (x1 x3 x11 x13 x161 : Value) (J26 : Value → Value → World → Prop) (Q : PQ) (w : World) : Prop :=
 kB x161 fun b143 => kIf b143
 (kbld [(.string ⟨#[]⟩), .int .i64 0] [(0, 1, x13), (1, 1, (.int .i64 9))] fun v138 =>
 kbldS [(.string ⟨#[]⟩), .int .i64 0] 1 [(0, 2, v138)] 252 w fun v139 w140 =>
 ksem Tryz.prog (Builtin.append_ #[164, 164] 0 #[x3, v139]) w140 fun v141 w142 =>
 f70_16 x1 v141 x11 J26 Q w142)
 (f70_16 x1 x3 x11 J26 Q w)
def f70_15 (x1 x3 x11 : Value) (J26 : Value → Value → World → Prop) (Q : PQ) (w : World) : Prop :=
 kfld 1 x1 fun v107 =>
 kld v107 w fun v108 =>
 kix (some (.slice 82)) (some 2) v108 x11 fun v109 =>
 kfld 0 v109 fun v110 =>
 kld v110 w fun v111 =>
 kcall Tryz.prog 121 #[x11] w fun v112 w113 =>
 kstr .add (.string ⟨#[114, 101, 115, 111, 117, 114, 99, 101, 115, 47]⟩) v112 fun v114 =>
 kstr .add v114 (.string ⟨#[47, 110, 97, 109, 101]⟩) fun v115 =>
 kldN 2 x1 w113 fun v116 =>
 kcall Tryz.prog 123 #[v116, v111] w113 fun v117 w118 =>
 kext v117 0 fun v119 =>
 kext v117 1 fun v120 =>
 kldN 2 x1 w118 fun v121 =>
 kcall Tryz.prog 124 #[v121, v111] w118 fun v122 w123 =>
 kext v122 0 fun v124 =>
 kext v122 1 fun v125 =>
 kcall Tryz.prog 122 #[v111] w123 fun v126 w127 =>
 kun .not (some .bool) v126 fun v128 =>
 kB v128 fun b144 => kIf b144
 (kbld [(.string ⟨#[]⟩), .int .i64 0] [(0, 1, v115), (1, 1, (.int .i64 10))] fun v129 =>
 kbldS [(.string ⟨#[]⟩), .int .i64 0] 1 [(0, 2, v129)] 252 w127 fun v130 w131 =>
 ksem Tryz.prog (Builtin.append_ #[164, 164] 0 #[x3, v130]) w131 fun v132 w133 =>
 f70_16 x1 v132 x11 J26 Q w133)
 (kB v120 fun b135 => kIf (!b135)
 (kB v125 fun b136 => kIf b136
 (kint .i64 .lss v124 x11 fun v137 =>
 f70_17 x1 x3 x11 v115 v137 J26 Q w127)
 (f70_17 x1 x3 x11 v115 (.bool false) J26 Q w127))
 (f70_17 x1 x3 x11 v115 (.bool true) J26 Q w127))
def f70_18 (x3 : Value) (Q : PQ) (w : World) : Prop :=
 Q x3 w
def f70_14 (x3 x11 x1 : Value) (J26 : Value → Value → World → Prop) (Q : PQ) (w : World) : Prop :=
 kfld 1 x1 fun v102 =>
 kld v102 w fun v103 =>
 klen v103 fun v104 =>
 kint .i64 .lss x11 v104 fun v106 =>
 kB v106 fun b145 => kIf b145
 (f70_15 x1 x3 x11 J26 Q w)
 (f70_18 x3 Q w)
def f70_13 (x1 x3 : Value) (Q : PQ) (w : World) : Prop :=
 kL fun (I : Value → Value → World → Prop) (μ : Value → Value → World → Nat) => I x3 (.int .i64 0) w ∧ ∀ (x3 x11 : Value) (w1 : World), I x3 x11 w1 →
 f70_14 x3 x11 x1 (fun y3 y11 w2 => I y3 y11 w2 ∧ μ y3 y11 w2 < μ x3 x11 w1) Q w1
def f70_12 (x1 x3 : Value) (Q : PQ) (w : World) : Prop :=
 kfld 1 x1 fun v92 =>
 kld v92 w fun v93 =>
 klen v93 fun v94 =>
 kint .i64 .gtr v94 (.int .i64 8) fun v96 =>
 kB v96 fun b146 => kIf b146
 (kbld [(.string ⟨#[]⟩), .int .i64 0] [(0, 1, (.string ⟨#[114, 101, 115, 111, 117, 114, 99, 101, 115]⟩)), (1, 1, (.int .i64 4))] fun v97 =>
 kbldS [(.string ⟨#[]⟩), .int .i64 0] 1 [(0, 2, v97)] 252 w fun v98 w99 =>
 ksem Tryz.prog (Builtin.append_ #[164, 164] 0 #[x3, v98]) w99 fun v100 w101 =>
 f70_13 x1 v100 Q w101)
 (f70_13 x1 x3 Q w)
def f70_1 (x3 x4 x1 : Value) (J5 : Value → Value → World → Prop) (Q : PQ) (w : World) : Prop :=
 kfld 0 x1 fun v15 =>
 kld v15 w fun v16 =>
 klen v16 fun v17 =>
 kint .i64 .lss x4 v17 fun v19 =>
 kB v19 fun b147 => kIf b147
 (f70_2 x1 x3 x4 J5 Q w)
 (f70_12 x1 x3 Q w)
def f70_0 (x1 x3 : Value) (Q : PQ) (w : World) : Prop :=
 kL fun (I : Value → Value → World → Prop) (μ : Value → Value → World → Nat) => I x3 (.int .i64 0) w ∧ ∀ (x3 x4 : Value) (w1 : World), I x3 x4 w1 →
 f70_1 x3 x4 x1 (fun y3 y4 w2 => I y3 y4 w2 ∧ μ y3 y4 w2 < μ x3 x4 w1) Q w1
def f70 (x0 : Value) (Q : PQ) (w : World) : Prop :=
 knew (Value.cells x0) 25 w fun v1 w2 =>
 kbldS [(.string ⟨#[]⟩), .int .i64 0] 0 [] 252 w2 fun v3 w4 =>
 kfld 0 v1 fun v5 =>
 kld v5 w4 fun v6 =>
 klen v6 fun v7 =>
 kint .i64 .gtr v7 (.int .i64 16) fun v9 =>
 kB v9 fun b148 => kIf b148
 (kbld [(.string ⟨#[]⟩), .int .i64 0] [(0, 1, (.string ⟨#[99, 111, 109, 112, 111, 110, 101, 110, 116, 115]⟩)), (1, 1, (.int .i64 4))] fun v10 =>
 kbldS [(.string ⟨#[]⟩), .int .i64 0] 1 [(0, 2, v10)] 252 w4 fun v11 w12 =>
 ksem Tryz.prog (Builtin.append_ #[164, 164] 0 #[v3, v11]) w12 fun v13 w14 =>
 f70_0 v1 v13 Q w14)
 (f70_0 v1 v3 Q w4)
theorem f70_ok {x0 : Value} {Q : PQ} {w : World} (h : f70 x0 Q w) : Meets Tryz.prog 70 #[x0] w Q :=
 sound' (c := Tryz.f70.body.get rfl) [(5, [3, 4]), (18, [9, 10]), (26, [3, 11])] Tryz.func70 rfl rfl (args := [x0]) rfl (by kernel_rfl) h
def f121_0 (x0 : Value) (Q : PQ) (w : World) : Prop :=
 kint .i64 .quo x0 (.int .i64 10) fun v4 =>
 kcall Tryz.prog 121 #[v4] w.drew fun v5 w6 =>
 kint .i64 .rem x0 (.int .i64 10) fun v7 =>
 kint .i64 .rem x0 (.int .i64 10) fun v8 =>
 kint .i64 .add v8 (.int .i64 1) fun v9 =>
 ksl (some .string) none (.string ⟨#[48, 49, 50, 51, 52, 53, 54, 55, 56, 57]⟩) (some v7) (some v9) fun v10 =>
 kstr .add v5 v10 fun v11 =>
 Q v11 w6
def f121 (x0 : Value) (Q : PQ) (w : World) : Prop :=
 kint .i64 .lss x0 (.int .i64 10) fun v1 =>
 kB v1 fun b12 => kIf b12
 (kint .i64 .add x0 (.int .i64 1) fun v2 =>
 ksl (some .string) none (.string ⟨#[48, 49, 50, 51, 52, 53, 54, 55, 56, 57]⟩) (some x0) (some v2) fun v3 =>
 Q v3 w)
 (f121_0 x0 Q w)
theorem f121_ok {x0 : Value} {Q : PQ} {w : World} (h : f121 x0 Q w) : Meets Tryz.prog 121 #[x0] w Q :=
 sound' (c := Tryz.f121.body.get rfl) [] Tryz.func121 rfl rfl (args := [x0]) rfl (by kernel_rfl) h
def f123_2 (x1 x2 x6 : Value) (J2 : Value → World → Prop) (Q : PQ) (w : World) : Prop :=
 kint .i64 .add x6 (.int .i64 1) fun v14 =>
 J2 v14 w
def f123_1 (x1 x2 x6 : Value) (J2 : Value → World → Prop) (Q : PQ) (w : World) : Prop :=
 kfld 0 x2 fun v8 =>
 kld v8 w fun v9 =>
 kix (some (.slice 80)) (some 7) v9 x6 fun v10 =>
 kfld 0 v10 fun v11 =>
 kld v11 w fun v12 =>
 kstr .eql v12 x1 fun v13 =>
 kB v13 fun b15 => kIf b15
 (Q (.tuple #[x6, .bool true]) w)
 (f123_2 x1 x2 x6 J2 Q w)
def f123_3 (Q : PQ) (w : World) : Prop :=
 Q (.tuple #[.int .i64 0, .bool false]) w
def f123_0 (x6 x1 x2 : Value) (J2 : Value → World → Prop) (Q : PQ) (w : World) : Prop :=
 kfld 0 x2 fun v3 =>
 kld v3 w fun v4 =>
 klen v4 fun v5 =>
 kint .i64 .lss x6 v5 fun v7 =>
 kB v7 fun b16 => kIf b16
 (f123_1 x1 x2 x6 J2 Q w)
 (f123_3 Q w)
def f123 (x0 x1 : Value) (Q : PQ) (w : World) : Prop :=
 knew (Value.cells x0) 25 w fun v1 w2 =>
 kL fun (I : Value → World → Prop) (μ : Value → World → Nat) => I (.int .i64 0) w2 ∧ ∀ (x6 : Value) (w1 : World), I x6 w1 →
 f123_0 x6 x1 v1 (fun y6 w2 => I y6 w2 ∧ μ y6 w2 < μ x6 w1) Q w1
theorem f123_ok {x0 x1 : Value} {Q : PQ} {w : World} (h : f123 x0 x1 Q w) : Meets Tryz.prog 123 #[x0, x1] w Q :=
 sound' (c := Tryz.f123.body.get rfl) [(2, [6])] Tryz.func123 rfl rfl (args := [x0, x1]) rfl (by kernel_rfl) h
def f122_5 (x0 x3 : Value) (J4 : Value → World → Prop) (Q : PQ) (w : World) : Prop :=
 kint .i64 .add x3 (.int .i64 1) fun v16 =>
 J4 v16 w
def f122_4 (x0 x3 x27 : Value) (J4 : Value → World → Prop) (Q : PQ) (w : World) : Prop :=
 kB x27 fun b17 => kIf b17
 (Q (.bool false) w)
 (f122_5 x0 x3 J4 Q w)
def f122_3 (x0 x3 : Value) (J4 : Value → World → Prop) (Q : PQ) (w : World) : Prop :=
 kiv Tryz.prog (some .string) x0 x3 fun v11 =>
 kint .u8 .lss v11 (.int .u8 97) fun v12 =>
 kB v12 fun b13 => kIf (!b13)
 (kiv Tryz.prog (some .string) x0 x3 fun v14 =>
 kint .u8 .gtr v14 (.int .u8 122) fun v15 =>
 f122_4 x0 x3 v15 J4 Q w)
 (f122_4 x0 x3 (.bool true) J4 Q w)
def f122_6 (Q : PQ) (w : World) : Prop :=
 Q (.bool true) w
def f122_2 (x3 x0 : Value) (J4 : Value → World → Prop) (Q : PQ) (w : World) : Prop :=
 klenStr x0 fun v8 =>
 kint .i64 .lss x3 v8 fun v10 =>
 kB v10 fun b18 => kIf b18
 (f122_3 x0 x3 J4 Q w)
 (f122_6 Q w)
def f122_1 (x0 : Value) (Q : PQ) (w : World) : Prop :=
 kL fun (I : Value → World → Prop) (μ : Value → World → Nat) => I (.int .i64 0) w ∧ ∀ (x3 : Value) (w1 : World), I x3 w1 →
 f122_2 x3 x0 (fun y3 w2 => I y3 w2 ∧ μ y3 w2 < μ x3 w1) Q w1
def f122_0 (x0 x11 : Value) (Q : PQ) (w : World) : Prop :=
 kB x11 fun b19 => kIf b19
 (Q (.bool false) w)
 (f122_1 x0 Q w)
def f122 (x0 : Value) (Q : PQ) (w : World) : Prop :=
 klenStr x0 fun v1 =>
 kint .i64 .lss v1 (.int .i64 1) fun v3 =>
 kB v3 fun b4 => kIf (!b4)
 (klenStr x0 fun v5 =>
 kint .i64 .gtr v5 (.int .i64 8) fun v7 =>
 f122_0 x0 v7 Q w)
 (f122_0 x0 (.bool true) Q w)
theorem f122_ok {x0 : Value} {Q : PQ} {w : World} (h : f122 x0 Q w) : Meets Tryz.prog 122 #[x0] w Q :=
 sound' (c := Tryz.f122.body.get rfl) [(4, [3])] Tryz.func122 rfl rfl (args := [x0]) rfl (by kernel_rfl) h
def f124_2 (x1 x2 x6 : Value) (J2 : Value → World → Prop) (Q : PQ) (w : World) : Prop :=
 kint .i64 .add x6 (.int .i64 1) fun v14 =>
 J2 v14 w
def f124_1 (x1 x2 x6 : Value) (J2 : Value → World → Prop) (Q : PQ) (w : World) : Prop :=
 kfld 1 x2 fun v8 =>
 kld v8 w fun v9 =>
 kix (some (.slice 82)) (some 2) v9 x6 fun v10 =>
 kfld 0 v10 fun v11 =>
 kld v11 w fun v12 =>
 kstr .eql v12 x1 fun v13 =>
 kB v13 fun b15 => kIf b15
 (Q (.tuple #[x6, .bool true]) w)
 (f124_2 x1 x2 x6 J2 Q w)
def f124_3 (Q : PQ) (w : World) : Prop :=
 Q (.tuple #[.int .i64 0, .bool false]) w
def f124_0 (x6 x1 x2 : Value) (J2 : Value → World → Prop) (Q : PQ) (w : World) : Prop :=
 kfld 1 x2 fun v3 =>
 kld v3 w fun v4 =>
 klen v4 fun v5 =>
 kint .i64 .lss x6 v5 fun v7 =>
 kB v7 fun b16 => kIf b16
 (f124_1 x1 x2 x6 J2 Q w)
 (f124_3 Q w)
def f124 (x0 x1 : Value) (Q : PQ) (w : World) : Prop :=
 knew (Value.cells x0) 25 w fun v1 w2 =>
 kL fun (I : Value → World → Prop) (μ : Value → World → Nat) => I (.int .i64 0) w2 ∧ ∀ (x6 : Value) (w1 : World), I x6 w1 →
 f124_0 x6 x1 v1 (fun y6 w2 => I y6 w2 ∧ μ y6 w2 < μ x6 w1) Q w1
theorem f124_ok {x0 x1 : Value} {Q : PQ} {w : World} (h : f124 x0 x1 Q w) : Meets Tryz.prog 124 #[x0, x1] w Q :=
 sound' (c := Tryz.f124.body.get rfl) [(2, [6])] Tryz.func124 rfl rfl (args := [x0, x1]) rfl (by kernel_rfl) h
def f35_1 (x1 x2 : Value) (Q : PQ) (w : World) : Prop :=
 kldN 2 x2 w fun v13 =>
 kbld [.slice none 0 0, .slice none 0 0, .int .i64 0, .slice none 0 0, .int .i64 0, .int .i64 0] [(0, 2, v13), (2, 1, x1)] fun v14 =>
 knew (Value.cells v14) 171 w fun v15 w16 =>
 Q v15 w16
def f35_0 (x1 x2 x16 : Value) (Q : PQ) (w : World) : Prop :=
 kB x16 fun b17 => kIf b17
 (Q (.pointer none) w)
 (f35_1 x1 x2 Q w)
def f35 (x0 x1 : Value) (Q : PQ) (w : World) : Prop :=
 knew (Value.cells x0) 25 w fun v1 w2 =>
 kldN 2 v1 w2 fun v3 =>
 kcall Tryz.prog 70 #[v3] w2 fun v4 w5 =>
 klen v4 fun v6 =>
 kint .i64 .gtr v6 (.int .i64 0) fun v8 =>
 kB v8 fun b9 => kIf (!b9)
 (kint .i64 .lss x1 (.int .i64 0) fun v10 =>
 kB v10 fun b11 => kIf (!b11)
 (kint .i64 .gtr x1 (.int .i64 64) fun v12 =>
 f35_0 x1 v1 v12 Q w5)
 (f35_0 x1 v1 (.bool true) Q w5))
 (f35_0 x1 v1 (.bool true) Q w5)
theorem f35_ok {x0 x1 : Value} {Q : PQ} {w : World} (h : f35 x0 x1 Q w) : Meets Tryz.prog 35 #[x0, x1] w Q :=
 sound' (c := Tryz.f35.body.get rfl) [] Tryz.func35 rfl rfl (args := [x0, x1]) rfl (by kernel_rfl) h
end
end Go.Proofs.YtenokhokboicnaaGreatDoor
