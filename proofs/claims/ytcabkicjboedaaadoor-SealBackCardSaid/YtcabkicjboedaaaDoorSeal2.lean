/-
Lemmas for the statements of this seat: no statement of the seat is proved in this part (2 of 4); the conditions stand in each theorem.
-/
import Derived.Test.YtcabkicjboedaaaDoorSeal1
import Derived.Test.YtcabkicjboedaaaDoorChecked
import Derived.ChangeArms
import Derived.OpenShut
import Derived.Stop.LaidErr
import Derived.MakeChecks
section
namespace Go.Proofs.YtcabkicjboedaaaDoor
open Go Go.Ev
set_option linter.unusedVariables false
set_option maxRecDepth 100000

/-! errors.Is -/
def f17_1 (x0 : Value) (x1 : Value) (Q : Value → World → Prop) (w : World) : Prop :=
  kextf Tryd.prog 44 [x1] w fun v8 w9 =>
  kcallM Tryd.prog v8 "Comparable" [] w9 fun v10 w11 =>
  kcall Tryd.prog 45 #[x0, x1, v10] w11 fun v12 w13 =>
  Q v12 w13

def f17_0 (x0 : Value) (x1 : Value) (x11 : Value) (Q : Value → World → Prop) (w : World) : Prop :=
  kB x11 fun b14 => kIf b14
  (keq Tryd.prog .eql 36 false false x0 x1 w fun v6 w7 =>
  Q v6 w7)
  (f17_1 x0 x1 Q w)

def f17 (x0 : Value) (x1 : Value) (Q : Value → World → Prop) (w : World) : Prop :=
  keq Tryd.prog .eql 36 false true x0 .nilIface w fun v1 w2 =>
  kB v1 fun b3 => kIf (!b3)
  (keq Tryd.prog .eql 36 false true x1 .nilIface w2 fun v4 w5 =>
  f17_0 x0 x1 v4 Q w5)
  (f17_0 x0 x1 (.bool true) Q w2)

theorem f17_eq (x0 : Value) (x1 : Value) (Q : Value → World → Prop) (w : World) : f17 x0 x1 Q w = fnVC Tryd.prog Tryd.f17 [] (Tryd.f17.body.get rfl) [x0, x1] w Q := by kernel_rfl
theorem f17_ok {x0 : Value} {x1 : Value} {Q : Value → World → Prop} {w : World} (h : f17 x0 x1 Q w) : Meets Tryd.prog 17 #[x0, x1] w Q :=
  sound (c := (Tryd.f17.body.get rfl)) [] Tryd.func17 rfl rfl (args := [x0, x1]) rfl (Eq.mp (f17_eq x0 x1 Q w) h)

/-! errors.is -/
def f45_7 (x1 : Value) (x2 : Value) (x43 : Value) (x44 : Value) (x45 : Value) (J17 : Value → World → Prop) (J1 : Value → World → Prop) (Q : Value → World → Prop) (w : World) : Prop :=
  kint .i64 .add x45 (.int .i64 1) fun v33 =>
  J17 v33 w

def f45_6 (x1 : Value) (x2 : Value) (x43 : Value) (x44 : Value) (x45 : Value) (J17 : Value → World → Prop) (J1 : Value → World → Prop) (Q : Value → World → Prop) (w : World) : Prop :=
  kix (some (.slice 36)) (some 1) x43 x45 fun v29 =>
  kld v29 w fun v30 =>
  kcall Tryd.prog 45 #[v30, x1, x2] w fun v31 w32 =>
  kB v31 fun b34 => kIf b34
  (Q (.bool true) w32)
  (f45_7 x1 x2 x43 x44 x45 J17 J1 Q w32)

def f45_8 (J1 : Value → World → Prop) (Q : Value → World → Prop) (w : World) : Prop :=
  Q (.bool false) w

def f45_5 (x45 : Value) (x1 : Value) (x2 : Value) (x43 : Value) (x44 : Value) (J17 : Value → World → Prop) (J1 : Value → World → Prop) (Q : Value → World → Prop) (w : World) : Prop :=
  kint .i64 .lss x45 x44 fun v28 =>
  kB v28 fun b35 => kIf b35
  (f45_6 x1 x2 x43 x44 x45 J17 J1 Q w)
  (f45_8 J1 Q w)

def f45_4 (x0 : Value) (x1 : Value) (x2 : Value) (J1 : Value → World → Prop) (Q : Value → World → Prop) (w : World) : Prop :=
  ksem Tryd.prog (Instr.typeAssert x0 36 148 true) w fun v11 w12 =>
  kext v11 1 fun v13 =>
  kext v11 0 fun v14 =>
  kB v13 fun b37 => kIf b37
  (kcallM Tryd.prog v14 "Unwrap" [] w12 fun v15 w16 =>
  keq Tryd.prog .eql 36 false true v15 .nilIface w16 fun v17 w18 =>
  kB v17 fun b19 => kIf b19
  (Q (.bool false) w18)
  (J1 v15 w18))
  (ksem Tryd.prog (Instr.typeAssert x0 36 149 true) w12 fun v20 w21 =>
  kext v20 1 fun v22 =>
  kext v20 0 fun v23 =>
  kB v22 fun b36 => kIf b36
  (kcallM Tryd.prog v23 "Unwrap" [] w21 fun v24 w25 =>
  klen v24 fun v26 =>
  kL fun (I : Value → World → Prop) (μ : Value → World → Nat) => I (.int .i64 0) w25 ∧ ∀ (x45 : Value) (w1 : World), I x45 w1 →
  f45_5 x45 x1 x2 v24 v26 (fun y45 w2 => I y45 w2 ∧ μ y45 w2 < μ x45 w1) J1 Q w1)
  (Q (.bool false) w21))

def f45_3 (x0 : Value) (x1 : Value) (x2 : Value) (x30 : Value) (J1 : Value → World → Prop) (Q : Value → World → Prop) (w : World) : Prop :=
  kB x30 fun b38 => kIf b38
  (Q (.bool true) w)
  (f45_4 x0 x1 x2 J1 Q w)

def f45_2 (x0 : Value) (x1 : Value) (x2 : Value) (J1 : Value → World → Prop) (Q : Value → World → Prop) (w : World) : Prop :=
  ksem Tryd.prog (Instr.typeAssert x0 36 145 true) w fun v4 w5 =>
  kext v4 0 fun v6 =>
  kext v4 1 fun v7 =>
  kB v7 fun b8 => kIf b8
  (kcallM Tryd.prog v6 "Is" [x1] w5 fun v9 w10 =>
  f45_3 x0 x1 x2 v9 J1 Q w10)
  (f45_3 x0 x1 x2 (.bool false) J1 Q w5)

def f45_1 (x0 : Value) (x1 : Value) (x2 : Value) (x19 : Value) (J1 : Value → World → Prop) (Q : Value → World → Prop) (w : World) : Prop :=
  kB x19 fun b39 => kIf b39
  (Q (.bool true) w)
  (f45_2 x0 x1 x2 J1 Q w)

def f45_0 (x0 : Value) (x1 : Value) (x2 : Value) (J1 : Value → World → Prop) (Q : Value → World → Prop) (w : World) : Prop :=
  kB x2 fun b1 => kIf b1
  (keq Tryd.prog .eql 36 false false x0 x1 w fun v2 w3 =>
  f45_1 x0 x1 x2 v2 J1 Q w3)
  (f45_1 x0 x1 x2 (.bool false) J1 Q w)

def f45 (x0 : Value) (x1 : Value) (x2 : Value) (Q : Value → World → Prop) (w : World) : Prop :=
  kL fun (I : Value → World → Prop) (μ : Value → World → Nat) => I x0 w ∧ ∀ (x0 : Value) (w1 : World), I x0 w1 →
  f45_0 x0 x1 x2 (fun y0 w2 => I y0 w2 ∧ μ y0 w2 < μ x0 w1) Q w1

theorem f45_eq (x0 : Value) (x1 : Value) (x2 : Value) (Q : Value → World → Prop) (w : World) : f45 x0 x1 x2 Q w = fnVC Tryd.prog Tryd.f45 [(1, [0]), (17, [45])] (Tryd.f45.body.get rfl) [x0, x1, x2] w Q := by kernel_rfl
theorem f45_ok {x0 : Value} {x1 : Value} {x2 : Value} {Q : Value → World → Prop} {w : World} (h : f45 x0 x1 x2 Q w) : Meets Tryd.prog 45 #[x0, x1, x2] w Q :=
  sound (c := (Tryd.f45.body.get rfl)) [(1, [0]), (17, [45])] Tryd.func45 rfl rfl (args := [x0, x1, x2]) rfl (Eq.mp (f45_eq x0 x1 x2 Q w) h)

/-! pasodoble/blame.Has -/
def f93 (x0 : Value) (x1 : Value) (Q : Value → World → Prop) (w : World) : Prop :=
  kcall Tryd.prog 105 #[x1] w fun v1 w2 =>
  keq Tryd.prog .neq 36 false true v1 .nilIface w2 fun v3 w4 =>
  kB v3 fun b5 => kIf b5
  (kcall Tryd.prog 17 #[x0, v1] w4 fun v6 w7 =>
  Q v6 w7)
  (Q (.bool false) w4)

theorem f93_eq (x0 : Value) (x1 : Value) (Q : Value → World → Prop) (w : World) : f93 x0 x1 Q w = fnVC Tryd.prog Tryd.f93 [] (Tryd.f93.body.get rfl) [x0, x1] w Q := by kernel_rfl
theorem f93_ok {x0 : Value} {x1 : Value} {Q : Value → World → Prop} {w : World} (h : f93 x0 x1 Q w) : Meets Tryd.prog 93 #[x0, x1] w Q :=
  sound (c := (Tryd.f93.body.get rfl)) [] Tryd.func93 rfl rfl (args := [x0, x1]) rfl (Eq.mp (f93_eq x0 x1 Q w) h)

/-! pasodoble/blame.Number -/
def f68_3 (x0 : Value) (x6 : Value) (J4 : Value → World → Prop) (Q : Value → World → Prop) (w : World) : Prop :=
  kint .i64 .add x6 (.int .i64 1) fun v8 =>
  J4 v8 w

def f68_2 (x0 : Value) (x6 : Value) (J4 : Value → World → Prop) (Q : Value → World → Prop) (w : World) : Prop :=
  kint .i64 .add x6 (.int .i64 1) fun v4 =>
  kcall Tryd.prog 93 #[x0, v4] w fun v5 w6 =>
  kB v5 fun b9 => kIf b9
  (kint .i64 .add x6 (.int .i64 1) fun v7 =>
  Q v7 w6)
  (f68_3 x0 x6 J4 Q w6)

def f68_4 (Q : Value → World → Prop) (w : World) : Prop :=
  Q (.int .i64 (-1)) w

def f68_1 (x6 : Value) (x0 : Value) (J4 : Value → World → Prop) (Q : Value → World → Prop) (w : World) : Prop :=
  kint .i64 .lss x6 (.int .i64 18) fun v3 =>
  kB v3 fun b10 => kIf b10
  (f68_2 x0 x6 J4 Q w)
  (f68_4 Q w)

def f68_0 (x0 : Value) (Q : Value → World → Prop) (w : World) : Prop :=
  kL fun (I : Value → World → Prop) (μ : Value → World → Nat) => I (.int .i64 0) w ∧ ∀ (x6 : Value) (w1 : World), I x6 w1 →
  f68_1 x6 x0 (fun y6 w2 => I y6 w2 ∧ μ y6 w2 < μ x6 w1) Q w1

def f68 (x0 : Value) (Q : Value → World → Prop) (w : World) : Prop :=
  keq Tryd.prog .eql 36 false true x0 .nilIface w fun v1 w2 =>
  kB v1 fun b11 => kIf b11
  (Q (.int .i64 0) w2)
  (f68_0 x0 Q w2)

theorem f68_eq (x0 : Value) (Q : Value → World → Prop) (w : World) : f68 x0 Q w = fnVC Tryd.prog Tryd.f68 [(4, [6])] (Tryd.f68.body.get rfl) [x0] w Q := by kernel_rfl
theorem f68_ok {x0 : Value} {Q : Value → World → Prop} {w : World} (h : f68 x0 Q w) : Meets Tryd.prog 68 #[x0] w Q :=
  sound (c := (Tryd.f68.body.get rfl)) [(4, [6])] Tryd.func68 rfl rfl (args := [x0]) rfl (Eq.mp (f68_eq x0 Q w) h)

/-! pasodoble/blame.At -/
def f71_0 (x0 : Value) (x1 : Value) (Q : Value → World → Prop) (w : World) : Prop :=
  kbld [(.string ⟨#[]⟩), .nilIface] [(0, 1, x0), (1, 1, x1)] fun v3 =>
  knew (Value.cells v3) 123 w fun v4 w5 =>
  Q (.iface 120 v4) w5

def f71 (x0 : Value) (x1 : Value) (Q : Value → World → Prop) (w : World) : Prop :=
  keq Tryd.prog .eql 36 false true x1 .nilIface w fun v1 w2 =>
  kB v1 fun b6 => kIf b6
  (Q .nilIface w2)
  (f71_0 x0 x1 Q w2)

theorem f71_eq (x0 : Value) (x1 : Value) (Q : Value → World → Prop) (w : World) : f71 x0 x1 Q w = fnVC Tryd.prog Tryd.f71 [] (Tryd.f71.body.get rfl) [x0, x1] w Q := by kernel_rfl
theorem f71_ok {x0 : Value} {x1 : Value} {Q : Value → World → Prop} {w : World} (h : f71 x0 x1 Q w) : Meets Tryd.prog 71 #[x0, x1] w Q :=
  sound (c := (Tryd.f71.body.get rfl)) [] Tryd.func71 rfl rfl (args := [x0, x1]) rfl (Eq.mp (f71_eq x0 x1 Q w) h)

/-! pasodoble/blame.All -/
def f30_0 (x3 : Value) (Q : Value → World → Prop) (w : World) : Prop :=
  kbld [(.slice none 0 0)] [(0, 1, x3)] fun v9 =>
  knew (Value.cells v9) 132 w fun v10 w11 =>
  Q (.iface 124 v10) w11

def f30 (x0 : Value) (Q : Value → World → Prop) (w : World) : Prop :=
  kcall Tryd.prog 70 #[x0] w fun v1 w2 =>
  klen v1 fun v3 =>
  kint .i64 .eql v3 (.int .i64 0) fun v5 =>
  kB v5 fun b13 => kIf b13
  (Q .nilIface w2)
  (kint .i64 .eql v3 (.int .i64 1) fun v6 =>
  kB v6 fun b12 => kIf b12
  (kix (some (.slice 36)) (some 1) v1 (.int .i64 0) fun v7 =>
  kld v7 w2 fun v8 =>
  Q v8 w2)
  (f30_0 v1 Q w2))

theorem f30_eq (x0 : Value) (Q : Value → World → Prop) (w : World) : f30 x0 Q w = fnVC Tryd.prog Tryd.f30 [] (Tryd.f30.body.get rfl) [x0] w Q := by kernel_rfl
theorem f30_ok {x0 : Value} {Q : Value → World → Prop} {w : World} (h : f30 x0 Q w) : Meets Tryd.prog 30 #[x0] w Q :=
  sound (c := (Tryd.f30.body.get rfl)) [] Tryd.func30 rfl rfl (args := [x0]) rfl (Eq.mp (f30_eq x0 Q w) h)

/-! pasodoble/blame.flat -/
def f70_2 (x2 : Value) (x8 : Value) (x9 : Value) (x10 : Value) (J2 : Value → Value → World → Prop) (Q : Value → World → Prop) (w : World) : Prop :=
  kint .i64 .add x10 (.int .i64 1) fun v8 =>
  J2 x2 v8 w

def f70_1 (x2 : Value) (x8 : Value) (x9 : Value) (x10 : Value) (J2 : Value → Value → World → Prop) (Q : Value → World → Prop) (w : World) : Prop :=
  kix (some (.slice 36)) (some 1) x8 x10 fun v4 =>
  kld v4 w fun v5 =>
  keq Tryd.prog .eql 36 false true v5 .nilIface w fun v6 w7 =>
  kB v6 fun b23 => kIf b23
  (f70_2 x2 x8 x9 x10 J2 Q w7)
  (kta 124 (.pointer none) true v5 fun v9 =>
  kext v9 1 fun v10 =>
  kext v9 0 fun v11 =>
  kB v10 fun b22 => kIf b22
  (kcall Tryd.prog 66 #[v11] w7 fun v12 w13 =>
  kcall Tryd.prog 70 #[v12] w13 fun v14 w15 =>
  ksem Tryd.prog (Builtin.append_ #[125, 125] 0 #[x2, v14]) w15 fun v16 w17 =>
  f70_2 v16 x8 x9 x10 J2 Q w17)
  (kbldS [.nilIface] 1 [(0, 1, v5)] 36 w7 fun v18 w19 =>
  ksem Tryd.prog (Builtin.append_ #[125, 125] 0 #[x2, v18]) w19 fun v20 w21 =>
  f70_2 v20 x8 x9 x10 J2 Q w21))

def f70_3 (x2 : Value) (Q : Value → World → Prop) (w : World) : Prop :=
  Q x2 w

def f70_0 (x2 : Value) (x10 : Value) (x8 : Value) (x9 : Value) (J2 : Value → Value → World → Prop) (Q : Value → World → Prop) (w : World) : Prop :=
  kint .i64 .lss x10 x9 fun v3 =>
  kB v3 fun b24 => kIf b24
  (f70_1 x2 x8 x9 x10 J2 Q w)
  (f70_3 x2 Q w)

def f70 (x0 : Value) (Q : Value → World → Prop) (w : World) : Prop :=
  klen x0 fun v1 =>
  kL fun (I : Value → Value → World → Prop) (μ : Value → Value → World → Nat) => I (.slice none 0 0) (.int .i64 0) w ∧ ∀ (x2 x10 : Value) (w1 : World), I x2 x10 w1 →
  f70_0 x2 x10 x0 v1 (fun y2 y10 w2 => I y2 y10 w2 ∧ μ y2 y10 w2 < μ x2 x10 w1) Q w1

theorem f70_eq (x0 : Value) (Q : Value → World → Prop) (w : World) : f70 x0 Q w = fnVC Tryd.prog Tryd.f70 [(2, [2, 10])] (Tryd.f70.body.get rfl) [x0] w Q := by kernel_rfl
theorem f70_ok {x0 : Value} {Q : Value → World → Prop} {w : World} (h : f70 x0 Q w) : Meets Tryd.prog 70 #[x0] w Q :=
  sound (c := (Tryd.f70.body.get rfl)) [(2, [2, 10])] Tryd.func70 rfl rfl (args := [x0]) rfl (Eq.mp (f70_eq x0 Q w) h)

/-! pasodoble/blame.Leaves -/
def f9 (x0 : Value) (Q : Value → World → Prop) (w : World) : Prop :=
  kcall Tryd.prog 28 #[(.slice none 0 0), x0] w fun v1 w2 =>
  Q v1 w2

theorem f9_eq (x0 : Value) (Q : Value → World → Prop) (w : World) : f9 x0 Q w = fnVC Tryd.prog Tryd.f9 [] (Tryd.f9.body.get rfl) [x0] w Q := by kernel_rfl
theorem f9_ok {x0 : Value} {Q : Value → World → Prop} {w : World} (h : f9 x0 Q w) : Meets Tryd.prog 9 #[x0] w Q :=
  sound (c := (Tryd.f9.body.get rfl)) [] Tryd.func9 rfl rfl (args := [x0]) rfl (Eq.mp (f9_eq x0 Q w) h)

/-! (*pasodoble/blame.Blame).Unwrap -/
def f65_0 (x0 : Value) (Q : Value → World → Prop) (w : World) : Prop :=
  kN x0 <|
  kfld 1 x0 fun v3 =>
  kld v3 w fun v4 =>
  Q v4 w

def f65 (x0 : Value) (Q : Value → World → Prop) (w : World) : Prop :=
  keq Tryd.prog .eql 120 false true x0 (.pointer none) w fun v1 w2 =>
  kB v1 fun b5 => kIf b5
  (Q .nilIface w2)
  (f65_0 x0 Q w2)

theorem f65_eq (x0 : Value) (Q : Value → World → Prop) (w : World) : f65 x0 Q w = fnVC Tryd.prog Tryd.f65 [] (Tryd.f65.body.get rfl) [x0] w Q := by kernel_rfl
theorem f65_ok {x0 : Value} {Q : Value → World → Prop} {w : World} (h : f65 x0 Q w) : Meets Tryd.prog 65 #[x0] w Q :=
  sound (c := (Tryd.f65.body.get rfl)) [] Tryd.func65 rfl rfl (args := [x0]) rfl (Eq.mp (f65_eq x0 Q w) h)

/-! (*pasodoble/blame.Several).Unwrap -/
def f66_0 (x0 : Value) (Q : Value → World → Prop) (w : World) : Prop :=
  kN x0 <|
  kfld 0 x0 fun v3 =>
  kld v3 w fun v4 =>
  kcall Tryd.prog 89 #[v4] w fun v5 w6 =>
  Q v5 w6

def f66 (x0 : Value) (Q : Value → World → Prop) (w : World) : Prop :=
  keq Tryd.prog .eql 124 false true x0 (.pointer none) w fun v1 w2 =>
  kB v1 fun b7 => kIf b7
  (Q (.slice none 0 0) w2)
  (f66_0 x0 Q w2)

theorem f66_eq (x0 : Value) (Q : Value → World → Prop) (w : World) : f66 x0 Q w = fnVC Tryd.prog Tryd.f66 [] (Tryd.f66.body.get rfl) [x0] w Q := by kernel_rfl
theorem f66_ok {x0 : Value} {Q : Value → World → Prop} {w : World} (h : f66 x0 Q w) : Meets Tryd.prog 66 #[x0] w Q :=
  sound (c := (Tryd.f66.body.get rfl)) [] Tryd.func66 rfl rfl (args := [x0]) rfl (Eq.mp (f66_eq x0 Q w) h)

/-! slices.Clone[[]string,string] -/
def f64_0 (x0 : Value) (Q : Value → World → Prop) (w : World) : Prop :=
  kbldS [(.string ⟨#[]⟩)] 0 [] 9 w fun v3 w4 =>
  ksem Tryd.prog (Builtin.append_ #[119, 119] 0 #[v3, x0]) w4 fun v5 w6 =>
  Q v5 w6

def f64 (x0 : Value) (Q : Value → World → Prop) (w : World) : Prop :=
  keq Tryd.prog .eql 119 false true x0 (.slice none 0 0) w fun v1 w2 =>
  kB v1 fun b7 => kIf b7
  (Q (.slice none 0 0) w2)
  (f64_0 x0 Q w2)

theorem f64_eq (x0 : Value) (Q : Value → World → Prop) (w : World) : f64 x0 Q w = fnVC Tryd.prog Tryd.f64 [] (Tryd.f64.body.get rfl) [x0] w Q := by kernel_rfl
theorem f64_ok {x0 : Value} {Q : Value → World → Prop} {w : World} (h : f64 x0 Q w) : Meets Tryd.prog 64 #[x0] w Q :=
  sound (c := (Tryd.f64.body.get rfl)) [] Tryd.func64 rfl rfl (args := [x0]) rfl (Eq.mp (f64_eq x0 Q w) h)

/-! slices.Clone[[]error,error] -/
def f89_0 (x0 : Value) (Q : Value → World → Prop) (w : World) : Prop :=
  kbldS [.nilIface] 0 [] 36 w fun v3 w4 =>
  ksem Tryd.prog (Builtin.append_ #[125, 125] 0 #[v3, x0]) w4 fun v5 w6 =>
  Q v5 w6

def f89 (x0 : Value) (Q : Value → World → Prop) (w : World) : Prop :=
  keq Tryd.prog .eql 125 false true x0 (.slice none 0 0) w fun v1 w2 =>
  kB v1 fun b7 => kIf b7
  (Q (.slice none 0 0) w2)
  (f89_0 x0 Q w2)

theorem f89_eq (x0 : Value) (Q : Value → World → Prop) (w : World) : f89 x0 Q w = fnVC Tryd.prog Tryd.f89 [] (Tryd.f89.body.get rfl) [x0] w Q := by kernel_rfl
theorem f89_ok {x0 : Value} {Q : Value → World → Prop} {w : World} (h : f89 x0 Q w) : Meets Tryd.prog 89 #[x0] w Q :=
  sound (c := (Tryd.f89.body.get rfl)) [] Tryd.func89 rfl rfl (args := [x0]) rfl (Eq.mp (f89_eq x0 Q w) h)

/-! strings.Join -/
def f67_6 (x0 : Value) (x1 : Value) (x5 : Value) (x39 : Value) (x40 : Value) (x41 : Value) (J12 : Value → Value → World → Prop) (Q : Value → World → Prop) (w : World) : Prop :=
  kint .i64 .add x41 (.int .i64 1) fun v36 =>
  J12 x5 v36 w

def f67_5 (x0 : Value) (x1 : Value) (x5 : Value) (x7 : Value) (x39 : Value) (x40 : Value) (x41 : Value) (J12 : Value → Value → World → Prop) (Q : Value → World → Prop) (w : World) : Prop :=
  klenStr x7 fun v33 =>
  kint .i64 .add x5 v33 fun v35 =>
  f67_6 x0 x1 v35 x39 x40 x41 J12 Q w

def f67_4 (x0 : Value) (x1 : Value) (x5 : Value) (x39 : Value) (x40 : Value) (x41 : Value) (J12 : Value → Value → World → Prop) (Q : Value → World → Prop) (w : World) : Prop :=
  kix (some (.slice 9)) (some 1) x39 x41 fun v27 =>
  kld v27 w fun v28 =>
  klenStr v28 fun v29 =>
  kint .i64 .sub (.int .i64 9223372036854775807) x5 fun v31 =>
  kint .i64 .gtr v29 v31 fun v32 =>
  kB v32 fun b37 => kIf b37
  (False)
  (f67_5 x0 x1 x5 v28 x39 x40 x41 J12 Q w)

def f67_10 (x1 : Value) (x8 : Value) (x63 : Value) (x64 : Value) (x65 : Value) (J22 : Value → World → Prop) (Q : Value → World → Prop) (w : World) : Prop :=
  kint .i64 .add x65 (.int .i64 1) fun v56 =>
  J22 v56 w

def f67_9 (x1 : Value) (x8 : Value) (x63 : Value) (x64 : Value) (x65 : Value) (J22 : Value → World → Prop) (Q : Value → World → Prop) (w : World) : Prop :=
  kix (some (.slice 9)) (some 1) x63 x65 fun v50 =>
  kld v50 w fun v51 =>
  kcall Tryd.prog 91 #[x8, x1] w fun v52 w53 =>
  kcall Tryd.prog 91 #[x8, v51] w53 fun v54 w55 =>
  f67_10 x1 x8 x63 x64 x65 J22 Q w55

def f67_11 (x8 : Value) (Q : Value → World → Prop) (w : World) : Prop :=
  kcall Tryd.prog 92 #[x8] w fun v57 w58 =>
  Q v57 w58

def f67_8 (x65 : Value) (x1 : Value) (x8 : Value) (x63 : Value) (x64 : Value) (J22 : Value → World → Prop) (Q : Value → World → Prop) (w : World) : Prop :=
  kint .i64 .lss x65 x64 fun v49 =>
  kB v49 fun b59 => kIf b59
  (f67_9 x1 x8 x63 x64 x65 J22 Q w)
  (f67_11 x8 Q w)

def f67_7 (x0 : Value) (x1 : Value) (x5 : Value) (Q : Value → World → Prop) (w : World) : Prop :=
  knew #[(.pointer none), (.slice none 0 0)] 163 w fun v38 w39 =>
  kcall Tryd.prog 90 #[v38, x5] w39 fun v40 w41 =>
  kix (some (.slice 9)) (some 1) x0 (.int .i64 0) fun v42 =>
  kld v42 w41 fun v43 =>
  kcall Tryd.prog 91 #[v38, v43] w41 fun v44 w45 =>
  ksl (some (.slice 9)) (some 1) x0 (some (.int .i64 1)) none fun v46 =>
  klen v46 fun v47 =>
  kL fun (I : Value → World → Prop) (μ : Value → World → Nat) => I (.int .i64 0) w45 ∧ ∀ (x65 : Value) (w1 : World), I x65 w1 →
  f67_8 x65 x1 v38 v46 v47 (fun y65 w2 => I y65 w2 ∧ μ y65 w2 < μ x65 w1) Q w1

def f67_3 (x5 : Value) (x41 : Value) (x0 : Value) (x1 : Value) (x39 : Value) (x40 : Value) (J12 : Value → Value → World → Prop) (Q : Value → World → Prop) (w : World) : Prop :=
  kint .i64 .lss x41 x40 fun v26 =>
  kB v26 fun b60 => kIf b60
  (f67_4 x0 x1 x5 x39 x40 x41 J12 Q w)
  (f67_7 x0 x1 x5 Q w)

def f67_2 (x0 : Value) (x1 : Value) (x5 : Value) (Q : Value → World → Prop) (w : World) : Prop :=
  klen x0 fun v24 =>
  kL fun (I : Value → Value → World → Prop) (μ : Value → Value → World → Nat) => I x5 (.int .i64 0) w ∧ ∀ (x5 x41 : Value) (w1 : World), I x5 x41 w1 →
  f67_3 x5 x41 x0 x1 x0 v24 (fun y5 y41 w2 => I y5 y41 w2 ∧ μ y5 y41 w2 < μ x5 x41 w1) Q w1

def f67_1 (x0 : Value) (x1 : Value) (x5 : Value) (Q : Value → World → Prop) (w : World) : Prop :=
  klenStr x1 fun v17 =>
  klen x0 fun v19 =>
  kint .i64 .sub v19 (.int .i64 1) fun v21 =>
  kint .i64 .mul v17 v21 fun v22 =>
  kint .i64 .add x5 v22 fun v23 =>
  f67_2 x0 x1 v23 Q w

def f67_0 (x0 : Value) (x1 : Value) (Q : Value → World → Prop) (w : World) : Prop :=
  klenStr x1 fun v7 =>
  kint .i64 .gtr v7 (.int .i64 0) fun v9 =>
  kB v9 fun b62 => kIf b62
  (klenStr x1 fun v10 =>
  klen x0 fun v12 =>
  kint .i64 .sub v12 (.int .i64 1) fun v14 =>
  kint .i64 .quo (.int .i64 9223372036854775807) v14 fun v15 =>
  kint .i64 .geq v10 v15 fun v16 =>
  kB v16 fun b61 => kIf b61
  (False)
  (f67_1 x0 x1 (.int .i64 0) Q w))
  (f67_2 x0 x1 (.int .i64 0) Q w)

def f67 (x0 : Value) (x1 : Value) (Q : Value → World → Prop) (w : World) : Prop :=
  klen x0 fun v1 =>
  kint .i64 .eql v1 (.int .i64 0) fun v3 =>
  kB v3 fun b64 => kIf b64
  (Q (.string ⟨#[]⟩) w)
  (kint .i64 .eql v1 (.int .i64 1) fun v4 =>
  kB v4 fun b63 => kIf b63
  (kix (some (.slice 9)) (some 1) x0 (.int .i64 0) fun v5 =>
  kld v5 w fun v6 =>
  Q v6 w)
  (f67_0 x0 x1 Q w))

theorem f67_eq (x0 : Value) (x1 : Value) (Q : Value → World → Prop) (w : World) : f67 x0 x1 Q w = fnVC Tryd.prog Tryd.f67 [(12, [5, 41]), (22, [65])] (Tryd.f67.body.get rfl) [x0, x1] w Q := by kernel_rfl
theorem f67_ok {x0 : Value} {x1 : Value} {Q : Value → World → Prop} {w : World} (h : f67 x0 x1 Q w) : Meets Tryd.prog 67 #[x0, x1] w Q :=
  sound (c := (Tryd.f67.body.get rfl)) [(12, [5, 41]), (22, [65])] Tryd.func67 rfl rfl (args := [x0, x1]) rfl (Eq.mp (f67_eq x0 x1 Q w) h)

/-! (*strings.Builder).Grow -/
def f90_0 (x0 : Value) (x1 : Value) (Q : Value → World → Prop) (w : World) : Prop :=
  kN x0 <|
  kfld 1 x0 fun v4 =>
  kld v4 w.drew fun v5 =>
  kG (w.drew = w.drew) <|
  kcap v5 fun v6 =>
  kN x0 <|
  kfld 1 x0 fun v8 =>
  kld v8 w.drew fun v9 =>
  kG (w.drew = w.drew) <|
  klen v9 fun v10 =>
  kint .i64 .sub v6 v10 fun v12 =>
  kint .i64 .lss v12 x1 fun v13 =>
  kB v13 fun b16 => kIf b16
  (kcall Tryd.prog 104 #[x0, x1] w.drew fun v14 w15 =>
  Q (.tuple #[]) w15)
  (Q (.tuple #[]) w.drew)

def f90 (x0 : Value) (x1 : Value) (Q : Value → World → Prop) (w : World) : Prop :=
  kcall Tryd.prog 103 #[x0] w fun v1 w2 =>
  kint .i64 .lss x1 (.int .i64 0) fun v3 =>
  kB v3 fun b17 => kIf b17
  (False)
  (f90_0 x0 x1 Q w2)

theorem f90_eq (x0 : Value) (x1 : Value) (Q : Value → World → Prop) (w : World) : f90 x0 x1 Q w = fnVC Tryd.prog Tryd.f90 [] (Tryd.f90.body.get rfl) [x0, x1] w Q := by kernel_rfl
theorem f90_ok {x0 : Value} {x1 : Value} {Q : Value → World → Prop} {w : World} (h : f90 x0 x1 Q w) : Meets Tryd.prog 90 #[x0, x1] w Q :=
  sound (c := (Tryd.f90.body.get rfl)) [] Tryd.func90 rfl rfl (args := [x0, x1]) rfl (Eq.mp (f90_eq x0 x1 Q w) h)

/-! (*strings.Builder).WriteString -/
def f91 (x0 : Value) (x1 : Value) (Q : Value → World → Prop) (w : World) : Prop :=
  kcall Tryd.prog 103 #[x0] w fun v1 w2 =>
  kN x0 <|
  kfld 1 x0 fun v3 =>
  kld v3 w2 fun v4 =>
  ksem Tryd.prog (Builtin.append_ #[104, 9] 0 #[v4, x1]) w2 fun v5 w6 =>
  kN x0 <|
  kfld 1 x0 fun v7 =>
  kst 1 v7 v5 w6 fun w8 =>
  klenStr x1 fun v9 =>
  Q (.tuple #[v9, .nilIface]) w8

theorem f91_eq (x0 : Value) (x1 : Value) (Q : Value → World → Prop) (w : World) : f91 x0 x1 Q w = fnVC Tryd.prog Tryd.f91 [] (Tryd.f91.body.get rfl) [x0, x1] w Q := by kernel_rfl
theorem f91_ok {x0 : Value} {x1 : Value} {Q : Value → World → Prop} {w : World} (h : f91 x0 x1 Q w) : Meets Tryd.prog 91 #[x0, x1] w Q :=
  sound (c := (Tryd.f91.body.get rfl)) [] Tryd.func91 rfl rfl (args := [x0, x1]) rfl (Eq.mp (f91_eq x0 x1 Q w) h)

/-! (*strings.Builder).String -/
def f92 (x0 : Value) (Q : Value → World → Prop) (w : World) : Prop :=
  kN x0 <|
  kfld 1 x0 fun v1 =>
  kld v1 w.drew fun v2 =>
  kG (w.drew = w.drew) <|
  ksem Tryd.prog (Builtin.unsafeSliceData_ #[104] 175 #[v2]) w.drew fun v3 w4 =>
  kN x0 <|
  kfld 1 x0 fun v5 =>
  kld v5 w4 fun v6 =>
  kG (w4 = w4) <|
  kG (kld v5 w.drew fun v11 =>
  v11 = v6 ∧ w.drew = w.drew) <|
  klen v6 fun v7 =>
  ksem Tryd.prog (Builtin.unsafeString_ #[175, 3] 9 #[v3, v7]) w4 fun v9 w10 =>
  Q v9 w10

theorem f92_eq (x0 : Value) (Q : Value → World → Prop) (w : World) : f92 x0 Q w = fnVC Tryd.prog Tryd.f92 [] (Tryd.f92.body.get rfl) [x0] w Q := by kernel_rfl
theorem f92_ok {x0 : Value} {Q : Value → World → Prop} {w : World} (h : f92 x0 Q w) : Meets Tryd.prog 92 #[x0] w Q :=
  sound (c := (Tryd.f92.body.get rfl)) [] Tryd.func92 rfl rfl (args := [x0]) rfl (Eq.mp (f92_eq x0 Q w) h)

/-! (*strings.Builder).copyCheck -/
def f103 (x0 : Value) (Q : Value → World → Prop) (w : World) : Prop :=
  kN x0 <|
  kfld 0 x0 fun v1 =>
  kld v1 w fun v2 =>
  keq Tryd.prog .eql 161 false true v2 (.pointer none) w fun v3 w4 =>
  kB v3 fun b18 => kIf b18
  (ksem Tryd.prog (convert 161 179 x0) w4 fun v5 w6 =>
  kextf Tryd.prog 107 [v5] w6 fun v7 w8 =>
  ksem Tryd.prog (convert 179 161 v7) w8 fun v9 w10 =>
  kN x0 <|
  kfld 0 x0 fun v11 =>
  kst 1 v11 v9 w10 fun w12 =>
  Q (.tuple #[]) w12)
  (kN x0 <|
  kfld 0 x0 fun v13 =>
  kld v13 w4 fun v14 =>
  keq Tryd.prog .neq 161 false false v14 x0 w4 fun v15 w16 =>
  kB v15 fun b17 => kIf b17
  (False)
  (Q (.tuple #[]) w16))

theorem f103_eq (x0 : Value) (Q : Value → World → Prop) (w : World) : f103 x0 Q w = fnVC Tryd.prog Tryd.f103 [] (Tryd.f103.body.get rfl) [x0] w Q := by kernel_rfl
theorem f103_ok {x0 : Value} {Q : Value → World → Prop} {w : World} (h : f103 x0 Q w) : Meets Tryd.prog 103 #[x0] w Q :=
  sound (c := (Tryd.f103.body.get rfl)) [] Tryd.func103 rfl rfl (args := [x0]) rfl (Eq.mp (f103_eq x0 Q w) h)

/-! (*strings.Builder).grow -/
def f104 (x0 : Value) (x1 : Value) (Q : Value → World → Prop) (w : World) : Prop :=
  kN x0 <|
  kfld 1 x0 fun v1 =>
  kld v1 w.drew fun v2 =>
  kG (w.drew = w.drew) <|
  kcap v2 fun v3 =>
  kint .i64 .mul (.int .i64 2) v3 fun v5 =>
  kint .i64 .add v5 x1 fun v6 =>
  kextf Tryd.prog 108 [v6] w.drew fun v7 w8 =>
  kN x0 <|
  kfld 1 x0 fun v9 =>
  kld v9 w8 fun v10 =>
  kG (w8 = w8) <|
  kG (kld v9 w.drew fun v20 =>
  v20 = v10 ∧ w.drew = w.drew) <|
  klen v10 fun v11 =>
  ksl (some (.slice 5)) (some 1) v7 none (some v11) fun v13 =>
  kN x0 <|
  kfld 1 x0 fun v14 =>
  kld v14 w8 fun v15 =>
  ksem Tryd.prog (Builtin.copy_ #[104, 104] 0 #[v13, v15]) w8 fun v16 w17 =>
  kN x0 <|
  kfld 1 x0 fun v18 =>
  kst 1 v18 v13 w17 fun w19 =>
  Q (.tuple #[]) w19

theorem f104_eq (x0 : Value) (x1 : Value) (Q : Value → World → Prop) (w : World) : f104 x0 x1 Q w = fnVC Tryd.prog Tryd.f104 [] (Tryd.f104.body.get rfl) [x0, x1] w Q := by kernel_rfl
theorem f104_ok {x0 : Value} {x1 : Value} {Q : Value → World → Prop} {w : World} (h : f104 x0 x1 Q w) : Meets Tryd.prog 104 #[x0, x1] w Q :=
  sound (c := (Tryd.f104.body.get rfl)) [] Tryd.func104 rfl rfl (args := [x0, x1]) rfl (Eq.mp (f104_eq x0 x1 Q w) h)

/-! pasodoble/blame.Of -/
def f105_0 (Q : Value → World → Prop) (w : World) : Prop :=
  Q .nilIface w

def f105 (x0 : Value) (Q : Value → World → Prop) (w : World) : Prop :=
  kint .i64 .eql x0 (.int .i64 1) fun v1 =>
  kB v1 fun b54 => kIf b54
  (kld (.pointer (some ⟨1, 0, none⟩)) w fun v2 =>
  Q v2 w)
  (kint .i64 .eql x0 (.int .i64 2) fun v3 =>
  kB v3 fun b53 => kIf b53
  (kld (.pointer (some ⟨4, 0, none⟩)) w fun v4 =>
  Q v4 w)
  (kint .i64 .eql x0 (.int .i64 3) fun v5 =>
  kB v5 fun b52 => kIf b52
  (kld (.pointer (some ⟨0, 0, none⟩)) w fun v6 =>
  Q v6 w)
  (kint .i64 .eql x0 (.int .i64 4) fun v7 =>
  kB v7 fun b51 => kIf b51
  (kld (.pointer (some ⟨5, 0, none⟩)) w fun v8 =>
  Q v8 w)
  (kint .i64 .eql x0 (.int .i64 5) fun v9 =>
  kB v9 fun b50 => kIf b50
  (kld (.pointer (some ⟨7, 0, none⟩)) w fun v10 =>
  Q v10 w)
  (kint .i64 .eql x0 (.int .i64 6) fun v11 =>
  kB v11 fun b49 => kIf b49
  (kld (.pointer (some ⟨8, 0, none⟩)) w fun v12 =>
  Q v12 w)
  (kint .i64 .eql x0 (.int .i64 7) fun v13 =>
  kB v13 fun b48 => kIf b48
  (kld (.pointer (some ⟨3, 0, none⟩)) w fun v14 =>
  Q v14 w)
  (kint .i64 .eql x0 (.int .i64 8) fun v15 =>
  kB v15 fun b47 => kIf b47
  (kld (.pointer (some ⟨9, 0, none⟩)) w fun v16 =>
  Q v16 w)
  (kint .i64 .eql x0 (.int .i64 9) fun v17 =>
  kB v17 fun b46 => kIf b46
  (kld (.pointer (some ⟨2, 0, none⟩)) w fun v18 =>
  Q v18 w)
  (kint .i64 .eql x0 (.int .i64 10) fun v19 =>
  kB v19 fun b45 => kIf b45
  (kld (.pointer (some ⟨10, 0, none⟩)) w fun v20 =>
  Q v20 w)
  (kint .i64 .eql x0 (.int .i64 11) fun v21 =>
  kB v21 fun b44 => kIf b44
  (kld (.pointer (some ⟨11, 0, none⟩)) w fun v22 =>
  Q v22 w)
  (kint .i64 .eql x0 (.int .i64 12) fun v23 =>
  kB v23 fun b43 => kIf b43
  (kld (.pointer (some ⟨12, 0, none⟩)) w fun v24 =>
  Q v24 w)
  (kint .i64 .eql x0 (.int .i64 13) fun v25 =>
  kB v25 fun b42 => kIf b42
  (kld (.pointer (some ⟨13, 0, none⟩)) w fun v26 =>
  Q v26 w)
  (kint .i64 .eql x0 (.int .i64 14) fun v27 =>
  kB v27 fun b41 => kIf b41
  (kld (.pointer (some ⟨14, 0, none⟩)) w fun v28 =>
  Q v28 w)
  (kint .i64 .eql x0 (.int .i64 15) fun v29 =>
  kB v29 fun b40 => kIf b40
  (kld (.pointer (some ⟨15, 0, none⟩)) w fun v30 =>
  Q v30 w)
  (kint .i64 .eql x0 (.int .i64 16) fun v31 =>
  kB v31 fun b39 => kIf b39
  (kld (.pointer (some ⟨16, 0, none⟩)) w fun v32 =>
  Q v32 w)
  (kint .i64 .eql x0 (.int .i64 17) fun v33 =>
  kB v33 fun b38 => kIf b38
  (kld (.pointer (some ⟨17, 0, none⟩)) w fun v34 =>
  Q v34 w)
  (kint .i64 .eql x0 (.int .i64 18) fun v35 =>
  kB v35 fun b37 => kIf b37
  (kld (.pointer (some ⟨18, 0, none⟩)) w fun v36 =>
  Q v36 w)
  (f105_0 Q w))))))))))))))))))

theorem f105_eq (x0 : Value) (Q : Value → World → Prop) (w : World) : f105 x0 Q w = fnVC Tryd.prog Tryd.f105 [] (Tryd.f105.body.get rfl) [x0] w Q := by kernel_rfl
theorem f105_ok {x0 : Value} {Q : Value → World → Prop} {w : World} (h : f105 x0 Q w) : Meets Tryd.prog 105 #[x0] w Q :=
  sound (c := (Tryd.f105.body.get rfl)) [] Tryd.func105 rfl rfl (args := [x0]) rfl (Eq.mp (f105_eq x0 Q w) h)

/-! pasodoble/blame.walk -/
def f28_2 (x0 : Value) (x4 : Value) (x30 : Value) (x31 : Value) (x32 : Value) (J11 : Value → Value → World → Prop) (Q : Value → World → Prop) (w : World) : Prop :=
  kint .i64 .add x32 (.int .i64 1) fun v46 =>
  J11 x4 v46 w

def f28_1 (x0 : Value) (x4 : Value) (x30 : Value) (x31 : Value) (x32 : Value) (J11 : Value → Value → World → Prop) (Q : Value → World → Prop) (w : World) : Prop :=
  kix (some (.slice 36)) (some 1) x30 x32 fun v40 =>
  kld v40 w fun v41 =>
  kcall Tryd.prog 28 #[x0, v41] w fun v42 w43 =>
  ksem Tryd.prog (Builtin.append_ #[33, 33] 0 #[x4, v42]) w43 fun v44 w45 =>
  f28_2 x0 v44 x30 x31 x32 J11 Q w45

def f28_3 (x4 : Value) (Q : Value → World → Prop) (w : World) : Prop :=
  Q x4 w

def f28_0 (x4 : Value) (x32 : Value) (x0 : Value) (x30 : Value) (x31 : Value) (J11 : Value → Value → World → Prop) (Q : Value → World → Prop) (w : World) : Prop :=
  kint .i64 .lss x32 x31 fun v39 =>
  kB v39 fun b47 => kIf b47
  (f28_1 x0 x4 x30 x31 x32 J11 Q w)
  (f28_3 x4 Q w)

def f28_4 (x0 : Value) (x1 : Value) (Q : Value → World → Prop) (w : World) : Prop :=
  kcall Tryd.prog 67 #[x0, (.string ⟨#[47]⟩)] w fun v48 w49 =>
  kcall Tryd.prog 68 #[x1] w49 fun v50 w51 =>
  kbld [(.string ⟨#[]⟩), (.int .i64 0)] [(0, 1, v48), (1, 1, v50)] fun v52 =>
  kbldS [(.string ⟨#[]⟩), (.int .i64 0)] 1 [(0, 2, v52)] 41 w51 fun v53 w54 =>
  Q v53 w54

def f28 (x0 : Value) (x1 : Value) (Q : Value → World → Prop) (w : World) : Prop :=
  keq Tryd.prog .eql 36 false true x1 .nilIface w fun v1 w2 =>
  kB v1 fun b57 => kIf b57
  (Q (.slice none 0 0) w2)
  (kta 120 (.pointer none) true x1 fun v3 =>
  kext v3 1 fun v4 =>
  kext v3 0 fun v5 =>
  kB v4 fun b56 => kIf b56
  ((kcall Tryd.prog 64 #[x0] w2.drew fun v6 w7 =>
  kN v5 <|
  kfld 0 v5 fun v8 =>
  kld v8 w7 fun v9 =>
  kG (w7 = w7) <|
  kG (kld v8 w2.drew fun v18 =>
  v18 = v9 ∧ w2.drew = w2.drew) <|
  kbldS [(.string ⟨#[]⟩)] 1 [(0, 1, v9)] 9 w7 fun v10 w11 =>
  ksem Tryd.prog (Builtin.append_ #[119, 119] 0 #[v6, v10]) w11 fun v12 w13 =>
  kcall Tryd.prog 65 #[v5] w13 fun v14 w15 =>
  kcall Tryd.prog 28 #[v12, v14] w15 fun v16 w17 =>
  Q v16 w17) ∧
  (kN v5 <|
  kfld 0 v5 fun v19 =>
  kld v19 w2.drew fun v20 =>
  kG (w2.drew = w2.drew) <|
  kbldS [(.string ⟨#[]⟩)] 1 [(0, 1, v20)] 9 w2.drew fun v21 w22 =>
  kcall Tryd.prog 64 #[x0] w22 fun v23 w24 =>
  kG (kld v19 w24 fun v31 =>
  v31 = v20 ∧ w24 = w24) <|
  ksem Tryd.prog (Builtin.append_ #[119, 119] 0 #[v23, v21]) w24 fun v25 w26 =>
  kcall Tryd.prog 65 #[v5] w26 fun v27 w28 =>
  kcall Tryd.prog 28 #[v25, v27] w28 fun v29 w30 =>
  Q v29 w30))
  (kta 124 (.pointer none) true x1 fun v32 =>
  kext v32 1 fun v33 =>
  kext v32 0 fun v34 =>
  kB v33 fun b55 => kIf b55
  (kcall Tryd.prog 66 #[v34] w2 fun v35 w36 =>
  klen v35 fun v37 =>
  kL fun (I : Value → Value → World → Prop) (μ : Value → Value → World → Nat) => I (.slice none 0 0) (.int .i64 0) w36 ∧ ∀ (x4 x32 : Value) (w1 : World), I x4 x32 w1 →
  f28_0 x4 x32 x0 v35 v37 (fun y4 y32 w2 => I y4 y32 w2 ∧ μ y4 y32 w2 < μ x4 x32 w1) Q w1)
  (f28_4 x0 x1 Q w2)))

theorem f28_eq (x0 : Value) (x1 : Value) (Q : Value → World → Prop) (w : World) : f28 x0 x1 Q w = fnVC Tryd.prog Tryd.f28 [(11, [4, 32])] (Tryd.f28.body.get rfl) [x0, x1] w Q := by kernel_rfl
theorem f28_ok {x0 : Value} {x1 : Value} {Q : Value → World → Prop} {w : World} (h : f28 x0 x1 Q w) : Meets Tryd.prog 28 #[x0, x1] w Q :=
  sound (c := (Tryd.f28.body.get rfl)) [(11, [4, 32])] Tryd.func28 rfl rfl (args := [x0, x1]) rfl (Eq.mp (f28_eq x0 x1 Q w) h)

end Go.Proofs.YtcabkicjboedaaaDoor
end
section
namespace Go.Proofs.YtcabkicjboedaaaDoor
open Go Go.Ev
set_option linter.unusedVariables false
set_option linter.unusedSimpArgs false
set_option maxRecDepth 100000

/-! ### Errors -/
def tErr : Nat := 36
def tSen : Nat := 192
def tBla : Nat := 120
def tSev : Nat := 124
theorem ifErr : isIfT Tryd.prog 36 = true := by kernel_rfl
theorem cmpSen : cmpT Tryd.prog 192 = true := by kernel_rfl
theorem taIs : taB Tryd.prog 192 145 = some false := by kernel_rfl
theorem taUn : taB Tryd.prog 192 148 = some false := by kernel_rfl
theorem taUs : taB Tryd.prog 192 149 = some false := by kernel_rfl
theorem zIs : (Tryd.prog.info? 145).map (·.zero) = some (some .nilIface) := by kernel_rfl
theorem zUn : (Tryd.prog.info? 148).map (·.zero) = some (some .nilIface) := by kernel_rfl
theorem zUs : (Tryd.prog.info? 149).map (·.zero) = some (some .nilIface) := by kernel_rfl
theorem ptBla : isPtrT Tryd.prog 120 = true := by kernel_rfl
theorem ptSev : isPtrT Tryd.prog 124 = true := by kernel_rfl
theorem slErr : isSlT Tryd.prog 125 = true := by kernel_rfl
theorem slStr : isSlT Tryd.prog 119 = true := by kernel_rfl
theorem apErr : appT Tryd.prog 125 1 16 = true := by kernel_rfl
theorem apStr : appT Tryd.prog 119 1 16 = true := by kernel_rfl
theorem apLeaf : appT Tryd.prog 33 2 24 = true := by kernel_rfl

/-- The variable of an error's number. -/
def gErr : Nat → Nat
  | 1 => 1 | 2 => 4 | 3 => 0 | 4 => 5 | 5 => 7 | 6 => 8 | 7 => 3 | 8 => 9 | 9 => 2
  | 10 => 10 | 11 => 11 | 12 => 12 | 13 => 13 | 14 => 14 | 15 => 15 | 16 => 16 | 17 => 17 | _ => 18
def errV (S : Nat → Addr) (k : Nat) : Value := .iface 192 (.pointer (some (S k)))
/-- The first N sentinels lie where they were laid. -/
structure LaidN (N : Nat) (S : Nat → Addr) (w : World) : Prop where
  glob : ∀ k, 1 ≤ k → k ≤ N → ∃ c t f, blk w (gErr k) = some (.cells c t f) ∧ c[0]? = some (errV S k)
  ne : ∀ j k, 1 ≤ j → j ≤ N → 1 ≤ k → k ≤ N → j ≠ k → S j ≠ S k
  live : ∀ k, 1 ≤ k → k ≤ N → ∃ c t, blk w (S k).block = some (.cells c t (0, 0))
abbrev LaidE := LaidN 18
theorem LaidN.mod {N : Nat} {fp : Nat → Prop} {S : Nat → Addr} {w w' : World} (h : LaidN N S w) (hm : Mod fp w w') (hf : ∀ k, 1 ≤ k → k ≤ N → ¬ fp (gErr k) ∧ ¬ fp (S k).block) : LaidN N S w' where
  glob k h1 h2 := by
    obtain ⟨c, t, f, hb, hc⟩ := h.glob k h1 h2
    exact ⟨c, t, f, hm.get hb (hf k h1 h2).1, hc⟩
  ne := h.ne
  live k h1 h2 := by
    obtain ⟨c, t, hb⟩ := h.live k h1 h2
    exact ⟨c, t, hm.get hb (hf k h1 h2).2⟩
theorem LaidN.same {N : Nat} {S : Nat → Addr} {w w' : World} (h : LaidN N S w) (hm : Same w w') : LaidN N S w' := h.mod hm fun _ _ _ => ⟨fun h => h, fun h => h⟩
/-- What is written from w0's end on leaves them. -/
theorem LaidN.lt {N : Nat} {S : Nat → Addr} {w : World} (h : LaidN N S w) {k : Nat} (h1 : 1 ≤ k) (h2 : k ≤ N) : gErr k < w.heap.size ∧ (S k).block < w.heap.size := by
  obtain ⟨c, t, f, hb, _⟩ := h.glob k h1 h2
  obtain ⟨c', t', hb'⟩ := h.live k h1 h2
  exact ⟨lt_of_blk hb, lt_of_blk hb'⟩
/-- A sentinel's variable, read. -/
theorem LaidN.read {N : Nat} {S : Nat → Addr} {w : World} (h : LaidN N S w) {k g : Nat} (h1 : 1 ≤ k) (h2 : k ≤ N) (hg : gErr k = g) : cellO (blk w g) 0 = some (errV S k) := by
  obtain ⟨c, t, f, hb, hc⟩ := h.glob k h1 h2
  rw [← hg, hb]; exact hc

theorem of_spec {S : Nat → Addr} {w : World} (hL : LaidE S w) (k : Nat) (h1 : 1 ≤ k) (h2 : k ≤ 18) : Meets Tryd.prog 105 #[.int .i64 k] w fun v w' => v = errV S k ∧ w' = w := by
  refine f105_ok ?_
  unfold f105
  have hk : k = 1 ∨ k = 2 ∨ k = 3 ∨ k = 4 ∨ k = 5 ∨ k = 6 ∨ k = 7 ∨ k = 8 ∨ k = 9 ∨ k = 10 ∨ k = 11 ∨ k = 12 ∨ k = 13 ∨ k = 14 ∨ k = 15 ∨ k = 16 ∨ k = 17 ∨ k = 18 := by omega
  rcases hk with rfl | rfl | rfl | rfl | rfl | rfl | rfl | rfl | rfl | rfl | rfl | rfl | rfl | rfl | rfl | rfl | rfl | rfl <;>
    (have hr := hL.read h1 h2 rfl
     simp only [gErr] at hr
     simp -dsimp [hr])

theorem is_spec {N : Nat} {S : Nat → Addr} {w : World} (hL : LaidN N S w) (j k : Nat) (j1 : 1 ≤ j) (j2 : j ≤ N) (k1 : 1 ≤ k) (k2 : k ≤ N) : Meets Tryd.prog 45 #[errV S j, errV S k, .bool true] w fun v w' => v = .bool (decide (j = k)) ∧ w' = w := by
  refine f45_ok ?_
  unfold f45
  refine kL_of (fun x wr => x = errV S j ∧ wr = w) (fun _ _ => 0) ⟨⟨rfl, rfl⟩, ?_⟩
  rintro x wr ⟨rfl, rfl⟩
  unfold f45_0
  simp -dsimp
  by_cases h : j = k
  · subst h
    rw [errV, keq_if_same ifErr cmpSen]
    unfold f45_1
    simp -dsimp
  · obtain ⟨cj, tj, hj⟩ := hL.live j j1 j2
    obtain ⟨ck, tk, hk⟩ := hL.live k k1 k2
    rw [errV, errV, keq_if_other ifErr cmpSen (hL.ne j k j1 j2 k1 k2 h) hj hk]
    unfold f45_1
    simp -dsimp
    unfold f45_2
    rw [ksem_ta_no taIs zIs]
    simp -dsimp
    unfold f45_3
    simp -dsimp
    unfold f45_4
    rw [ksem_ta_no taUn zUn]
    simp -dsimp
    rw [ksem_ta_no taUs zUs]
    simp -dsimp [h]

theorem Is_cmp (x0 v : Value) (Q : Value → World → Prop) (w : World) : f17_1 x0 (.iface 192 v) Q w = kcall Tryd.prog 45 #[x0, .iface 192 v, .bool true] w (fun v12 w13 => Q v12 w13) := by kernel_rfl
theorem Is_spec {N : Nat} {S : Nat → Addr} {w : World} (hL : LaidN N S w) (j k : Nat) (j1 : 1 ≤ j) (j2 : j ≤ N) (k1 : 1 ≤ k) (k2 : k ≤ N) : Meets Tryd.prog 17 #[errV S j, errV S k] w fun v w' => v = .bool (decide (j = k)) ∧ w' = w := by
  refine f17_ok ?_
  unfold f17 f17_0
  rw [errV, keq_if_nil ifErr]
  simp -dsimp
  rw [errV, keq_if_nil ifErr]
  simp -dsimp
  rw [Is_cmp]
  refine kcall_of (is_spec hL j k j1 j2 k1 k2) ?_
  rintro v w' ⟨rfl, rfl⟩
  exact ⟨rfl, rfl⟩

theorem Has_spec {S : Nat → Addr} {w : World} (hL : LaidE S w) (j k : Nat) (j1 : 1 ≤ j) (j2 : j ≤ 18) (k1 : 1 ≤ k) (k2 : k ≤ 18) : Meets Tryd.prog 93 #[errV S j, .int .i64 k] w fun v w' => v = .bool (decide (j = k)) ∧ w' = w := by
  refine f93_ok ?_
  unfold f93
  refine kcall_of (of_spec hL k k1 k2) ?_
  rintro v w' ⟨rfl, rfl⟩
  rw [errV, keq_if_nil' ifErr]
  simp -dsimp
  refine kcall_of (Is_spec hL j k j1 j2 k1 k2) ?_
  rintro v w' ⟨rfl, rfl⟩
  exact ⟨rfl, rfl⟩

theorem Number_spec {S : Nat → Addr} {w : World} (hL : LaidE S w) (j : Nat) (j1 : 1 ≤ j) (j2 : j ≤ 18) : Meets Tryd.prog 68 #[errV S j] w fun v w' => v = .int .i64 j ∧ w' = w := by
  refine f68_ok ?_
  unfold f68
  rw [errV, keq_if_nil ifErr]
  simp -dsimp
  unfold f68_0
  refine kL_of (fun x wr => ∃ i : Nat, i < j ∧ x = .int .i64 i ∧ wr = w) (fun x _ => 18 - (RowKit.intOf x).toNat) ⟨⟨0, by omega, rfl, rfl⟩, ?_⟩
  rintro x wr ⟨i, hi, rfl, rfl⟩
  unfold f68_1
  have e : IntKind.i64.wrap ((i : Int) + 1) = ((i + 1 : Nat) : Int) := by rw [wrap_i64 (by omega) (by omega)]; simp
  simp -dsimp [show (i : Int) < 18 by omega]
  unfold f68_2
  simp -dsimp [e]
  refine kcall_of (Has_spec hL j (i + 1) j1 j2 (by omega) (by omega)) ?_
  rintro v w' ⟨rfl, rfl⟩
  simp -dsimp
  refine kIf_dec (fun h => ?_) (fun h => ?_)
  · simp -dsimp [h, e]
  · unfold f68_3
    simp -dsimp [e]
    exact ⟨⟨i + 1, by omega, rfl⟩, by simp [RowKit.intOf]; omega⟩
end Go.Proofs.YtcabkicjboedaaaDoor
end
section
namespace Go.Proofs.YtcabkicjboedaaaDoor
open Go Go.Ev
set_option linter.unusedVariables false
set_option linter.unusedSimpArgs false
set_option maxRecDepth 100000

/-! ### Errors with where they are, several at once -/
abbrev Leaf := List ByteArray × Nat
def joinP : List ByteArray → ByteArray
  | [] => ⟨#[]⟩
  | x :: xs => xs.foldl (fun a y => a ++ ⟨#[47]⟩ ++ y) x
/-- v is an error of at most d levels with the leaves ls. -/
def ErrIs (S : Nat → Addr) (w : World) : Nat → Value → List Leaf → Prop
  | 0, v, ls => ∃ k, 1 ≤ k ∧ k ≤ 18 ∧ v = errV S k ∧ ls = [([], k)]
  | d + 1, v, ls => ErrIs S w d v ls ∨
      (∃ b wh u ls' t f, v = .iface 120 (.pointer (some ⟨b, 0, none⟩)) ∧ blk w b = some (.cells #[.string wh, u] t f) ∧ ErrIs S w d u ls' ∧ ls = ls'.map (fun l => (wh :: l.1, l.2))) ∨
      (∃ (b : Nat) (a : Option Addr) (n c : Nat) (zs : List (Value × List Leaf)) (t : TypeId) (f : Nat × Nat), v = .iface 124 (.pointer (some ⟨b, 0, none⟩)) ∧ blk w b = some (.cells #[.slice a n c] t f) ∧ SlIs w a n 1 (zs.map (·.1)) ∧ zs ≠ [] ∧
        (∀ p ∈ zs, ErrIs S w d p.1 p.2) ∧ ls = zs.flatMap (·.2))
theorem ErrIs.same {S : Nat → Addr} {w w' : World} (hm : Same w w') : ∀ {d : Nat} {v : Value} {ls : List Leaf}, ErrIs S w d v ls → ErrIs S w' d v ls
  | 0, _, _, h => h
  | d + 1, v, ls, h => by
    rcases h with h | ⟨b, wh, u, ls', t, f, h1, h2, h3, h4⟩ | ⟨b, a, n, c, zs, t, f, h1, h2, h3, h4, h5, h6⟩
    · exact .inl (h.same hm)
    · exact .inr (.inl ⟨b, wh, u, ls', t, f, h1, hm.get h2 (fun h => h), h3.same hm, h4⟩)
    · exact .inr (.inr ⟨b, a, n, c, zs, t, f, h1, hm.get h2 (fun h => h), h3.same hm, h4, fun p hp => (h5 p hp).same hm, h6⟩)
theorem ErrIs.up {S : Nat → Addr} {w : World} {d d' : Nat} {v : Value} {ls : List Leaf} (h : ErrIs S w d v ls) (hd : d ≤ d') : ErrIs S w d' v ls := by
  induction hd with
  | refl => exact h
  | step _ ih => exact .inl ih
theorem ErrIs.pos {S : Nat → Addr} {w : World} : ∀ {d : Nat} {v : Value} {ls : List Leaf}, ErrIs S w d v ls → 1 ≤ ls.length
  | 0, v, ls, ⟨k, _, _, _, e⟩ => by simp [e]
  | d + 1, v, ls, h => by
    rcases h with h | ⟨b, wh, u, ls', t, f, h1, h2, h3, h4⟩ | ⟨b, a, n, c, zs, t, f, h1, h2, h3, h4, h5, h6⟩
    · exact h.pos
    · have := h3.pos; simp [h4]; omega
    · cases zs with
      | nil => exact absurd rfl h4
      | cons x zs =>
        have := (h5 x (by simp)).pos
        simp [h6, List.flatMap_cons]; omega
theorem ErrIs.cases {S : Nat → Addr} {w : World} : ∀ {d : Nat} {v : Value} {ls : List Leaf}, ErrIs S w d v ls →
    (∃ k, 1 ≤ k ∧ k ≤ 18 ∧ v = errV S k ∧ ls = [([], k)]) ∨
      (∃ d', d' < d ∧ ∃ b wh u ls' t f, v = .iface 120 (.pointer (some ⟨b, 0, none⟩)) ∧ blk w b = some (.cells #[.string wh, u] t f) ∧ ErrIs S w d' u ls' ∧ ls = ls'.map (fun l => (wh :: l.1, l.2))) ∨
      (∃ d', d' < d ∧ ∃ (b : Nat) (a : Option Addr) (n c : Nat) (zs : List (Value × List Leaf)) (t : TypeId) (f : Nat × Nat), v = .iface 124 (.pointer (some ⟨b, 0, none⟩)) ∧ blk w b = some (.cells #[.slice a n c] t f) ∧ SlIs w a n 1 (zs.map (·.1)) ∧ zs ≠ [] ∧
        (∀ p ∈ zs, ErrIs S w d' p.1 p.2) ∧ ls = zs.flatMap (·.2))
  | 0, v, ls, h => .inl h
  | d + 1, v, ls, h => by
    rcases h with h | h | h
    · rcases h.cases with h | ⟨d', hd, h⟩ | ⟨d', hd, h⟩
      · exact .inl h
      · exact .inr (.inl ⟨d', by omega, h⟩)
      · exact .inr (.inr ⟨d', by omega, h⟩)
    · exact .inr (.inl ⟨d, by omega, h⟩)
    · exact .inr (.inr ⟨d, by omega, h⟩)
theorem ErrIs.one {S : Nat → Addr} {w : World} {d : Nat} {v : Value} {ls : List Leaf} (h : ErrIs S w d v ls) : ∃ t u, v = .iface t u := by
  rcases h.cases with ⟨k, _, _, rfl, _⟩ | ⟨d', _, b, wh, u, ls', t, f, rfl, _⟩ | ⟨d', _, b, a, n, c, zs, t, f, rfl, _⟩ <;> exact ⟨_, _, rfl⟩
/-- An error, or none. -/
def ErrO (S : Nat → Addr) (w : World) (d : Nat) (v : Value) (ls : List Leaf) : Prop := (v = .nilIface ∧ ls = []) ∨ ErrIs S w d v ls
theorem ErrO.same {S : Nat → Addr} {w w' : World} {d : Nat} {v : Value} {ls : List Leaf} (h : ErrO S w d v ls) (hm : Same w w') : ErrO S w' d v ls := h.imp id fun h => h.same hm
theorem ErrO.up {S : Nat → Addr} {w : World} {d d' : Nat} {v : Value} {ls : List Leaf} (h : ErrO S w d v ls) (hd : d ≤ d') : ErrO S w d' v ls := h.imp id fun h => h.up hd
theorem ErrO.nil_iff {S : Nat → Addr} {w : World} {d : Nat} {v : Value} {ls : List Leaf} (h : ErrO S w d v ls) : (ls = [] ∧ v = .nilIface) ∨ (ls ≠ [] ∧ ∃ t u, v = .iface t u) := by
  rcases h with ⟨h1, h2⟩ | h
  · exact .inl ⟨h2, h1⟩
  · exact .inr ⟨fun e => by have := h.pos; simp [e] at this, h.one⟩

theorem At_spec {S : Nat → Addr} {w : World} {d : Nat} {u : Value} {ls : List Leaf} (hu : ErrO S w d u ls) (wh : ByteArray) : Meets Tryd.prog 71 #[.string wh, u] w fun v w' => ErrO S w' (d + 1) v (ls.map fun l => (wh :: l.1, l.2)) ∧ Same w w' := by
  refine f71_ok ?_
  unfold f71
  rcases hu with ⟨rfl, rfl⟩ | hu
  · rw [keq_nil_nil ifErr]
    simp -dsimp
    exact ⟨.inl ⟨rfl, rfl⟩, Mod.refl _ _⟩
  · obtain ⟨t, x, rfl⟩ := hu.one
    rw [keq_if_nil ifErr]
    unfold f71_0
    simp -dsimp
    have hs : ∀ o, Same w (w.alloc o) := fun o => (Mod.refl _ _).alloc o
    exact ⟨.inr (.inr (.inl ⟨_, wh, _, ls, _, _, rfl, alloc_heap_new _ _, hu.same (hs _), rfl⟩)), hs _⟩
end Go.Proofs.YtcabkicjboedaaaDoor
end
section
namespace Go.Proofs.YtcabkicjboedaaaDoor
open Go Go.Ev
set_option linter.unusedVariables false
set_option linter.unusedSimpArgs false
set_option maxRecDepth 100000

theorem Mod.after {fp : Nat → Prop} {a b c : World} (h : Same a b) (k : Mod fp b c) (hf : ∀ b, fp b → a.heap.size ≤ b) : Same a c := h.trans' (k.mono fun i _ hi => .inr (hf i hi))
theorem vblk_new {B o n c b : Nat} (h : vblk (.slice (some ⟨B, o, none⟩) n c) b) : b = B := by
  obtain ⟨_, _, _, e⟩ := h; cases e; rfl
theorem same_alloc (w : World) (o : Obj) : Same w (w.alloc o) := (Mod.refl _ _).alloc o

theorem cloneE_spec {w : World} {a : Option Addr} {n c : Nat} {us : List Value} (hs : SlIs w a n 1 us) (h1 : oneCells us = true) (hn : us.length ≤ 1099511627776) :
    Meets Tryd.prog 89 #[.slice a n c] w fun v w' => Own w' v 1 us ∧ Same w w' ∧ (∀ b, vblk v b → w.heap.size ≤ b) := by
  refine f89_ok ?_
  unfold f89
  rw [keq_sl_nil slErr]
  simp -dsimp
  cases a with
  | none =>
    have : n = 0 := by rcases hs.2 with h | ⟨_, _, _, _, _, h, _⟩; exact h; cases h
    subst this
    have : us = [] := by simpa using hs.1
    subst this
    simp -dsimp
    exact ⟨Own.nil _ _, Mod.refl _ _, fun b hb => by obtain ⟨_, _, _, h⟩ := hb; cases h⟩
  | some a =>
    simp -dsimp
    unfold f89_0
    simp -dsimp
    refine ksem_append apErr (by omega) (vs := []) (Own.new (arr := #[]) (n := 0) (by simp) (by simp [maxLen])) (Src.ofSlIs (hk := (slT_of (P := Tryd.prog) (t := 125) (by kernel_rfl)).choose_spec) c (hs.same (same_alloc _ _)) h1) (by simpa using by omega) (by simpa using by omega) ?_
    intro v' w' ho hm hf
    refine ⟨by simpa using ho, Mod.after (same_alloc _ _) hm (fun b hb => by rw [vblk_new hb]; exact Nat.le_refl _), fun b hb => ?_⟩
    rcases hf b hb with h | h
    · rw [vblk_new h]; exact Nat.le_refl _
    · simp at h; omega

theorem cloneS_spec {w : World} {a : Option Addr} {n c : Nat} {us : List Value} (hs : SlIs w a n 1 us) (h1 : oneCells us = true) (hn : us.length ≤ 1099511627776) :
    Meets Tryd.prog 64 #[.slice a n c] w fun v w' => Own w' v 1 us ∧ Same w w' ∧ (∀ b, vblk v b → w.heap.size ≤ b) := by
  refine f64_ok ?_
  unfold f64
  rw [keq_sl_nil slStr]
  simp -dsimp
  cases a with
  | none =>
    have : n = 0 := by rcases hs.2 with h | ⟨_, _, _, _, _, h, _⟩; exact h; cases h
    subst this
    have : us = [] := by simpa using hs.1
    subst this
    simp -dsimp
    exact ⟨Own.nil _ _, Mod.refl _ _, fun b hb => by obtain ⟨_, _, _, h⟩ := hb; cases h⟩
  | some a =>
    simp -dsimp
    unfold f64_0
    simp -dsimp
    refine ksem_append apStr (by omega) (vs := []) (Own.new (arr := #[]) (n := 0) (by simp) (by simp [maxLen])) (Src.ofSlIs (hk := (slT_of (P := Tryd.prog) (t := 119) (by kernel_rfl)).choose_spec) c (hs.same (same_alloc _ _)) h1) (by simpa using by omega) (by simpa using by omega) ?_
    intro v' w' ho hm hf
    refine ⟨by simpa using ho, Mod.after (same_alloc _ _) hm (fun b hb => by rw [vblk_new hb]; exact Nat.le_refl _), fun b hb => ?_⟩
    rcases hf b hb with h | h
    · rw [vblk_new h]; exact Nat.le_refl _
    · simp at h; omega

theorem unwrapB_spec {w : World} {b : Nat} {wh u : Value} {t : TypeId} {f : Nat × Nat} (hb : blk w b = some (.cells #[wh, u] t f)) : Meets Tryd.prog 65 #[.pointer (some ⟨b, 0, none⟩)] w fun v w' => v = u ∧ w' = w := by
  refine f65_ok ?_
  unfold f65
  rw [keq_ptr_nil ptBla]
  simp -dsimp
  unfold f65_0
  simp -dsimp [hb]

theorem unwrapS_spec {w : World} {b : Nat} {t : TypeId} {f : Nat × Nat} {a : Option Addr} {n c : Nat} {us : List Value} (hb : blk w b = some (.cells #[.slice a n c] t f)) (hs : SlIs w a n 1 us) (h1 : oneCells us = true) (hn : us.length ≤ 1099511627776) :
    Meets Tryd.prog 66 #[.pointer (some ⟨b, 0, none⟩)] w fun v w' => Own w' v 1 us ∧ Same w w' ∧ (∀ b, vblk v b → w.heap.size ≤ b) := by
  refine f66_ok ?_
  unfold f66
  rw [keq_ptr_nil ptSev]
  simp -dsimp
  unfold f66_0
  simp -dsimp [hb]
  refine kcall_of (cloneE_spec hs h1 hn) ?_
  rintro v w' h
  simpa using h
end Go.Proofs.YtcabkicjboedaaaDoor
end
section
namespace Go.Proofs.YtcabkicjboedaaaDoor
open Go Go.Ev
set_option linter.unusedVariables false
set_option linter.unusedSimpArgs false
set_option maxRecDepth 100000

theorem SlIs.new {w : World} {t : TypeId} {arr : Array Value} {n sz : Nat} (h : arr.size = n * sz) : SlIs (w.alloc (.cells arr t)) (some ⟨w.heap.size, 0, none⟩) n sz arr.toList :=
  ⟨by simpa using h, .inr ⟨_, 0, arr, t, _, rfl, alloc_heap_new _ _, by rw [List.drop_zero, ← h, ← Array.length_toList, List.take_length]⟩⟩
theorem slErr_is : ∃ e, Tryd.prog.underlying 125 = some (.slice e) := slT_of (by kernel_rfl)
theorem slStr_is : ∃ e, Tryd.prog.underlying 119 = some (.slice e) := slT_of (by kernel_rfl)
theorem slLeaf_is : ∃ e, Tryd.prog.underlying 33 = some (.slice e) := slT_of (by kernel_rfl)
theorem errs_one {S : Nat → Addr} {w : World} {d : Nat} : ∀ {zs : List (Value × List Leaf)}, (∀ p ∈ zs, ErrIs S w d p.1 p.2) → oneCells (zs.map (·.1)) = true
  | [], _ => rfl
  | p :: zs, h => by
    obtain ⟨t, u, e⟩ := (h p (by simp)).one
    have := errs_one (zs := zs) fun q hq => h q (by simp [hq])
    simp [oneCells, e, Value.oneCell', this]
theorem errs_len {S : Nat → Addr} {w : World} {d : Nat} : ∀ {zs : List (Value × List Leaf)}, (∀ p ∈ zs, ErrIs S w d p.1 p.2) → zs.length ≤ (zs.flatMap (·.2)).length
  | [], _ => by simp
  | p :: zs, h => by
    have h1 := (h p (by simp)).pos
    have := errs_len (zs := zs) fun q hq => h q (by simp [hq])
    rw [List.flatMap_cons, List.length_append, List.length_cons]; omega
theorem i64_succ {i : Nat} (h : i < 4611686018427387904) : IntKind.i64.wrap ((i : Int) + 1) = ((i + 1 : Nat) : Int) := by rw [wrap_i64 (by omega) (by omega)]; simp

def FlatInv (S : Nat → Addr) (w0 w : World) (d : Nat) (zs : List (Value × List Leaf)) (x y : Value) (wr : World) : Prop := ∃ (i : Nat) (zs' : List (Value × List Leaf)), i ≤ zs.length ∧ y = .int .i64 i ∧ Own wr x 1 (zs'.map (·.1)) ∧ (∀ p ∈ zs', ErrIs S w0 d p.1 p.2) ∧ zs'.flatMap (·.2) = (zs.take i).flatMap (·.2) ∧ Same w wr ∧ ∀ b, vblk x b → w.heap.size ≤ b
theorem flat_spec {S : Nat → Addr} {w0 : World} (d : Nat) : ∀ (w : World) (zs : List (Value × List Leaf)) (a : Option Addr) (n c : Nat), Same w0 w → SlIs w a n 1 (zs.map (·.1)) → (∀ p ∈ zs, ErrO S w0 d p.1 p.2) →
    (zs.flatMap (·.2)).length ≤ 1099511627776 → zs.length ≤ 1099511627776 →
    Meets Tryd.prog 70 #[.slice a n c] w fun v w' => ∃ zs' : List (Value × List Leaf), Own w' v 1 (zs'.map (·.1)) ∧ (∀ p ∈ zs', ErrIs S w0 d p.1 p.2) ∧ zs'.flatMap (·.2) = zs.flatMap (·.2) ∧ Same w w' ∧ ∀ b, vblk v b → w.heap.size ≤ b := by
  induction d using Nat.strongRecOn with
  | ind d ih =>
  intro w zs a n c h0 hs hz hlen hlen2
  have hn : n = zs.length := by have := hs.1; simpa using this.symm
  subst hn
  refine f70_ok ?_
  unfold f70
  simp -dsimp
  refine kL_of (FlatInv S w0 w d zs)
    (fun _ y _ => zs.length - (RowKit.intOf y).toNat) ⟨⟨0, [], by omega, rfl, Own.nil _ _, by simp, by simp, Mod.refl _ _, fun b hb => by obtain ⟨_, _, _, h⟩ := hb; cases h⟩, ?_⟩
  rintro x y wr ⟨i, zs', hi, rfl, hown, hzs', hfl, hm, hf⟩
  unfold f70_0
  simp -dsimp
  refine kIf_dec (fun hlt => ?_) (fun hge => ?_)
  · have hlt : i < zs.length := by omega
    obtain ⟨b, o, c', t', f', rfl, hb, hcell⟩ := (hs.same hm).at1 hlt (by simpa using hlt)
    have hp := hz zs[i] (List.getElem_mem hlt)
    simp only [List.getElem_map] at hcell
    have htk : (zs.take (i + 1)).flatMap (·.2) = (zs.take i).flatMap (·.2) ++ zs[i].2 := by rw [List.take_succ_eq_append_getElem hlt, List.flatMap_append]; simp
    have hfle : ((zs.take (i + 1)).flatMap (·.2)).length ≤ 1099511627776 := by
      have : zs = zs.take (i + 1) ++ zs.drop (i + 1) := (List.take_append_drop _ _).symm
      rw [this, List.flatMap_append, List.length_append] at hlen
      omega
    rw [htk, List.length_append] at hfle
    have hl1 := errs_len hzs'
    rw [hfl] at hl1
    have hos : o + i < c'.size := (Array.getElem?_eq_some_iff.1 hcell).1
    have hadd := i64_succ (i := i) (by omega)
    generalize zs[i] = p at *
    obtain ⟨pv, pl⟩ := p
    simp only at hp hcell htk hfle
    unfold f70_1
    simp -dsimp [hlt, hb, hcell]
    rcases hp with ⟨rfl, rfl⟩ | hp
    · rw [keq_nil_nil ifErr]
      simp -dsimp
      unfold f70_2
      simp -dsimp [hadd]
      exact ⟨⟨i + 1, zs', by omega, rfl, hown, hzs', by rw [htk, hfl]; simp, hm, hf⟩, by simp [RowKit.intOf]; omega⟩
    · have hap : ∀ (x2 : Value) (w2 : World) (zq : List (Value × List Leaf)), Own w2 x2 1 ((zs' ++ zq).map (·.1)) → (∀ p ∈ zq, ErrIs S w0 d p.1 p.2) → zq.flatMap (·.2) = pl → Same w w2 → (∀ b, vblk x2 b → w.heap.size ≤ b) →
          FlatInv S w0 w d zs x2 (.int .i64 ((i + 1 : Nat) : Int)) w2 := by
        intro x2 w2 zq h1 h2 h3 h4 h5
        refine ⟨i + 1, zs' ++ zq, by omega, rfl, h1, fun p hp => ?_, ?_, h4, h5⟩
        · rcases List.mem_append.1 hp with hp | hp
          · exact hzs' p hp
          · exact h2 p hp
        · rw [List.flatMap_append, hfl, htk, h3]
      have plain : ∀ t u, pv = .iface t u → t ≠ 124 → ksem Tryd.prog (Builtin.append_ #[125, 125] 0 #[x, .slice (some ⟨wr.heap.size, 0, none⟩) 1 1]) (wr.alloc (.cells #[pv] 36)) fun v20 w21 =>
          f70_2 v20 (.slice (some ⟨b, o, none⟩) zs.length c) (.int .i64 zs.length) (.int .i64 i) (fun y2 y10 w2 => FlatInv S w0 w d zs y2 y10 w2 ∧ zs.length - (RowKit.intOf y10).toNat < zs.length - (RowKit.intOf (.int .i64 i)).toNat) (fun v w' => ∃ zs' : List (Value × List Leaf), Own w' v 1 (zs'.map (·.1)) ∧ (∀ p ∈ zs', ErrIs S w0 d p.1 p.2) ∧ zs'.flatMap (·.2) = zs.flatMap (·.2) ∧ Same w w' ∧ ∀ b, vblk v b → w.heap.size ≤ b) w21 := by
        intro t u e _
        refine ksem_append apErr (by omega) (hown.same (same_alloc _ _)) (Src.ofSlIs (hk := slErr_is.choose_spec) 1 (vs := [pv]) (SlIs.new (arr := #[pv]) (by simp)) (by simp [oneCells, e, Value.oneCell'])) (by simp; omega) (by simp; omega) ?_
        intro v' w' ho hm' hf'
        unfold f70_2
        simp -dsimp [hadd]
        have hsz : wr.heap.size ≤ (wr.alloc (.cells #[pv] 36)).heap.size := (same_alloc _ _).size
        refine ⟨hap v' w' [(pv, pl)] (by simpa using ho) (by simpa using hp) (by simp) (Mod.after (hm.trans (same_alloc _ _)) hm' hf) (fun b hb => ?_), by simp [RowKit.intOf]; omega⟩
        rcases hf' b hb with h | h
        · exact hf b h
        · exact Nat.le_trans hm.size (Nat.le_trans hsz h)
      rcases hp.cases with ⟨k, k1, k2, rfl, rfl⟩ | ⟨d', hd', b', wh, u, ls', t'', f'', rfl, hb', hu, rfl⟩ | ⟨d', hd', b', a', n', c'', zs2, t'', f'', rfl, hb', hs', hne, hz', rfl⟩
      · rw [errV, keq_if_nil ifErr]
        simp -dsimp
        rw [kta_other (by decide)]
        simp -dsimp
        exact plain _ _ rfl (by decide)
      · rw [keq_if_nil ifErr]
        simp -dsimp
        rw [kta_other (by decide)]
        simp -dsimp
        exact plain _ _ rfl (by decide)
      · rw [keq_if_nil ifErr]
        simp -dsimp
        have hl2 := errs_len hz'
        have hm0 : Same w0 wr := h0.trans hm
        refine kcall_of (unwrapS_spec (hm0.get hb' (fun h => h)) (hs'.same hm0) (errs_one hz') (by simp; omega)) ?_
        rintro v12 w13 ⟨ho, hm1, hf1⟩
        obtain ⟨a3, n3, c3, rfl, hs3, hn3⟩ := ho.is
        refine kcall_of (ih d' hd' w13 zs2 a3 n3 c3 (hm0.trans hm1) hs3 (fun p hp => .inr (hz' p hp)) (by omega) (by omega)) ?_
        rintro v14 w15 ⟨zq, ho2, hzq, hfl2, hm2, hf2⟩
        obtain ⟨a4, n4, c4, rfl, hs4, hn4⟩ := ho2.is
        have hl4 := errs_len hzq
        rw [hfl2] at hl4
        refine ksem_append apErr (by omega) (hown.same (hm1.trans hm2)) (Src.ofSlIs (hk := slErr_is.choose_spec) c4 hs4 (errs_one hzq)) (by simp; omega) (by simp; omega) ?_
        intro v' w' ho hm' hf'
        unfold f70_2
        simp -dsimp [hadd]
        refine ⟨hap v' w' zq (by simpa using ho) (fun p hp => (hzq p hp).up (by omega)) hfl2 (Mod.after (hm.trans (hm1.trans hm2)) hm' hf) (fun b hb => ?_), by simp [RowKit.intOf]; omega⟩
        rcases hf' b hb with h | h
        · exact hf b h
        · exact Nat.le_trans (hm.trans (hm1.trans hm2)).size h
  · have : i = zs.length := by omega
    subst this
    unfold f70_3
    exact ⟨zs', hown, hzs', by rw [hfl, List.take_length], hm, hf⟩

theorem All_spec {S : Nat → Addr} {w : World} {d : Nat} {zs : List (Value × List Leaf)} {a : Option Addr} {n c : Nat} (hs : SlIs w a n 1 (zs.map (·.1))) (hz : ∀ p ∈ zs, ErrO S w d p.1 p.2) (hlen : (zs.flatMap (·.2)).length ≤ 1099511627776) (hlen2 : zs.length ≤ 1099511627776) :
    Meets Tryd.prog 30 #[.slice a n c] w fun v w' => ErrO S w' (d + 1) v (zs.flatMap (·.2)) ∧ Same w w' := by
  refine f30_ok ?_
  unfold f30
  refine kcall_of (flat_spec (w0 := w) d w zs a n c (Mod.refl _ _) hs hz hlen hlen2) ?_
  rintro v w' ⟨zs', ho, hz', hfl, hm, hf⟩
  obtain ⟨a1, n1, c1, rfl, hs1, hn1⟩ := ho.is
  have hn1 : n1 = zs'.length := by rw [hn1 rfl, List.length_map]
  subst hn1
  simp -dsimp
  refine kIf_dec (fun h => ?_) (fun h => ?_)
  · have : zs' = [] := by simpa using h
    subst this
    exact ⟨.inl ⟨rfl, by rw [← hfl]; rfl⟩, hm⟩
  · simp -dsimp
    refine kIf_dec (fun h1 => ?_) (fun h1 => ?_)
    · obtain ⟨p, rfl⟩ : ∃ p, zs' = [p] := List.length_eq_one_iff.1 (by omega)
      obtain ⟨b, o, c', t', f', rfl, hb, hcell⟩ := hs1.at1 (i := 0) (by simp) (by simp)
      simp at hcell
      simp -dsimp [hb, hcell]
      have := hz' p (by simp)
      rw [← hfl]
      have e : [p].flatMap (·.2) = p.2 := by simp
      rw [e]
      exact ⟨.inr ((this.same hm).up (by omega)), hm⟩
    · unfold f30_0
      simp -dsimp
      have hs' : ∀ o, Same w' (w'.alloc o) := fun o => same_alloc _ _
      refine ⟨.inr (.inr (.inr ⟨_, a1, _, c1, zs', _, _, rfl, alloc_heap_new _ _, hs1.same (hs' _), fun e => h (by simp [e]), fun p hp => (hz' p hp).same (hm.trans (hs' _)), hfl.symm⟩)), hm.trans (hs' _)⟩
end Go.Proofs.YtcabkicjboedaaaDoor
end
section
namespace Go.Proofs.YtcabkicjboedaaaDoor
open Go Go.Ev
set_option linter.unusedVariables false
set_option linter.unusedSimpArgs false
set_option maxRecDepth 100000

/-- Ways that can be joined. -/
def joinOk (ways : List ByteArray) : Prop := ways.length ≤ 1
theorem Join_spec {w : World} {a : Option Addr} {n c : Nat} {ways : List ByteArray} (hs : SlIs w a n 1 (ways.map .string)) (hk : joinOk ways) :
    Meets Tryd.prog 67 #[.slice a n c, .string ⟨#[47]⟩] w fun v w' => v = .string (joinP ways) ∧ Same w w' := by
  have hn : n = ways.length := by have := hs.1; simpa using this.symm
  subst hn
  refine f67_ok ?_
  unfold f67
  match ways, hs, hk with
  | [], hs, hk => simp -dsimp; exact ⟨rfl, Mod.refl _ _⟩
  | [x], hs, hk =>
    obtain ⟨b, o, c', t', f', rfl, hb, hcell⟩ := hs.at1 (i := 0) (by simp) (by simp)
    simp at hcell
    simp -dsimp [hb, hcell]
    exact ⟨rfl, Mod.refl _ _⟩
  | x :: y :: r, hs, hk => simp [joinOk] at hk

def leafCells (ways : List ByteArray) (ls : List Leaf) : List Value := ls.flatMap fun l => [.string (joinP (ways ++ l.1)), .int .i64 l.2]
theorem leafCells_len (ways : List ByteArray) (ls : List Leaf) : (leafCells ways ls).length = ls.length * 2 := flat_len _ 2 (fun _ => rfl) ls
theorem leafCells_append (ways : List ByteArray) (a b : List Leaf) : leafCells ways (a ++ b) = leafCells ways a ++ leafCells ways b := by simp [leafCells]
theorem leafCells_map (ways : List ByteArray) (wh : ByteArray) (ls : List Leaf) : leafCells ways (ls.map fun l => (wh :: l.1, l.2)) = leafCells (ways ++ [wh]) ls := by
  simp [leafCells, List.flatMap_map]
theorem leafCells_one (ways : List ByteArray) : ∀ ls : List Leaf, oneCells (leafCells ways ls) = true
  | [] => rfl
  | l :: ls => by
    have := leafCells_one ways ls
    rw [leafCells] at this ⊢
    rw [List.flatMap_cons]
    simpa [oneCells, Value.oneCell'] using this
theorem strs_one : ∀ ws : List ByteArray, oneCells (ws.map Value.string) = true
  | [] => rfl
  | x :: ws => by have := strs_one ws; simpa [oneCells, Value.oneCell'] using this
def WalkInv (w : World) (ways : List ByteArray) (zs : List (Value × List Leaf)) (x y : Value) (wr : World) : Prop :=
  ∃ i : Nat, i ≤ zs.length ∧ y = .int .i64 i ∧ Own wr x 2 (leafCells ways ((zs.take i).flatMap (·.2))) ∧ Same w wr ∧ ∀ b, vblk x b → w.heap.size ≤ b

set_option maxHeartbeats 4000000 in
theorem walk_spec {S : Nat → Addr} (d : Nat) : ∀ (w : World) (ways : List ByteArray) (a : Option Addr) (n c : Nat) (v : Value) (ls : List Leaf), LaidE S w → SlIs w a n 1 (ways.map .string) → ErrO S w d v ls → (∀ l ∈ ls, joinOk (ways ++ l.1)) →
    ls.length ≤ 1073741824 → ways.length + d ≤ 1073741824 →
    Meets Tryd.prog 28 #[.slice a n c, v] w fun v' w' => Own w' v' 2 (leafCells ways ls) ∧ Same w w' ∧ ∀ b, vblk v' b → w.heap.size ≤ b := by
  induction d using Nat.strongRecOn with
  | ind d ih =>
  intro w ways a n c v ls hL hs hv hj hlen hlen2
  refine f28_ok ?_
  unfold f28
  rcases hv with ⟨rfl, rfl⟩ | hv
  · rw [keq_nil_nil ifErr]
    simp -dsimp
    exact ⟨Own.nil _ _, Mod.refl _ _, fun b hb => by obtain ⟨_, _, _, h⟩ := hb; cases h⟩
  rcases hv.cases with ⟨k, k1, k2, rfl, rfl⟩ | ⟨d', hd', b', wh, u, ls', t'', f'', rfl, hb', hu, rfl⟩ | ⟨d', hd', b', a', n', c'', zs, t'', f'', rfl, hb', hs', hne, hz', rfl⟩
  · rw [errV, keq_if_nil ifErr]
    simp -dsimp
    rw [kta_other (by decide)]
    simp -dsimp
    rw [kta_other (by decide)]
    simp -dsimp
    unfold f28_4
    refine kcall_of (Join_spec hs (by simpa using hj ([], k) (by simp))) ?_
    rintro v w' ⟨rfl, hm⟩
    refine kcall_of (Number_spec (hL.same hm) k k1 k2) ?_
    rintro v w' ⟨rfl, rfl⟩
    simp -dsimp
    refine ⟨?_, hm.trans (same_alloc _ _), fun b hb => by rw [vblk_new hb]; exact hm.size⟩
    have : leafCells ways [([], k)] = [.string (joinP ways), .int .i64 k] := by simp [leafCells]
    rw [this]
    exact Own.new (arr := #[.string (joinP ways), .int .i64 k]) (by simp) (by simp [maxLen])
  · rw [keq_if_nil ifErr]
    simp -dsimp
    have hl : ways.length ≤ 1099511627776 := by omega
    have hd0 : Same w w.drew := (Mod.refl _ _).drew
    refine ⟨?_, ?_⟩
    · refine kcall_of (cloneS_spec (hs.same hd0) (strs_one ways) (by simpa using hl)) ?_
      rintro v6 w7 ⟨ho, hm, hf⟩
      have hm : Same w w7 := hd0.trans hm
      simp -dsimp [hm.get hb' (fun h => h), hb']
      refine ksem_append apStr (by omega) (ho.same (same_alloc _ _)) (Src.ofSlIs (hk := slStr_is.choose_spec) 1 (vs := [.string wh]) (SlIs.new (arr := #[.string wh]) (by simp)) rfl) (by simp; omega) (by simp; omega) ?_
      intro v12 w13 ho1 hm1 hf1
      have hm2 : Same w w13 := Mod.after (hm.trans (same_alloc _ _)) hm1 (fun b hb => hf b hb)
      refine kcall_of (unwrapB_spec (hm2.get hb' (fun h => h))) ?_
      rintro v w' ⟨rfl, rfl⟩
      obtain ⟨a4, n4, c4, rfl, hs4, hn4⟩ := ho1.is
      refine kcall_of (ih d' hd' _ (ways ++ [wh]) a4 n4 c4 _ ls' (hL.same hm2) (by simpa using hs4) (.inr (hu.same hm2)) (fun l hl => by have := hj (wh :: l.1, l.2) (List.mem_map.2 ⟨l, hl, rfl⟩); simpa using this) (by simpa using hlen) (by simp; omega)) ?_
      rintro v w' ⟨ho5, hm5, hf5⟩
      exact ⟨by rw [leafCells_map]; exact ho5, hm2.trans hm5, fun b hb => Nat.le_trans hm2.size (hf5 b hb)⟩
    · simp -dsimp [hb']
      refine kcall_of (cloneS_spec (hs.same (hd0.trans (same_alloc _ _))) (strs_one ways) (by simpa using hl)) ?_
      rintro v6 w7 ⟨ho, hm, hf⟩
      have hsn := (SlIs.new (w := w.drew) (t := 9) (arr := #[.string wh]) (n := 1) (sz := 1) (by simp)).same hm
      have hm : Same w w7 := (hd0.trans (same_alloc _ _)).trans hm
      have hsz : w.heap.size ≤ (w.drew.alloc (.cells #[.string wh] 9)).heap.size := (hd0.trans (same_alloc _ _)).size
      simp -dsimp [hm.get hb' (fun h => h)]
      refine ksem_append apStr (by omega) ho (Src.ofSlIs (hk := slStr_is.choose_spec) 1 (vs := [.string wh]) hsn rfl) (by simp; omega) (by simp; omega) ?_
      intro v12 w13 ho1 hm1 hf1
      have hm2 : Same w w13 := Mod.after hm hm1 (fun b hb => Nat.le_trans hsz (hf b hb))
      refine kcall_of (unwrapB_spec (hm2.get hb' (fun h => h))) ?_
      rintro v w' ⟨rfl, rfl⟩
      obtain ⟨a4, n4, c4, rfl, hs4, hn4⟩ := ho1.is
      refine kcall_of (ih d' hd' _ (ways ++ [wh]) a4 n4 c4 _ ls' (hL.same hm2) (by simpa using hs4) (.inr (hu.same hm2)) (fun l hl => by have := hj (wh :: l.1, l.2) (List.mem_map.2 ⟨l, hl, rfl⟩); simpa using this) (by simpa using hlen) (by simp; omega)) ?_
      rintro v w' ⟨ho5, hm5, hf5⟩
      exact ⟨by rw [leafCells_map]; exact ho5, hm2.trans hm5, fun b hb => Nat.le_trans hm2.size (hf5 b hb)⟩
  · rw [keq_if_nil ifErr]
    simp -dsimp
    rw [kta_other (by decide)]
    simp -dsimp
    have hl2 := errs_len hz'
    refine kcall_of (unwrapS_spec hb' hs' (errs_one hz') (by simp; omega)) ?_
    rintro v12 w13 ⟨ho, hm1, hf1⟩
    obtain ⟨a3, n3, c3, rfl, hs3, hn3⟩ := ho.is
    have hn3 : n3 = zs.length := by rw [hn3 rfl, List.length_map]
    subst hn3
    simp -dsimp
    refine kL_of (WalkInv w13 ways zs) (fun _ y _ => zs.length - (RowKit.intOf y).toNat) ⟨⟨0, by omega, rfl, Own.nil _ _, Mod.refl _ _, fun b hb => by obtain ⟨_, _, _, h⟩ := hb; cases h⟩, ?_⟩
    rintro x y wr ⟨i, hi, rfl, hown, hm, hf⟩
    unfold f28_0
    simp -dsimp
    refine kIf_dec (fun hlt => ?_) (fun hge => ?_)
    · have hlt : i < zs.length := by omega
      obtain ⟨b, o, c', t', f', rfl, hb, hcell⟩ := (hs3.same hm).at1 hlt (by simpa using hlt)
      simp only [List.getElem_map] at hcell
      have htk : (zs.take (i + 1)).flatMap (·.2) = (zs.take i).flatMap (·.2) ++ zs[i].2 := by rw [List.take_succ_eq_append_getElem hlt, List.flatMap_append]; simp
      have hmem : zs[i] ∈ zs := List.getElem_mem hlt
      have hcat : zs.flatMap (·.2) = (zs.take (i + 1)).flatMap (·.2) ++ (zs.drop (i + 1)).flatMap (·.2) := by rw [← List.flatMap_append, List.take_append_drop]
      have hp := hz' zs[i] hmem
      have hjp : ∀ l ∈ zs[i].2, joinOk (ways ++ l.1) := fun l hl => hj l (List.mem_flatMap.2 ⟨_, hmem, hl⟩)
      have hos : o + i < c'.size := (Array.getElem?_eq_some_iff.1 hcell).1
      have hadd := i64_succ (i := i) (by omega)
      have hfle : ((zs.take i).flatMap (·.2)).length + zs[i].2.length ≤ 1073741824 := by
        rw [hcat, htk, List.length_append, List.length_append] at hlen; omega
      generalize zs[i] = p at *
      obtain ⟨pv, pl⟩ := p
      simp only at hp hcell htk hfle hjp
      unfold f28_1
      simp -dsimp [hlt, hb, hcell]
      have hm' : Same w wr := hm1.trans hm
      refine kcall_of (ih d' hd' wr ways a n c pv pl (hL.same hm') (hs.same hm') (.inr (hp.same hm')) hjp (by omega) (by omega)) ?_
      rintro v w' ⟨ho5, hm5, hf5⟩
      obtain ⟨a5, n5, c5, rfl, hs5, _⟩ := ho5.is
      refine ksem_append apLeaf (by omega) (hown.same hm5) (Src.ofSlIs (hk := slLeaf_is.choose_spec) c5 hs5 (leafCells_one _ _)) (by simp only [leafCells_len]; omega) (by simp only [leafCells_len]; omega) ?_
      intro v12 w14 ho6 hm6 hf6
      unfold f28_2
      simp -dsimp [hadd]
      refine ⟨⟨i + 1, by omega, rfl, by rw [htk, leafCells_append]; exact ho6, Mod.after (hm.trans hm5) hm6 hf, fun b hb => ?_⟩, by simp [RowKit.intOf]; omega⟩
      rcases hf6 b hb with h | h
      · exact hf b h
      · exact Nat.le_trans (hm.trans hm5).size h
    · have : i = zs.length := by omega
      subst this
      unfold f28_3
      rw [List.take_length] at hown
      exact ⟨hown, hm1.trans hm, fun b hb => Nat.le_trans hm1.size (hf b hb)⟩

theorem Leaves_spec {S : Nat → Addr} {w : World} {d : Nat} {v : Value} {ls : List Leaf} (hL : LaidE S w) (hv : ErrO S w d v ls) (hj : ∀ l ∈ ls, joinOk l.1) (hlen : ls.length ≤ 1073741824) (hd : d ≤ 1073741824) :
    Meets Tryd.prog 9 #[v] w fun v' w' => Own w' v' 2 (leafCells [] ls) ∧ Same w w' ∧ ∀ b, vblk v' b → w.heap.size ≤ b := by
  refine f9_ok ?_
  unfold f9
  refine kcall_of (walk_spec d w [] none 0 0 v ls hL (SlIs.nil _ _ _) hv (by simpa using hj) hlen (by simpa using hd)) ?_
  rintro v w' h
  exact h
end Go.Proofs.YtcabkicjboedaaaDoor
end
section
namespace Go.Proofs.YtcabkicjboedaaaDoor
open Go Go.Ev
set_option linter.unusedVariables false
set_option maxRecDepth 100000

/-! pasodoble/schema.bit -/
def f72_1 (x0 : Value) (Q : Value → World → Prop) (w : World) : Prop :=
  kint .u32 .shl (.int .u32 1) x0 fun v4 =>
  Q v4 w

def f72_0 (x0 : Value) (x8 : Value) (Q : Value → World → Prop) (w : World) : Prop :=
  kB x8 fun b5 => kIf b5
  (Q (.int .u32 0) w)
  (f72_1 x0 Q w)

def f72 (x0 : Value) (Q : Value → World → Prop) (w : World) : Prop :=
  kint .i64 .lss x0 (.int .i64 0) fun v1 =>
  kB v1 fun b2 => kIf (!b2)
  (kint .i64 .geq x0 (.int .i64 32) fun v3 =>
  f72_0 x0 v3 Q w)
  (f72_0 x0 (.bool true) Q w)

theorem f72_eq (x0 : Value) (Q : Value → World → Prop) (w : World) : f72 x0 Q w = fnVC Tryd.prog Tryd.f72 [] (Tryd.f72.body.get rfl) [x0] w Q := by kernel_rfl
theorem f72_ok {x0 : Value} {Q : Value → World → Prop} {w : World} (h : f72 x0 Q w) : Meets Tryd.prog 72 #[x0] w Q :=
  sound (c := (Tryd.f72.body.get rfl)) [] Tryd.func72 rfl rfl (args := [x0]) rfl (Eq.mp (f72_eq x0 Q w) h)

/-! pasodoble/schema.With -/
def f32 (x0 : Value) (x1 : Value) (Q : Value → World → Prop) (w : World) : Prop :=
  kcall Tryd.prog 72 #[x1] w fun v1 w2 =>
  kint .u32 .or x0 v1 fun v3 =>
  Q v3 w2

theorem f32_eq (x0 : Value) (x1 : Value) (Q : Value → World → Prop) (w : World) : f32 x0 x1 Q w = fnVC Tryd.prog Tryd.f32 [] (Tryd.f32.body.get rfl) [x0, x1] w Q := by kernel_rfl
theorem f32_ok {x0 : Value} {x1 : Value} {Q : Value → World → Prop} {w : World} (h : f32 x0 x1 Q w) : Meets Tryd.prog 32 #[x0, x1] w Q :=
  sound (c := (Tryd.f32.body.get rfl)) [] Tryd.func32 rfl rfl (args := [x0, x1]) rfl (Eq.mp (f32_eq x0 x1 Q w) h)

/-! pasodoble/schema.Within -/
def f34 (x0 : Value) (x1 : Value) (Q : Value → World → Prop) (w : World) : Prop :=
  kint .u32 .andNot x0 x1 fun v1 =>
  kint .u32 .eql v1 (.int .u32 0) fun v2 =>
  Q v2 w

theorem f34_eq (x0 : Value) (x1 : Value) (Q : Value → World → Prop) (w : World) : f34 x0 x1 Q w = fnVC Tryd.prog Tryd.f34 [] (Tryd.f34.body.get rfl) [x0, x1] w Q := by kernel_rfl
theorem f34_ok {x0 : Value} {x1 : Value} {Q : Value → World → Prop} {w : World} (h : f34 x0 x1 Q w) : Meets Tryd.prog 34 #[x0, x1] w Q :=
  sound (c := (Tryd.f34.body.get rfl)) [] Tryd.func34 rfl rfl (args := [x0, x1]) rfl (Eq.mp (f34_eq x0 x1 Q w) h)

/-! pasodoble/schema.Rollback -/
def f29 (x0 : Value) (Q : Value → World → Prop) (w : World) : Prop :=
  knew (Value.cells x0) 25 w fun v1 w2 =>
  kldN 2 v1 w2 fun v3 =>
  kcall Tryd.prog 69 #[v3, (.bool true)] w2 fun v4 w5 =>
  Q v4 w5

theorem f29_eq (x0 : Value) (Q : Value → World → Prop) (w : World) : f29 x0 Q w = fnVC Tryd.prog Tryd.f29 [] (Tryd.f29.body.get rfl) [x0] w Q := by kernel_rfl
theorem f29_ok {x0 : Value} {Q : Value → World → Prop} {w : World} (h : f29 x0 Q w) : Meets Tryd.prog 29 #[x0] w Q :=
  sound (c := (Tryd.f29.body.get rfl)) [] Tryd.func29 rfl rfl (args := [x0]) rfl (Eq.mp (f29_eq x0 Q w) h)

/-! pasodoble/query.since -/
def f33 (x0 : Value) (Q : Value → World → Prop) (w : World) : Prop :=
  kmm .i64 true x0 (.int .i64 (-4611686018427387904)) fun v1 =>
  kint .i64 .sub v1 (.int .i64 1) fun v3 =>
  Q v3 w

theorem f33_eq (x0 : Value) (Q : Value → World → Prop) (w : World) : f33 x0 Q w = fnVC Tryd.prog Tryd.f33 [] (Tryd.f33.body.get rfl) [x0] w Q := by kernel_rfl
theorem f33_ok {x0 : Value} {Q : Value → World → Prop} {w : World} (h : f33 x0 Q w) : Meets Tryd.prog 33 #[x0] w Q :=
  sound (c := (Tryd.f33.body.get rfl)) [] Tryd.func33 rfl rfl (args := [x0]) rfl (Eq.mp (f33_eq x0 Q w) h)

/-! pasodoble/query.within -/
def f31_0 (x0 : Value) (x1 : Value) (Q : Value → World → Prop) (w : World) : Prop :=
  kcall Tryd.prog 71 #[x0, x1] w fun v3 w4 =>
  Q v3 w4

def f31 (x0 : Value) (x1 : Value) (x2 : Value) (x3 : Value) (Q : Value → World → Prop) (w : World) : Prop :=
  kcall Tryd.prog 34 #[x2, x3] w fun v1 w2 =>
  kB v1 fun b5 => kIf b5
  (Q .nilIface w2)
  (f31_0 x0 x1 Q w2)

theorem f31_eq (x0 : Value) (x1 : Value) (x2 : Value) (x3 : Value) (Q : Value → World → Prop) (w : World) : f31 x0 x1 x2 x3 Q w = fnVC Tryd.prog Tryd.f31 [] (Tryd.f31.body.get rfl) [x0, x1, x2, x3] w Q := by kernel_rfl
theorem f31_ok {x0 : Value} {x1 : Value} {x2 : Value} {x3 : Value} {Q : Value → World → Prop} {w : World} (h : f31 x0 x1 x2 x3 Q w) : Meets Tryd.prog 31 #[x0, x1, x2, x3] w Q :=
  sound (c := (Tryd.f31.body.get rfl)) [] Tryd.func31 rfl rfl (args := [x0, x1, x2, x3]) rfl (Eq.mp (f31_eq x0 x1 x2 x3 Q w) h)

/-! pasodoble/query.Check -/
def f10 (x0 : Value) (x1 : Value) (Q : Value → World → Prop) (w : World) : Prop :=
  knew (Value.cells x0) 25 w fun v1 w2 =>
  knew (Value.cells x1) 29 w2 fun v3 w4 =>
  kldN 2 v1 w4 fun v5 =>
  kcall Tryd.prog 29 #[v5] w4 fun v6 w7 =>
  kld (.pointer (some ⟨1, 0, none⟩)) w7.drew fun v8 =>
  kG (w7.drew = w7.drew) <|
  kfld 0 v3 fun v9 =>
  kld v9 w7.drew fun v10 =>
  kG (w7.drew = w7.drew) <|
  kcall Tryd.prog 31 #[(.string ⟨#[119, 105, 116, 104]⟩), v8, v10, v6] w7.drew fun v11 w12 =>
  kld (.pointer (some ⟨1, 0, none⟩)) w12 fun v13 =>
  kG (w12 = w12) <|
  kG (kld (.pointer (some ⟨1, 0, none⟩)) w7.drew fun v68 =>
  v68 = v13 ∧ w7.drew = w7.drew) <|
  kfld 1 v3 fun v14 =>
  kld v14 w12 fun v15 =>
  kG (w12 = w12) <|
  kG (kld v14 w7.drew fun v67 =>
  v67 = v15 ∧ w7.drew = w7.drew) <|
  kcall Tryd.prog 31 #[(.string ⟨#[119, 105, 116, 104, 111, 117, 116]⟩), v13, v15, v6] w12 fun v16 w17 =>
  kld (.pointer (some ⟨1, 0, none⟩)) w17 fun v18 =>
  kG (w17 = w17) <|
  kG (kld (.pointer (some ⟨1, 0, none⟩)) w12 fun v66 =>
  v66 = v18 ∧ w12 = w12) <|
  kG (kld (.pointer (some ⟨1, 0, none⟩)) w7.drew fun v65 =>
  v65 = v18 ∧ w7.drew = w7.drew) <|
  kfld 2 v3 fun v19 =>
  kld v19 w17 fun v20 =>
  kG (w17 = w17) <|
  kG (kld v19 w12 fun v64 =>
  v64 = v20 ∧ w12 = w12) <|
  kG (kld v19 w7.drew fun v63 =>
  v63 = v20 ∧ w7.drew = w7.drew) <|
  kcall Tryd.prog 31 #[(.string ⟨#[99, 104, 97, 110, 103, 101, 100]⟩), v18, v20, v6] w17 fun v21 w22 =>
  kld (.pointer (some ⟨2, 0, none⟩)) w22 fun v23 =>
  kG (w22 = w22) <|
  kG (kld (.pointer (some ⟨2, 0, none⟩)) w17 fun v62 =>
  v62 = v23 ∧ w17 = w17) <|
  kG (kld (.pointer (some ⟨2, 0, none⟩)) w12 fun v61 =>
  v61 = v23 ∧ w12 = w12) <|
  kG (kld (.pointer (some ⟨2, 0, none⟩)) w7.drew fun v60 =>
  v60 = v23 ∧ w7.drew = w7.drew) <|
  kfld 0 v3 fun v24 =>
  kld v24 w22 fun v25 =>
  kG (w22 = w22) <|
  kG (kld v24 w17 fun v59 =>
  v59 = v25 ∧ w17 = w17) <|
  kG (kld v24 w12 fun v58 =>
  v58 = v25 ∧ w12 = w12) <|
  kG (kld v24 w7.drew fun v57 =>
  v57 = v25 ∧ w7.drew = w7.drew) <|
  kfld 1 v3 fun v26 =>
  kld v26 w22 fun v27 =>
  kG (w22 = w22) <|
  kG (kld v26 w17 fun v56 =>
  v56 = v27 ∧ w17 = w17) <|
  kG (kld v26 w12 fun v55 =>
  v55 = v27 ∧ w12 = w12) <|
  kG (kld v26 w7.drew fun v54 =>
  v54 = v27 ∧ w7.drew = w7.drew) <|
  kint .u32 .and v25 v27 fun v28 =>
  kcall Tryd.prog 31 #[(.string ⟨#[119, 105, 116, 104, 111, 117, 116]⟩), v23, v28, (.int .u32 0)] w22 fun v29 w30 =>
  kld (.pointer (some ⟨3, 0, none⟩)) w30 fun v31 =>
  kG (w30 = w30) <|
  kG (kld (.pointer (some ⟨3, 0, none⟩)) w22 fun v53 =>
  v53 = v31 ∧ w22 = w22) <|
  kG (kld (.pointer (some ⟨3, 0, none⟩)) w17 fun v52 =>
  v52 = v31 ∧ w17 = w17) <|
  kG (kld (.pointer (some ⟨3, 0, none⟩)) w12 fun v51 =>
  v51 = v31 ∧ w12 = w12) <|
  kG (kld (.pointer (some ⟨3, 0, none⟩)) w7.drew fun v50 =>
  v50 = v31 ∧ w7.drew = w7.drew) <|
  kfld 2 v3 fun v32 =>
  kld v32 w30 fun v33 =>
  kG (w30 = w30) <|
  kG (kld v32 w22 fun v49 =>
  v49 = v33 ∧ w22 = w22) <|
  kG (kld v32 w17 fun v48 =>
  v48 = v33 ∧ w17 = w17) <|
  kG (kld v32 w12 fun v47 =>
  v47 = v33 ∧ w12 = w12) <|
  kG (kld v32 w7.drew fun v46 =>
  v46 = v33 ∧ w7.drew = w7.drew) <|
  kfld 0 v3 fun v34 =>
  kld v34 w30 fun v35 =>
  kG (w30 = w30) <|
  kG (kld v34 w22 fun v45 =>
  v45 = v35 ∧ w22 = w22) <|
  kG (kld v34 w17 fun v44 =>
  v44 = v35 ∧ w17 = w17) <|
  kG (kld v34 w12 fun v43 =>
  v43 = v35 ∧ w12 = w12) <|
  kG (kld v34 w7.drew fun v42 =>
  v42 = v35 ∧ w7.drew = w7.drew) <|
  kcall Tryd.prog 31 #[(.string ⟨#[99, 104, 97, 110, 103, 101, 100]⟩), v31, v33, v35] w30 fun v36 w37 =>
  kbldS [.nilIface] 5 [(0, 1, v11), (1, 1, v16), (2, 1, v21), (3, 1, v29), (4, 1, v36)] 36 w37 fun v38 w39 =>
  kcall Tryd.prog 30 #[v38] w39 fun v40 w41 =>
  Q v40 w41

theorem f10_eq (x0 : Value) (x1 : Value) (Q : Value → World → Prop) (w : World) : f10 x0 x1 Q w = fnVC Tryd.prog Tryd.f10 [] (Tryd.f10.body.get rfl) [x0, x1] w Q := by kernel_rfl
theorem f10_ok {x0 : Value} {x1 : Value} {Q : Value → World → Prop} {w : World} (h : f10 x0 x1 Q w) : Meets Tryd.prog 10 #[x0, x1] w Q :=
  sound (c := (Tryd.f10.body.get rfl)) [] Tryd.func10 rfl rfl (args := [x0, x1]) rfl (Eq.mp (f10_eq x0 x1 Q w) h)

/-! pasodoble/query.Means -/
def f12_2 (x1 : Value) (x3 : Value) (x7 : Value) (x8 : Value) (x11 : Value) (x12 : Value) (x13 : Value) (J3 : Value → Value → Value → World → Prop) (Q : Value → World → Prop) (w : World) : Prop :=
  kint .i64 .add x13 (.int .i64 1) fun v24 =>
  J3 x7 x8 v24 w

def f12_1 (x1 : Value) (x3 : Value) (x7 : Value) (x8 : Value) (x11 : Value) (x12 : Value) (x13 : Value) (J3 : Value → Value → Value → World → Prop) (Q : Value → World → Prop) (w : World) : Prop :=
  kix (some (.slice 73)) (some 6) x11 x13 fun v6 =>
  kldN 6 v6 w fun v7 =>
  knew #[(.int .i64 0), (.int .i64 0), (.int .i64 0), (.int .i64 0), (.int .i64 0), (.int .i64 0)] 73 w fun v8 w9 =>
  kst 6 v8 v7 w9 fun w10 =>
  kfld 0 v8 fun v11 =>
  kld v11 w10 fun v12 =>
  kcall Tryd.prog 32 #[x7, v12] w10 fun v13 w14 =>
  kfld 5 v8 fun v15 =>
  kld v15 w14.drew fun v16 =>
  kG (w14.drew = w14.drew) <|
  kcall Tryd.prog 33 #[x1] w14.drew fun v17 w18 =>
  kG (kld v15 w18 fun v26 =>
  v26 = v16 ∧ w18 = w18) <|
  kint .i64 .geq v16 v17 fun v19 =>
  kB v19 fun b25 => kIf b25
  (kfld 0 v8 fun v20 =>
  kld v20 w18 fun v21 =>
  kcall Tryd.prog 32 #[x8, v21] w18 fun v22 w23 =>
  f12_2 x1 x3 v13 v22 x11 x12 x13 J3 Q w23)
  (f12_2 x1 x3 v13 x8 x11 x12 x13 J3 Q w18)

def f12_3 (x3 : Value) (x7 : Value) (x8 : Value) (Q : Value → World → Prop) (w : World) : Prop :=
  kfld 0 x3 fun v27 =>
  kld v27 w fun v28 =>
  kcall Tryd.prog 34 #[v28, x7] w fun v29 w30 =>
  kB v29 fun b31 => kIf b31
  (kfld 1 x3 fun v32 =>
  kld v32 w30 fun v33 =>
  kint .u32 .and x7 v33 fun v34 =>
  kint .u32 .eql v34 (.int .u32 0) fun v35 =>
  kB v35 fun b36 => kIf b36
  (kfld 2 x3 fun v37 =>
  kld v37 w30 fun v38 =>
  kcall Tryd.prog 34 #[v38, x8] w30 fun v39 w40 =>
  Q v39 w40)
  (Q (.bool false) w30))
  (Q (.bool false) w30)

def f12_0 (x7 : Value) (x8 : Value) (x13 : Value) (x1 : Value) (x3 : Value) (x11 : Value) (x12 : Value) (J3 : Value → Value → Value → World → Prop) (Q : Value → World → Prop) (w : World) : Prop :=
  kint .i64 .lss x13 x12 fun v5 =>
  kB v5 fun b41 => kIf b41
  (f12_1 x1 x3 x7 x8 x11 x12 x13 J3 Q w)
  (f12_3 x3 x7 x8 Q w)

def f12 (x0 : Value) (x1 : Value) (x2 : Value) (Q : Value → World → Prop) (w : World) : Prop :=
  knew (Value.cells x0) 29 w fun v1 w2 =>
  klen x2 fun v3 =>
  kL fun (I : Value → Value → Value → World → Prop) (μ : Value → Value → Value → World → Nat) => I (.int .u32 0) (.int .u32 0) (.int .i64 0) w2 ∧ ∀ (x7 x8 x13 : Value) (w1 : World), I x7 x8 x13 w1 →
  f12_0 x7 x8 x13 x1 v1 x2 v3 (fun y7 y8 y13 w2 => I y7 y8 y13 w2 ∧ μ y7 y8 y13 w2 < μ x7 x8 x13 w1) Q w1

theorem f12_eq (x0 : Value) (x1 : Value) (x2 : Value) (Q : Value → World → Prop) (w : World) : f12 x0 x1 x2 Q w = fnVC Tryd.prog Tryd.f12 [(3, [7, 8, 13])] (Tryd.f12.body.get rfl) [x0, x1, x2] w Q := by kernel_rfl
theorem f12_ok {x0 : Value} {x1 : Value} {x2 : Value} {Q : Value → World → Prop} {w : World} (h : f12 x0 x1 x2 Q w) : Meets Tryd.prog 12 #[x0, x1, x2] w Q :=
  sound (c := (Tryd.f12.body.get rfl)) [(3, [7, 8, 13])] Tryd.func12 rfl rfl (args := [x0, x1, x2]) rfl (Eq.mp (f12_eq x0 x1 x2 Q w) h)

/-! pasodoble/schema.kinds -/
def f69_2 (x1 : Value) (x4 : Value) (x8 : Value) (x9 : Value) (x10 : Value) (J2 : Value → Value → World → Prop) (Q : Value → World → Prop) (w : World) : Prop :=
  kint .i64 .add x10 (.int .i64 1) fun v18 =>
  J2 x4 v18 w

def f69_1 (x1 : Value) (x4 : Value) (x8 : Value) (x9 : Value) (x10 : Value) (J2 : Value → Value → World → Prop) (Q : Value → World → Prop) (w : World) : Prop :=
  kix (some (.slice 79)) (some 7) x8 x10 fun v8 =>
  kldN 7 v8 w fun v9 =>
  knew #[(.string ⟨#[]⟩), (.int .i64 0), (.bool false), (.int .i64 0), (.int .i64 0), (.int .i64 0), (.int .i64 0)] 79 w fun v10 w11 =>
  kst 7 v10 v9 w11 fun w12 =>
  kfld 2 v10 fun v13 =>
  kld v13 w12 fun v14 =>
  kbool .eql v14 x1 fun v15 =>
  kB v15 fun b19 => kIf b19
  (kcall Tryd.prog 32 #[x4, x10] w12 fun v16 w17 =>
  f69_2 x1 v16 x8 x9 x10 J2 Q w17)
  (f69_2 x1 x4 x8 x9 x10 J2 Q w12)

def f69_3 (x4 : Value) (Q : Value → World → Prop) (w : World) : Prop :=
  Q x4 w

def f69_0 (x4 : Value) (x10 : Value) (x1 : Value) (x8 : Value) (x9 : Value) (J2 : Value → Value → World → Prop) (Q : Value → World → Prop) (w : World) : Prop :=
  kint .i64 .lss x10 x9 fun v7 =>
  kB v7 fun b20 => kIf b20
  (f69_1 x1 x4 x8 x9 x10 J2 Q w)
  (f69_3 x4 Q w)

def f69 (x0 : Value) (x1 : Value) (Q : Value → World → Prop) (w : World) : Prop :=
  knew (Value.cells x0) 25 w fun v1 w2 =>
  kfld 0 v1 fun v3 =>
  kld v3 w2 fun v4 =>
  klen v4 fun v5 =>
  kL fun (I : Value → Value → World → Prop) (μ : Value → Value → World → Nat) => I (.int .u32 0) (.int .i64 0) w2 ∧ ∀ (x4 x10 : Value) (w1 : World), I x4 x10 w1 →
  f69_0 x4 x10 x1 v4 v5 (fun y4 y10 w2 => I y4 y10 w2 ∧ μ y4 y10 w2 < μ x4 x10 w1) Q w1

theorem f69_eq (x0 : Value) (x1 : Value) (Q : Value → World → Prop) (w : World) : f69 x0 x1 Q w = fnVC Tryd.prog Tryd.f69 [(2, [4, 10])] (Tryd.f69.body.get rfl) [x0, x1] w Q := by kernel_rfl
theorem f69_ok {x0 : Value} {x1 : Value} {Q : Value → World → Prop} {w : World} (h : f69 x0 x1 Q w) : Meets Tryd.prog 69 #[x0, x1] w Q :=
  sound (c := (Tryd.f69.body.get rfl)) [(2, [4, 10])] Tryd.func69 rfl rfl (args := [x0, x1]) rfl (Eq.mp (f69_eq x0 x1 Q w) h)

/-! pasodoble/pasodoblelaw11.eight -/
def f27_2 (x0 : Value) (x1 : Value) (x2 : Value) (J3 : Value → World → Prop) (Q : Value → World → Prop) (w : World) : Prop :=
  kint .i64 .add x2 (.int .i64 1) fun v20 =>
  J3 v20 w

def f27_1 (x0 : Value) (x1 : Value) (x2 : Value) (J3 : Value → World → Prop) (Q : Value → World → Prop) (w : World) : Prop :=
  kfld 0 x1 fun v8 =>
  kld v8 w.drew fun v9 =>
  kG (w.drew = w.drew) <|
  kint .i64 .add x2 (.int .i64 1) fun v10 =>
  ksl (some .string) none (.string ⟨#[97, 98, 99, 100, 101, 102, 103, 104]⟩) (some x2) (some v10) fun v11 =>
  kint .i64 .lss x2 (.int .i64 7) fun v12 =>
  kbld [(.string ⟨#[]⟩), (.int .i64 0), (.bool false), (.int .i64 0), (.int .i64 0), (.int .i64 0), (.int .i64 0)] [(0, 1, v11), (1, 1, (.int .i64 1)), (2, 1, v12)] fun v13 =>
  kbldS [(.string ⟨#[]⟩), (.int .i64 0), (.bool false), (.int .i64 0), (.int .i64 0), (.int .i64 0), (.int .i64 0)] 1 [(0, 7, v13)] 79 w.drew fun v14 w15 =>
  kG (kld v8 w15 fun v21 =>
  v21 = v9 ∧ w15 = w15) <|
  ksem Tryd.prog (Builtin.append_ #[22, 22] 0 #[v9, v14]) w15 fun v16 w17 =>
  kfld 0 x1 fun v18 =>
  kst 1 v18 v16 w17 fun w19 =>
  f27_2 x0 x1 x2 J3 Q w19

def f27_3 (x0 : Value) (x1 : Value) (Q : Value → World → Prop) (w : World) : Prop :=
  kldN 2 x1 w fun v22 =>
  kst 2 x0 v22 w fun w23 =>
  kldN 2 x0 w23 fun v24 =>
  Q v24 w23

def f27_0 (x2 : Value) (x0 : Value) (x1 : Value) (J3 : Value → World → Prop) (Q : Value → World → Prop) (w : World) : Prop :=
  kint .i64 .lss x2 (.int .i64 8) fun v7 =>
  kB v7 fun b25 => kIf b25
  (f27_1 x0 x1 x2 J3 Q w)
  (f27_3 x0 x1 Q w)

def f27 (Q : Value → World → Prop) (w : World) : Prop :=
  knew #[(.slice none 0 0), (.slice none 0 0)] 25 w fun v1 w2 =>
  kbld [(.slice none 0 0), (.slice none 0 0)] [] fun v3 =>
  knew #[(.slice none 0 0), (.slice none 0 0)] 25 w2 fun v4 w5 =>
  kst 2 v4 v3 w5 fun w6 =>
  kL fun (I : Value → World → Prop) (μ : Value → World → Nat) => I (.int .i64 0) w6 ∧ ∀ (x2 : Value) (w1 : World), I x2 w1 →
  f27_0 x2 v1 v4 (fun y2 w2 => I y2 w2 ∧ μ y2 w2 < μ x2 w1) Q w1

theorem f27_eq (Q : Value → World → Prop) (w : World) : f27 Q w = fnVC Tryd.prog Tryd.f27 [(3, [2])] (Tryd.f27.body.get rfl) [] w Q := by kernel_rfl
theorem f27_ok {Q : Value → World → Prop} {w : World} (h : f27 Q w) : Meets Tryd.prog 27 #[] w Q :=
  sound (c := (Tryd.f27.body.get rfl)) [(3, [2])] Tryd.func27 rfl rfl (args := []) rfl (Eq.mp (f27_eq Q w) h)

/-! pasodoble/pasodoblelaw11.awake -/
def f8 (Q : Value → World → Prop) (w : World) : Prop :=
  kbld [(.int .u32 0), (.int .u32 0), (.int .u32 0)] [(0, 1, (.int .u32 1)), (2, 1, (.int .u32 1))] fun v1 =>
  knew #[(.int .u32 0), (.int .u32 0), (.int .u32 0)] 29 w fun v2 w3 =>
  kst 3 v2 v1 w3 fun w4 =>
  kcall Tryd.prog 27 #[] w4 fun v5 w6 =>
  kbld [(.int .u32 0), (.int .u32 0), (.int .u32 0)] [(0, 1, (.int .u32 128)), (1, 1, (.int .u32 128)), (2, 1, (.int .u32 2))] fun v7 =>
  kcall Tryd.prog 10 #[v5, v7] w6 fun v8 w9 =>
  kcall Tryd.prog 9 #[v8] w9 fun v10 w11 =>
  kldN 3 v2 w11.drew fun v12 =>
  kG (w11.drew = w11.drew) <|
  kbld [(.int .i64 0), (.int .i64 0), (.int .i64 0), (.int .i64 0), (.int .i64 0), (.int .i64 0)] [(5, 1, (.int .i64 8))] fun v13 =>
  kbldS [(.int .i64 0), (.int .i64 0), (.int .i64 0), (.int .i64 0), (.int .i64 0), (.int .i64 0)] 1 [(0, 6, v13)] 73 w11.drew fun v14 w15 =>
  kG (kldN 3 v2 w15 fun v52 =>
  v52 = v12 ∧ w15 = w15) <|
  kcall Tryd.prog 12 #[v12, (.int .i64 9), v14] w15 fun v16 w17 =>
  kB v16 fun b18 => kIf b18
  (kldN 3 v2 w17 fun v19 =>
  kG (w17 = w17) <|
  kbld [(.int .i64 0), (.int .i64 0), (.int .i64 0), (.int .i64 0), (.int .i64 0), (.int .i64 0)] [(5, 1, (.int .i64 7))] fun v20 =>
  kbldS [(.int .i64 0), (.int .i64 0), (.int .i64 0), (.int .i64 0), (.int .i64 0), (.int .i64 0)] 1 [(0, 6, v20)] 73 w17 fun v21 w22 =>
  kG (kldN 3 v2 w22 fun v51 =>
  v51 = v19 ∧ w22 = w22) <|
  kcall Tryd.prog 12 #[v19, (.int .i64 9), v21] w22 fun v23 w24 =>
  kun .not (some .bool) v23 fun v25 =>
  kB v25 fun b26 => kIf b26
  (kcall Tryd.prog 27 #[] w24 fun v27 w28 =>
  kldN 3 v2 w28 fun v29 =>
  kG (w28 = w28) <|
  kG (kldN 3 v2 w24 fun v50 =>
  v50 = v29 ∧ w24 = w24) <|
  kcall Tryd.prog 10 #[v27, v29] w28 fun v30 w31 =>
  keq Tryd.prog .eql 36 false true v30 .nilIface w31 fun v32 w33 =>
  kG (w33 = w31) <|
  kB v32 fun b34 => kIf b34
  (klen v10 fun v35 =>
  kint .i64 .eql v35 (.int .i64 4) fun v37 =>
  kB v37 fun b38 => kIf b38
  (kix (some (.slice 41)) (some 2) v10 (.int .i64 0) fun v39 =>
  kldN 2 v39 w33 fun v40 =>
  kG (w33 = w33) <|
  kbld [(.string ⟨#[]⟩), (.int .i64 0)] [(0, 1, (.string ⟨#[119, 105, 116, 104]⟩)), (1, 1, (.int .i64 1))] fun v41 =>
  keq Tryd.prog .eql 41 false false v40 v41 w33 fun v42 w43 =>
  kG (w43 = w33) <|
  kB v42 fun b44 => kIf b44
  (kix (some (.slice 41)) (some 2) v10 (.int .i64 3) fun v45 =>
  kldN 2 v45 w43 fun v46 =>
  kG (w43 = w43) <|
  kbld [(.string ⟨#[]⟩), (.int .i64 0)] [(0, 1, (.string ⟨#[99, 104, 97, 110, 103, 101, 100]⟩)), (1, 1, (.int .i64 7))] fun v47 =>
  keq Tryd.prog .eql 41 false false v46 v47 w43 fun v48 w49 =>
  kG (w49 = w43) <|
  Q v48 w49)
  (Q (.bool false) w43))
  (Q (.bool false) w33))
  (Q (.bool false) w33))
  (Q (.bool false) w24))
  (Q (.bool false) w17)

theorem f8_eq (Q : Value → World → Prop) (w : World) : f8 Q w = fnVC Tryd.prog Tryd.f8 [] (Tryd.f8.body.get rfl) [] w Q := by kernel_rfl
theorem f8_ok {Q : Value → World → Prop} {w : World} (h : f8 Q w) : Meets Tryd.prog 8 #[] w Q :=
  sound (c := (Tryd.f8.body.get rfl)) [] Tryd.func8 rfl rfl (args := []) rfl (Eq.mp (f8_eq Q w) h)

/-! (pasodoble/pasodoblelaw11.Being).parts -/
def f14_2 (x1 : Value) (x3 : Value) (x4 : Value) (J3 : Value → Value → World → Prop) (Q : Value → World → Prop) (w : World) : Prop :=
  kint .i64 .add x4 (.int .i64 1) fun v19 =>
  J3 x3 v19 w

def f14_1 (x1 : Value) (x3 : Value) (x4 : Value) (J3 : Value → Value → World → Prop) (Q : Value → World → Prop) (w : World) : Prop :=
  kfld 0 x1 fun v6 =>
  kld v6 w fun v7 =>
  kint .u32 .shr v7 x4 fun v8 =>
  kint .u32 .rem v8 (.int .u32 2) fun v9 =>
  kint .u32 .eql v9 (.int .u32 1) fun v10 =>
  kB v10 fun b20 => kIf b20
  (kfld 1 x1 fun v11 =>
  kix (some (.array 8 3)) (some 1) v11 x4 fun v12 =>
  kld v12 w fun v13 =>
  kbld [(.int .i64 0), (.int .i64 0), (.int .i64 0), (.int .i64 0), (.int .i64 0), (.int .i64 0)] [(0, 1, x4), (5, 1, v13)] fun v14 =>
  kbldS [(.int .i64 0), (.int .i64 0), (.int .i64 0), (.int .i64 0), (.int .i64 0), (.int .i64 0)] 1 [(0, 6, v14)] 73 w fun v15 w16 =>
  ksem Tryd.prog (Builtin.append_ #[31, 31] 0 #[x3, v15]) w16 fun v17 w18 =>
  f14_2 x1 v17 x4 J3 Q w18)
  (f14_2 x1 x3 x4 J3 Q w)

def f14_3 (x3 : Value) (Q : Value → World → Prop) (w : World) : Prop :=
  Q x3 w

def f14_0 (x3 : Value) (x4 : Value) (x1 : Value) (J3 : Value → Value → World → Prop) (Q : Value → World → Prop) (w : World) : Prop :=
  kint .i64 .lss x4 (.int .i64 8) fun v5 =>
  kB v5 fun b21 => kIf b21
  (f14_1 x1 x3 x4 J3 Q w)
  (f14_3 x3 Q w)

def f14 (x0 : Value) (Q : Value → World → Prop) (w : World) : Prop :=
  knew (Value.cells x0) 48 w fun v1 w2 =>
  kbldS [(.int .i64 0), (.int .i64 0), (.int .i64 0), (.int .i64 0), (.int .i64 0), (.int .i64 0)] 0 [] 73 w2 fun v3 w4 =>
  kL fun (I : Value → Value → World → Prop) (μ : Value → Value → World → Nat) => I v3 (.int .i64 0) w4 ∧ ∀ (x3 x4 : Value) (w1 : World), I x3 x4 w1 →
  f14_0 x3 x4 v1 (fun y3 y4 w2 => I y3 y4 w2 ∧ μ y3 y4 w2 < μ x3 x4 w1) Q w1

theorem f14_eq (x0 : Value) (Q : Value → World → Prop) (w : World) : f14 x0 Q w = fnVC Tryd.prog Tryd.f14 [(3, [3, 4])] (Tryd.f14.body.get rfl) [x0] w Q := by kernel_rfl
theorem f14_ok {x0 : Value} {Q : Value → World → Prop} {w : World} (h : f14 x0 Q w) : Meets Tryd.prog 14 #[x0] w Q :=
  sound (c := (Tryd.f14.body.get rfl)) [(3, [3, 4])] Tryd.func14 rfl rfl (args := [x0]) rfl (Eq.mp (f14_eq x0 Q w) h)

/-! pasodoble/pasodoblelaw11.QueryParts -/
def f4_2 (x3 : Value) (x10 : Value) (x11 : Value) (x12 : Value) (Q : Value → World → Prop) (w : World) : Prop :=
  kldN 3 x10 w fun v58 =>
  kcall Tryd.prog 12 #[v58, x3, x12] w fun v59 w60 =>
  kB v59 fun b61 => kIf b61
  (kldN 3 x11 w60 fun v62 =>
  kcall Tryd.prog 12 #[v62, x3, x12] w60 fun v63 w64 =>
  kun .not (some .bool) v63 fun v65 =>
  Q v65 w64)
  (kun .not (some .bool) (.bool false) fun v66 =>
  Q v66 w60)

def f4_1 (x3 : Value) (x10 : Value) (x11 : Value) (x12 : Value) (x62 : Value) (Q : Value → World → Prop) (w : World) : Prop :=
  kB x62 fun b67 => kIf b67
  (Q (.bool false) w)
  (f4_2 x3 x10 x11 x12 Q w)

def f4_0 (x2 : Value) (x3 : Value) (x4 : Value) (x5 : Value) (Q : Value → World → Prop) (w : World) : Prop :=
  kcnv .u64 x2 fun v8 =>
  kint .u64 .rem v8 (.int .u64 8) fun v9 =>
  kint .u32 .shl (.int .u32 1) v9 fun v10 =>
  kfld 0 x5 fun v11 =>
  kld v11 w fun v12 =>
  kint .u32 .andNot v12 v10 fun v13 =>
  kfld 0 x5 fun v14 =>
  kst 1 v14 v13 w fun w15 =>
  kfld 1 x5 fun v16 =>
  kld v16 w15 fun v17 =>
  kint .u32 .andNot v17 v10 fun v18 =>
  kfld 1 x5 fun v19 =>
  kst 1 v19 v18 w15 fun w20 =>
  kfld 2 x5 fun v21 =>
  kld v21 w20 fun v22 =>
  kint .u32 .andNot v22 v10 fun v23 =>
  kfld 2 x5 fun v24 =>
  kst 1 v24 v23 w20 fun w25 =>
  kldN 3 x5 w25 fun v26 =>
  knew #[(.int .u32 0), (.int .u32 0), (.int .u32 0)] 29 w25 fun v27 w28 =>
  kst 3 v27 v26 w28 fun w29 =>
  kfld 0 v27 fun v30 =>
  kld v30 w29 fun v31 =>
  kint .u32 .or v31 v10 fun v32 =>
  kfld 0 v27 fun v33 =>
  kst 1 v33 v32 w29 fun w34 =>
  kldN 3 x5 w34 fun v35 =>
  knew #[(.int .u32 0), (.int .u32 0), (.int .u32 0)] 29 w34 fun v36 w37 =>
  kst 3 v36 v35 w37 fun w38 =>
  kfld 1 v36 fun v39 =>
  kld v39 w38 fun v40 =>
  kint .u32 .or v40 v10 fun v41 =>
  kfld 1 v36 fun v42 =>
  kst 1 v42 v41 w38 fun w43 =>
  kldN 10 x4 w43 fun v44 =>
  kcall Tryd.prog 14 #[v44] w43 fun v45 w46 =>
  kldN 3 x5 w46.drew fun v47 =>
  kG (w46.drew = w46.drew) <|
  kcall Tryd.prog 12 #[v47, x3, v45] w46.drew fun v48 w49 =>
  kldN 3 v27 w49 fun v50 =>
  kG (w49 = w49) <|
  kG (kldN 3 v27 w46.drew fun v69 =>
  v69 = v50 ∧ w46.drew = w46.drew) <|
  kcall Tryd.prog 12 #[v50, x3, v45] w49 fun v51 w52 =>
  kB v51 fun b53 => kIf (!b53)
  (kldN 3 v36 w52 fun v54 =>
  kG (w52 = w52) <|
  kcall Tryd.prog 12 #[v54, x3, v45] w52 fun v55 w56 =>
  kbool .neq v48 v55 fun v57 =>
  f4_1 x3 v27 v36 v45 v57 Q w56)
  (kbool .neq v48 (.bool true) fun v68 =>
  f4_1 x3 v27 v36 v45 v68 Q w52)

def f4 (x0 : Value) (x1 : Value) (x2 : Value) (x3 : Value) (Q : Value → World → Prop) (w : World) : Prop :=
  knew (Value.cells x0) 48 w fun v1 w2 =>
  knew (Value.cells x1) 29 w2 fun v3 w4 =>
  kcall Tryd.prog 8 #[] w4 fun v5 w6 =>
  kun .not (some .bool) v5 fun v7 =>
  kB v7 fun b70 => kIf b70
  (Q (.bool false) w6)
  (f4_0 x2 x3 v1 v3 Q w6)

theorem f4_eq (x0 : Value) (x1 : Value) (x2 : Value) (x3 : Value) (Q : Value → World → Prop) (w : World) : f4 x0 x1 x2 x3 Q w = fnVC Tryd.prog Tryd.f4 [] (Tryd.f4.body.get rfl) [x0, x1, x2, x3] w Q := by kernel_rfl
theorem f4_ok {x0 : Value} {x1 : Value} {x2 : Value} {x3 : Value} {Q : Value → World → Prop} {w : World} (h : f4 x0 x1 x2 x3 Q w) : Meets Tryd.prog 4 #[x0, x1, x2, x3] w Q :=
  sound (c := (Tryd.f4.body.get rfl)) [] Tryd.func4 rfl rfl (args := [x0, x1, x2, x3]) rfl (Eq.mp (f4_eq x0 x1 x2 x3 Q w) h)

end Go.Proofs.YtcabkicjboedaaaDoor
end
section
namespace Go.Proofs.YtcabkicjboedaaaDoor
open Go Go.Ev
set_option linter.unusedVariables false
set_option linter.unusedSimpArgs false
set_option maxRecDepth 100000

/-! ### sets -/
def bitF (n : Int) : Nat := if n < 0 then 0 else if 32 ≤ n then 0 else 2 ^ n.toNat
theorem bitF_lt (n : Int) : bitF n < 4294967296 := by
  unfold bitF; split
  · omega
  · split
    · omega
    · have : n.toNat ≤ 31 := by omega
      have := Nat.pow_le_pow_right (n := 2) (by omega) this
      omega
theorem u32_of {a : Nat} (h : a < 4294967296) : (BitVec.ofInt 32 (a : Int)).toNat = a := by
  simp [BitVec.ofInt_natCast]; omega
theorem u32_or {a b : Nat} (ha : a < 4294967296) (hb : b < 4294967296) : ior .u32 (a : Int) (b : Int) = ((a ||| b : Nat) : Int) := by
  have h : a ||| b < 2 ^ 32 := Nat.or_lt_two_pow (by omega) (by omega)
  show IntKind.u32.wrap ((BitVec.ofInt 32 (a : Int) ||| BitVec.ofInt 32 (b : Int)).toNat) = _
  rw [BitVec.toNat_or, u32_of ha, u32_of hb, wrap_u32 (by omega) (by omega)]
theorem u32_and {a b : Nat} (ha : a < 4294967296) (hb : b < 4294967296) : iand .u32 (a : Int) (b : Int) = ((a &&& b : Nat) : Int) := by
  have h : a &&& b < 2 ^ 32 := Nat.and_lt_two_pow a (by omega)
  show IntKind.u32.wrap ((BitVec.ofInt 32 (a : Int) &&& BitVec.ofInt 32 (b : Int)).toNat) = _
  rw [BitVec.toNat_and, u32_of ha, u32_of hb, wrap_u32 (by omega) (by omega)]
/-- a without b -/
def andN (a b : Nat) : Nat := a &&& (4294967295 - b)
theorem andN_lt {a b : Nat} (ha : a < 4294967296) : andN a b < 4294967296 := by
  unfold andN; have := Nat.and_le_left (n := a) (m := 4294967295 - b); omega
theorem u32_andN {a b : Nat} (ha : a < 4294967296) (hb : b < 4294967296) : iandn .u32 (a : Int) (b : Int) = ((andN a b : Nat) : Int) := by
  have h := andN_lt (b := b) ha
  show IntKind.u32.wrap ((BitVec.ofInt 32 (a : Int) &&& ~~~(BitVec.ofInt 32 (b : Int))).toNat) = _
  rw [BitVec.toNat_and, BitVec.toNat_not, u32_of ha, u32_of hb]
  have e : 2 ^ 32 - 1 - b = 4294967295 - b := by omega
  rw [e]; unfold andN at *
  rw [wrap_u32 (by omega) (by omega)]
def msk (m : Nat) : Value := .int .u32 (m : Int)

theorem bit_spec (n : Int) (h1 : -9223372036854775808 ≤ n) (h2 : n ≤ 9223372036854775807) (w : World) : Meets Tryd.prog 72 #[.int .i64 n] w fun v w' => v = msk (bitF n) ∧ w' = w := by
  refine f72_ok ?_
  unfold f72
  simp -dsimp
  by_cases hn : n < 0
  · simp -dsimp [hn, f72_0, bitF, msk]
  · simp -dsimp [hn, f72_0]
    by_cases hm : 32 ≤ n
    · simp -dsimp [hm, bitF, hn, msk]
    · have e : min n.toNat 32 = n.toNat := by omega
      have hb := bitF_lt n
      have eb : bitF n = 2 ^ n.toNat := by unfold bitF; simp [hn, hm]
      have ew : ishl .u32 1 n = ((bitF n : Nat) : Int) := by
        show IntKind.u32.wrap (1 * 2 ^ (min n.toNat 32)) = _
        rw [e]
        have : (1 * 2 ^ n.toNat : Int) = ((bitF n : Nat) : Int) := by rw [eb]; simp
        rw [this, wrap_u32 (by omega) (by omega)]
      simp -dsimp [hm, f72_1, show 0 ≤ n by omega, ew, msk]

theorem with_spec (m : Nat) (n : Int) (hm : m < 4294967296) (h1 : -9223372036854775808 ≤ n) (h2 : n ≤ 9223372036854775807) (w : World) : Meets Tryd.prog 32 #[msk m, .int .i64 n] w fun v w' => v = msk (m ||| bitF n) ∧ w' = w := by
  refine f32_ok ?_
  unfold f32
  refine kcall_of (bit_spec n h1 h2 w) ?_
  rintro v w' ⟨rfl, rfl⟩
  simp -dsimp [msk, u32_or hm (bitF_lt n)]

theorem within_spec (m n : Nat) (hm : m < 4294967296) (hn : n < 4294967296) (w : World) : Meets Tryd.prog 34 #[msk m, msk n] w fun v w' => v = .bool (decide (andN m n = 0)) ∧ w' = w := by
  refine f34_ok ?_
  unfold f34
  simp -dsimp [msk, u32_andN hm hn]

theorem since_spec (n : Int) (h1 : -9223372036854775808 ≤ n) (h2 : n ≤ 9223372036854775807) (w : World) : Meets Tryd.prog 33 #[.int .i64 n] w fun v w' => v = .int .i64 (max n (-4611686018427387904) - 1) ∧ w' = w := by
  refine f33_ok ?_
  unfold f33
  simp -dsimp
  rw [wrap_i64 (by omega) (by omega)]

/-! ### parts in memory -/
structure Part where
  comp : Int
  v0 : Int
  v1 : Int
  v2 : Int
  v3 : Int
  tick : Int
def Part.cells (p : Part) : List Value := [.int .i64 p.comp, .int .i64 p.v0, .int .i64 p.v1, .int .i64 p.v2, .int .i64 p.v3, .int .i64 p.tick]
def I64 (n : Int) : Prop := -9223372036854775808 ≤ n ∧ n ≤ 9223372036854775807
def Part.ok (p : Part) : Prop := I64 p.comp ∧ I64 p.v0 ∧ I64 p.v1 ∧ I64 p.v2 ∧ I64 p.v3 ∧ I64 p.tick
structure Filter where
  wth : Nat
  wout : Nat
  chg : Nat
def Filter.ok (f : Filter) : Prop := f.wth < 4294967296 ∧ f.wout < 4294967296 ∧ f.chg < 4294967296
def Filter.val (f : Filter) : Value := .agg #[msk f.wth, msk f.wout, msk f.chg]
def sinceF (frame : Int) : Int := max frame (-4611686018427387904) - 1
def hasF (l : List Part) : Nat := l.foldl (fun m p => m ||| bitF p.comp) 0
def lateF (s : Int) (l : List Part) : Nat := l.foldl (fun m p => if s ≤ p.tick then m ||| bitF p.comp else m) 0
def meansF (f : Filter) (frame : Int) (l : List Part) : Bool :=
  decide (andN f.wth (hasF l) = 0) && (decide (hasF l &&& f.wout = 0) && decide (andN f.chg (lateF (sinceF frame) l) = 0))
theorem hasF_lt (l : List Part) : hasF l < 4294967296 := by
  unfold hasF
  have : ∀ (l : List Part) (m : Nat), m < 2 ^ 32 → l.foldl (fun m p => m ||| bitF p.comp) m < 2 ^ 32 := by
    intro l
    induction l with
    | nil => exact fun m h => h
    | cons p l ih => exact fun m h => ih _ (Nat.or_lt_two_pow h (by have := bitF_lt p.comp; omega))
  exact this l 0 (by omega)
theorem lateF_lt (s : Int) (l : List Part) : lateF s l < 4294967296 := by
  unfold lateF
  have : ∀ (l : List Part) (m : Nat), m < 2 ^ 32 → l.foldl (fun m p => if s ≤ p.tick then m ||| bitF p.comp else m) m < 2 ^ 32 := by
    intro l
    induction l with
    | nil => exact fun m h => h
    | cons p l ih =>
      intro m h
      refine ih _ ?_
      show (if s ≤ p.tick then m ||| bitF p.comp else m) < 2 ^ 32
      split
      · exact Nat.or_lt_two_pow h (by have := bitF_lt p.comp; omega)
      · exact h
  exact this l 0 (by omega)
theorem hasF_snoc (l : List Part) (p : Part) : hasF (l ++ [p]) = hasF l ||| bitF p.comp := by simp [hasF]
theorem lateF_snoc (s : Int) (l : List Part) (p : Part) : lateF s (l ++ [p]) = if s ≤ p.tick then lateF s l ||| bitF p.comp else lateF s l := by simp [lateF]

theorem means_spec (f : Filter) (hf : f.ok) (frame : Int) (hfr : I64 frame) (l : List Part) (hl : ∀ p ∈ l, p.ok) (hn : l.length ≤ 4611686018427387904) (sa : Option Addr) (c : Nat) (w : World) (hs : SlIs w sa l.length 6 (l.flatMap Part.cells)) :
    Meets Tryd.prog 12 #[f.val, .int .i64 frame, .slice sa l.length c] w fun v w' => v = .bool (meansF f frame l) ∧ Same w w' := by
  obtain ⟨hf1, hf2, hf3⟩ := hf
  refine f12_ok ?_
  unfold f12
  simp -dsimp [Filter.val, Value.cells]
  generalize hw2 : w.alloc (.cells #[msk f.wth, msk f.wout, msk f.chg] 29) = w2
  have hb2 : blk w2 w.heap.size = some (.cells #[msk f.wth, msk f.wout, msk f.chg] 29) := by rw [← hw2]; exact alloc_heap_new _ _
  have hs2 : SlIs w2 sa l.length 6 (l.flatMap Part.cells) := hs.mod (fp := fun _ => False) (by rw [← hw2]; exact (Mod.refl _ _).alloc _) (fun _ _ _ h => h)
  have hsame : Same w w2 := by rw [← hw2]; exact (Mod.refl _ _).alloc _
  refine kL_of (fun x7 x8 x13 wr => ∃ i : Nat, i ≤ l.length ∧ x13 = .int .i64 i ∧ x7 = msk (hasF (l.take i)) ∧ x8 = msk (lateF (sinceF frame) (l.take i)) ∧ Same w2 wr) (fun _ _ x _ => l.length - (RowKit.intOf x).toNat) ⟨⟨0, by omega, rfl, by simp [hasF, msk], by simp [lateF, msk], Mod.refl _ _⟩, ?_⟩
  rintro x7 x8 x13 wr ⟨i, hi, rfl, rfl, rfl, hm⟩
  have hbr := hm.get hb2 (fun h => h)
  unfold f12_0
  simp -dsimp
  refine kIf_dec (fun hlt => ?_) (fun hge => ?_)
  · have hlt : i < l.length := by omega
    obtain ⟨b, o, c', t', f', rfl, hb, hle, hcs⟩ := (hs2.mod hm (fun _ _ _ h => h)).at hlt (by omega)
    rw [flat_get Part.cells 6 (fun _ => rfl) l i hlt] at hcs
    have hp := hl l[i] (List.getElem_mem hlt)
    generalize hpi : l[i] = p at *
    have htk : l.take (i + 1) = l.take i ++ [p] := by rw [List.take_succ_eq_append_getElem hlt, hpi]
    unfold f12_1
    simp -dsimp [hlt, hb, hle, hcs, Part.cells]
    refine kcall_of (with_spec _ _ (hasF_lt _) hp.1.1 hp.1.2 _) ?_
    rintro v w' ⟨rfl, rfl⟩
    simp -dsimp
    refine kcall_of (since_spec frame hfr.1 hfr.2 _) ?_
    rintro v w' ⟨rfl, rfl⟩
    simp -dsimp
    have hadd : IntKind.i64.wrap ((i : Int) + 1) = ((i + 1 : Nat) : Int) := by rw [wrap_i64 (by omega) (by omega)]; simp
    refine kIf_dec (fun hge => ?_) (fun hge => ?_)
    · simp -dsimp
      refine kcall_of (with_spec _ _ (lateF_lt _ _) hp.1.1 hp.1.2 _) ?_
      rintro v w' ⟨rfl, rfl⟩
      unfold f12_2
      simp -dsimp [hadd]
      exact ⟨⟨i + 1, by omega, rfl, by rw [htk, hasF_snoc], by rw [htk, lateF_snoc, if_pos (show sinceF frame ≤ p.tick from hge)], ((hm.alloc _).drew)⟩, by simp [RowKit.intOf]; omega⟩
    · unfold f12_2
      simp -dsimp [hadd]
      exact ⟨⟨i + 1, by omega, rfl, by rw [htk, hasF_snoc], by rw [htk, lateF_snoc, if_neg (show ¬ sinceF frame ≤ p.tick from hge)], ((hm.alloc _).drew)⟩, by simp [RowKit.intOf]; omega⟩
  · have : i = l.length := by omega
    subst this
    unfold f12_3
    simp -dsimp [hbr]
    refine kcall_of (within_spec _ _ hf1 (hasF_lt _) _) ?_
    rintro v w' ⟨rfl, rfl⟩
    simp -dsimp
    have e := u32_and (hasF_lt l) hf2
    refine kIf_dec (fun h1 => ?_) (fun h1 => ?_)
    · simp -dsimp [hbr, msk, e]
      refine kIf_dec (fun h2 => ?_) (fun h2 => ?_)
      · simp -dsimp [hbr]
        refine kcall_of (within_spec _ _ hf3 (lateF_lt _ _) _) ?_
        rintro v w' ⟨rfl, rfl⟩
        exact ⟨by simp [meansF, h1, h2], hsame.trans hm⟩
      · exact ⟨by simp [meansF, h1, h2], hsame.trans hm⟩
    · exact ⟨by simp [meansF, h1], hsame.trans hm⟩
end Go.Proofs.YtcabkicjboedaaaDoor
end
section
namespace Go.Ev
open Go Go.RowKit
/-! ### New memory, its world a letter -/
theorem knew_of {cs : Array Value} {t : TypeId} {w : World} {K : Value → World → Prop} (h : ∀ w2, Same w w2 → w2.heap.size = w.heap.size + 1 → blk w2 w.heap.size = some (.cells cs t) → K (.pointer (some ⟨w.heap.size, 0, none⟩)) w2) : knew cs t w K :=
  h _ ((Mod.refl _ _).alloc _) (by simp) (alloc_heap_new _ _)
theorem kbldS_of {z : List Value} {n : Nat} {qs : List (Nat × Nat × Value)} {ty : TypeId} {w : World} {K : Value → World → Prop} {cs : List Value} (hf : fillL (zrow z n) qs = some cs)
    (h : ∀ w2, Same w w2 → w2.heap.size = w.heap.size + 1 → blk w2 w.heap.size = some (.cells cs.toArray ty) → K (.slice (some ⟨w.heap.size, 0, none⟩) n n) w2) : kbldS z n qs ty w K := by
  rw [kbldS_eq, hf]
  exact h _ ((Mod.refl _ _).alloc _) (by simp) (alloc_heap_new _ _)
theorem kbld_of {z : List Value} {qs : List (Nat × Nat × Value)} {K : Value → Prop} {cs : List Value} (hf : fillL z qs = some cs) (h : K (.agg cs.toArray)) : kbld z qs K := by
  rw [kbld_eq, hf]
  exact h
theorem SlIs.blk {w : World} {b : Nat} {arr : Array Value} {t : TypeId} {f : Nat × Nat} (hb : blk w b = some (.cells arr t f)) {n sz : Nat} (h : arr.size = n * sz) : SlIs w (some ⟨b, 0, none⟩) n sz arr.toList :=
  ⟨by simpa using h, .inr ⟨_, 0, arr, t, f, rfl, hb, by rw [List.drop_zero, ← h, ← Array.length_toList, List.take_length]⟩⟩
theorem Own.blk {w : World} {b : Nat} {arr : Array Value} {t : TypeId} (hb : blk w b = some (.cells arr t)) {n sz : Nat} (h : arr.size = n * sz) (hn : n ≤ maxLen) : Own w (.slice (some ⟨b, 0, none⟩) n n) sz arr.toList :=
  ⟨_, n, n, rfl, by simpa using h, Nat.le_refl _, hn, .inr ⟨_, arr, t, rfl, hb, h, by rw [← h, ← Array.length_toList, List.take_length]⟩⟩
theorem kfld_of {b o n : Nat} {K : Value → Prop} (h : K (.pointer (some ⟨b, o + n, none⟩))) : kfld n (.pointer (some ⟨b, o, none⟩)) K := by
  rw [kfld_ptr, add_mk]; exact h
theorem kld_of {b o : Nat} {w : World} {K : Value → Prop} {c : Array Value} {t : TypeId} {f : Nat × Nat} {v : Value} (hb : Ev.blk w b = some (.cells c t f)) (hc : c[o]? = some v) (h : K v) : kld (.pointer (some ⟨b, o, none⟩)) w K := by
  rw [kld_ptr, cell_mk, hb, cellO_some, hc]; exact h
theorem kldN_of {n b o : Nat} {w : World} {K : Value → Prop} {c : Array Value} {t : TypeId} {f : Nat × Nat} {cs : List Value} (hb : Ev.blk w b = some (.cells c t f)) (hle : o + n ≤ c.size) (hc : (c.toList.drop o).take n = cs) (hn : 0 < n) (h : K (.agg cs.toArray)) : kldN n (.pointer (some ⟨b, o, none⟩)) w K := by
  rw [kldN_ptr, cellsAt_pos _ _ _ _ hn, hb, cellsO_some hle, hc]; exact h
theorem kst_of {n b o : Nat} {v : Value} {w : World} {K : World → Prop} {c : Array Value} {t : TypeId} {vs : List Value} (hb : Ev.blk w b = some (.cells c t)) (hv : v.cells.toList = vs) (hn : vs.length = n) (h1 : oneCells vs = true) (hle : o + n ≤ c.size) (hne : vs ≠ [])
    (h : ∀ w2, Mod (fun k => k = b) w w2 → w2.heap.size = w.heap.size → Ev.blk w2 b = some (.cells (setAll vs c o) t) → K w2) : kst n (.pointer (some ⟨b, o, none⟩)) v w K := by
  have hst := stores_blk (b := b) (o := o) (t := t) vs 0 w c hb h1 (by simpa [hn] using hle) hne
  have hsz : v.cells.size = n := by rw [← hn, ← hv, Array.length_toList]
  rw [kst_ptr, hv, hst, kO_some]
  refine kG_of hsz (h _ ((Mod.refl _ _).setBlk _ (.inl rfl)) (setBlk_size _ _ _) ?_)
  rw [setBlk_heap, if_pos rfl, hb]; rfl
end Go.Ev
end
section
namespace Go.Ev
open Go Go.RowKit Go.ChangeShapes
set_option linter.unusedVariables false

/-! ### What a reading tells of the cells -/
/-- The cells read zs the type says, n types deep. -/
def Rd (P : Program) (w : World) : Nat → TypeId → List Value → Prop
  | 0, _, _ => True
  | n + 1, t, cs => match P.underlying t with
    | some (.int k) => ∃ i, cs = [.int k i] ∧ (Lit.int k i).wf = true
    | some .bool => ∃ b, cs = [.bool b]
    | some .string => ∃ s, cs = [.string s] ∧ s.size ≤ maxLen
    | some (.slice e) => cs = [.slice none 0 0] ∨ ∃ a len cap, cs = [.slice (some a) len cap] ∧ len ≤ cap ∧ cap ≤ maxLen ∧
        ∀ i, i < len → ∃ ec, w.cells? 0 (a.add (i * P.cellsOf e)) (P.cellsOf e) = some ec ∧ Rd P w n e ec
    | some (.struct fs) => cs.length = P.cellsOf t ∧ ∀ f, f ∈ fs.toList → Rd P w n f.type ((cs.drop f.offset).take (P.cellsOf f.type))
    | some (.array m e) => cs.length = P.cellsOf t ∧ ∀ i, i < m → Rd P w n e ((cs.drop (i * P.cellsOf e)).take (P.cellsOf e))
    | _ => True

theorem rd_of_trod {H : Type} {enc : TypeId × Value → H} {P : Program} {w : World} {sp : Nat → Bool} {held : Bool} :
    ∀ (fuel : Nat) (t : TypeId) (cs : List Value) (x : DataW H × List MemPlace), DataW.trod enc P w 0 sp held fuel t cs = some x → ∀ n, Rd P w n t cs := by
  intro fuel
  induction fuel with
  | zero => intro t cs x h; simp [DataW.trod] at h
  | succ m ih =>
    intro t cs x h n
    cases n with
    | zero => trivial
    | succ n =>
      unfold Rd
      split
      · rename_i k hu
        obtain ⟨i, h1, _, h2⟩ := DataW.trod_int hu h
        exact ⟨i, h1, h2⟩
      · rename_i hu
        obtain ⟨b, h1, _⟩ := DataW.trod_bool hu h
        exact ⟨b, h1⟩
      · rename_i hu
        obtain ⟨s, h1, _, h2⟩ := DataW.trod_string hu h
        exact ⟨s, h1, h2⟩
      · rename_i e hu
        rcases DataW.trod_slice hu h with ⟨h1, _⟩ | ⟨a, len, cap, elems, rest, m', e1, h1, _, _, h2, h3, h4, h5, _⟩
        · exact Or.inl h1
        · refine Or.inr ⟨a, len, cap, h1, h2, h3, fun i hi => ?_⟩
          have h5 := h5 i hi
          have hi' : i < elems.length := by omega
          rw [List.getElem?_eq_getElem hi'] at h5
          obtain ⟨ec, h6, h7⟩ := Option.bind_eq_some_iff.1 h5
          obtain rfl : m' = m := by omega
          exact ⟨ec, h6, ih _ _ _ h7 n⟩
      · rename_i fs hu
        obtain ⟨xs, m', e1, _, h2, h3, h4⟩ := DataW.trod_struct hu h
        obtain rfl : m' = m := by omega
        refine ⟨h2, fun f hf => ?_⟩
        obtain ⟨i, hi, rfl⟩ := List.mem_iff_getElem.1 hf
        have hi' : i < fs.size := by simpa using hi
        have := h4 i (fs.toList[i]) (by simp [hi'])
        rw [List.getElem?_eq_getElem (show i < xs.length by omega)] at this
        exact ih _ _ _ this n
      · rename_i k e hu
        obtain ⟨xs, m', e1, _, h2, h3, h4⟩ := DataW.trod_array hu h
        obtain rfl : m' = m := by omega
        refine ⟨h2, fun i hi => ?_⟩
        have := h4 i hi
        rw [List.getElem?_eq_getElem (show i < xs.length by omega)] at this
        exact ih _ _ _ this n
      · trivial

theorem rd_of_Trod {H : Type} {enc : TypeId × Value → H} {P : Program} {w : World} {sp : Nat → Bool} {held : Bool} {t : TypeId} {v : Value} {d : DataW H} {ps : List MemPlace} (h : DataW.Trod enc P w 0 sp held t v d ps) (n : Nat) : Rd P w n t v.cells.toList := by
  obtain ⟨fuel, h⟩ := h
  exact rd_of_trod _ _ _ _ h n
/-- The fields' cells read zs their types say. -/
def RdF (P : Program) (w : World) (n : Nat) (cs : List Value) : List Field → Prop
  | [] => True
  | f :: l => Rd P w n f.type ((cs.drop f.offset).take (P.cellsOf f.type)) ∧ RdF P w n cs l
section
variable {P : Program} {w : World} {n : Nat} {t : TypeId} {cs : List Value}
theorem rd_struct {l : List Field} (hu : P.underlying t = some (.struct l.toArray)) (h : Rd P w (n + 1) t cs) : cs.length = P.cellsOf t ∧ RdF P w n cs l := by
  unfold Rd at h
  rw [hu] at h
  refine ⟨h.1, ?_⟩
  have h2 := h.2
  clear hu h
  simp only at h2
  induction l with
  | nil => trivial
  | cons f l ih => exact ⟨h2 f (by simp), ih fun g hg => h2 g (by simp at hg ⊢; exact .inr hg)⟩
theorem rd_array {m : Nat} {e : TypeId} (hu : P.underlying t = some (.array m e)) (h : Rd P w (n + 1) t cs) : cs.length = P.cellsOf t ∧ ∀ i, i < m → Rd P w n e ((cs.drop (i * P.cellsOf e)).take (P.cellsOf e)) := by
  unfold Rd at h
  rw [hu] at h
  exact h
theorem rd_int {k : IntKind} (hu : P.underlying t = some (.int k)) (h : Rd P w (n + 1) t cs) : ∃ i, cs = [.int k i] ∧ (Lit.int k i).wf = true := by
  unfold Rd at h
  rw [hu] at h
  exact h
theorem rd_bool (hu : P.underlying t = some .bool) (h : Rd P w (n + 1) t cs) : ∃ b, cs = [.bool b] := by
  unfold Rd at h
  rw [hu] at h
  exact h
theorem rd_string (hu : P.underlying t = some .string) (h : Rd P w (n + 1) t cs) : ∃ s, cs = [.string s] ∧ s.size ≤ maxLen := by
  unfold Rd at h
  rw [hu] at h
  exact h
theorem rd_slice {e : TypeId} (hu : P.underlying t = some (.slice e)) (h : Rd P w (n + 1) t cs) : cs = [.slice none 0 0] ∨ ∃ a len cap, cs = [.slice (some a) len cap] ∧ len ≤ cap ∧ cap ≤ maxLen ∧
        ∀ i, i < len → ∃ ec, w.cells? 0 (a.add (i * P.cellsOf e)) (P.cellsOf e) = some ec ∧ Rd P w n e ec := by
  unfold Rd at h
  rw [hu] at h
  exact h
end

/-! ### The laid sentinels of a list -/
def sentD (nm : String) (x : String × List UInt8) : String × DataW Unit := (x.1, .iface nm (.ptr (.agg [.lit (.string x.2)])))

theorem sent_list {P : Program} {W : World} {nm : String} {ti tp te ts : TypeId} {ms : Array (String × TypeId)} {f : Field}
    (hi : P.underlying ti = some (.interface ms)) (hrow : ∀ u, P.typeName? 3 u = some nm → u = tp)
    (hp : P.underlying tp = some (.pointer te)) (he : P.underlying te = some (.struct #[f])) (hft : f.type = ts) (hfo : f.offset = 0) (hs : P.underlying ts = some .string) (hc : P.cellsOf te = 1) (hcs : P.cellsOf ts = 1) :
    ∀ (l : List (String × List UInt8)) (ps : List MemPlace), DataW.LaidVars P W (l.map (sentD nm)) ps →
      (∀ x ∈ l, ∃ g, P.globalNamed x.1 = some g ∧ (P.globals[g]?).map (·.type) = some ti) →
      (∀ b off, MemPlace.cell b off ∈ ps → (∃ c t, W.heap[b]? = some (.cells c t (0, 0))) ∧ ∀ u v, W.cell? ⟨b, off, none⟩ = some (.iface u v) → Value.okWide P W .any 0 u v) →
      ∃ zs : List Addr, zs.length = l.length ∧ (zs.map fun a => MemPlace.cell a.block a.off).Sublist ps ∧
        ∀ (i : Nat) (x : String × List UInt8), l[i]? = some x → ∃ a s, zs[i]? = some a ∧ W.var? P x.1 = some #[.iface tp (.pointer (some a))] ∧ W.cell? a = some (.string s) ∧ s.data.toList = x.2 ∧ s.size ≤ maxLen ∧
          ∃ c t, W.heap[a.block]? = some (.cells c t (0, 0)) := by
  intro l
  induction l with
  | nil => intro ps _ _ _; exact ⟨[], rfl, by simp, by simp⟩
  | cons y l ih =>
    intro ps hv hg hrows
    obtain ⟨g0', t0', cs0, f0, p0, q0, hg0', ht0', hv0, hd0, hq, e0⟩ := hv
    subst e0
    obtain ⟨g, hg1, hg2⟩ := hg y (by simp)
    obtain rfl := Option.some.inj (hg1.symm.trans hg0')
    obtain rfl := Option.some.inj (hg2.symm.trans ht0')
    obtain ⟨l0⟩ := cs0
    have ok0 : ∀ u v, l0 = [.iface u v] → Value.okWide P W .any 0 u v := fun u v e => by
      subst e
      exact (hrows g 0 (by simp [MemPlace.row])).2 u v (by simpa using World.var?_cell hg0' hv0 0)
    obtain ⟨a0, s0, rfl, hc0, hs0, hz0, rfl⟩ := errorString_of_trod hi hrow hp he hft hfo hs hc hcs hd0 ok0
    obtain ⟨zs, h1, h2, h3⟩ := ih q0 hq (fun x hx => hg x (by simp [hx])) (fun b off hm => hrows b off (List.mem_append_right _ hm))
    refine ⟨a0 :: zs, by simp [h1], ?_, ?_⟩
    · have e : MemPlace.row a0 1 = [.cell a0.block a0.off] := by simp [MemPlace.row]
      rw [e, List.map_cons, List.append_assoc]
      exact (h2.cons_cons _).trans (List.sublist_append_right _ _)
    · intro i x hx
      cases i with
      | zero =>
        simp only [List.getElem?_cons_zero, Option.some.injEq] at hx
        subst hx
        exact ⟨a0, s0, rfl, hv0, hc0, hs0, hz0, (hrows a0.block a0.off (by simp [MemPlace.row])).1⟩
      | succ i => exact h3 i x (by simpa using hx)

theorem sent_ne {zs : List Addr} {ps : List MemPlace} (h : (zs.map fun a => MemPlace.cell a.block a.off).Sublist ps) (hn : ps.Nodup) {i j : Nat} {a b : Addr} (hi : zs[i]? = some a) (hj : zs[j]? = some b) (hne : i ≠ j) : a ≠ b := by
  have hd := List.pairwise_iff_getElem.1 (List.Nodup.sublist h hn)
  rintro rfl
  obtain ⟨hi1, hi2⟩ := List.getElem?_eq_some_iff.1 hi
  obtain ⟨hj1, hj2⟩ := List.getElem?_eq_some_iff.1 hj
  rcases Nat.lt_or_gt_of_ne hne with hlt | hlt
  · exact hd i j (by simpa using hi1) (by simpa using hj1) hlt (by simp [hi2, hj2])
  · exact hd j i (by simpa using hj1) (by simpa using hi1) hlt (by simp [hi2, hj2])

/-- A named variable's block. -/
theorem blk_of_var {P : Program} {W : World} {n : String} {g : Nat} {cs : Array Value} (hg : P.globalNamed n = some g) (h : W.var? P n = some cs) : ∃ t f, blk W g = some (.cells cs t f) := by
  unfold World.var? at h
  rw [hg] at h
  simp only [Option.bind_some] at h
  unfold blk
  split at h
  · rename_i c t f hb
    simp only [Option.some.injEq] at h
    subst h
    exact ⟨t, f, hb⟩
  · cases h
end Go.Ev
end
section
namespace Go.Ev
open Go Go.RowKit
/-! ### Elements of slices of records -/
theorem SlIs.cell {w : World} {a : Option Addr} {n sz : Nat} {vs : List Value} (h : SlIs w a n sz vs) {i j : Nat} (hi : i < n) (hj : j < sz) :
    ∃ b o c t f, a = some ⟨b, o, none⟩ ∧ Ev.blk w b = some (.cells c t f) ∧ c[o + i * sz + j]? = vs[i * sz + j]? := by
  obtain ⟨b, o, c, t, f, ha, hb, hle, hc⟩ := h.at hi (by omega)
  refine ⟨b, o, c, t, f, ha, hb, ?_⟩
  have e := congrArg (fun l : List Value => l[j]?) hc
  simp only [List.getElem?_take_of_lt hj, List.getElem?_drop] at e
  simpa using e
theorem flat_cell {α : Type} {F : α → List Value} {sz : Nat} (hF : ∀ x, (F x).length = sz) {l : List α} {i j : Nat} (hi : i < l.length) (hj : j < sz) : (l.flatMap F)[i * sz + j]? = (F l[i])[j]? := by
  have e := congrArg (fun l : List Value => l[j]?) (flat_get F sz hF l i hi)
  simp only [List.getElem?_take_of_lt hj, List.getElem?_drop] at e
  exact e
/-- 'x[i].f' of a slice of records. -/
theorem kixfld_of {α : Type} {F : α → List Value} {sz : Nat} (hF : ∀ x, (F x).length = sz) {w w' : World} {a : Option Addr} {l : List α} {c : Nat} {e : TypeId} {k : IntKind} {i j : Nat} {K : Value → Prop} {v : Value}
    (h : SlIs w a l.length sz (l.flatMap F)) (hi : i < l.length) (hv : (F l[i])[j]? = some v) (hw : w'.heap = w.heap) (hK : K v) :
    kix (some (.slice e)) (some sz) (.slice a l.length c) (.int k i) fun v1 => kfld j v1 fun v2 => kld v2 w' K := by
  have hj : j < sz := by rw [← hF l[i]]; exact (List.getElem?_eq_some_iff.1 hv).1
  obtain ⟨b, o, cs, t, f, rfl, hb, hc⟩ := h.cell hi hj
  rw [flat_cell hF hi hj, hv] at hc
  rw [kix_slice]
  refine kG_of (by omega) ?_
  rw [add_mk]
  refine kfld_of ?_
  refine kld_of (c := cs) (t := t) (f := f) (v := v) (by unfold blk at *; rw [hw]; exact hb) ?_ hK
  simpa using hc
/-- 'x[i]' of a slice of whole values of one cell. -/
theorem kixld_of {α : Type} {F : α → Value} {w w' : World} {a : Option Addr} {l : List α} {c : Nat} {e : TypeId} {k : IntKind} {i : Nat} {K : Value → Prop}
    (h : SlIs w a l.length 1 (l.map F)) (hi : i < l.length) (hw : w'.heap = w.heap) (hK : K (F l[i])) :
    kix (some (.slice e)) (some 1) (.slice a l.length c) (.int k i) fun v1 => kld v1 w' K := by
  obtain ⟨b, o, cs, t, f, rfl, hb, hc⟩ := h.cell (j := 0) hi (by omega)
  rw [kix_slice]
  refine kG_of (by omega) ?_
  rw [add_mk]
  refine kld_of (c := cs) (t := t) (f := f) (v := F l[i]) (by unfold blk at *; rw [hw]; exact hb) ?_ hK
  have : (l.map F)[i * 1 + 0]? = some (F l[i]) := by simp [hi]
  rw [this] at hc
  simpa using hc
/-- 'x[i]' of a slice of records, whole. -/
theorem kixldN_of {α : Type} {F : α → List Value} {sz : Nat} (hF : ∀ x, (F x).length = sz) (hs : 0 < sz) {w w' : World} {a : Option Addr} {l : List α} {c : Nat} {e : TypeId} {k : IntKind} {i : Nat} {K : Value → Prop}
    (h : SlIs w a l.length sz (l.flatMap F)) (hi : i < l.length) (hw : w'.heap = w.heap) (hK : K (.agg (F l[i]).toArray)) :
    kix (some (.slice e)) (some sz) (.slice a l.length c) (.int k i) fun v1 => kldN sz v1 w' K := by
  obtain ⟨b, o, cs, t, f, rfl, hb, hle, hc⟩ := h.at hi hs
  rw [flat_get F sz hF l i hi] at hc
  rw [kix_slice]
  refine kG_of (by omega) ?_
  rw [add_mk]
  exact kldN_of (c := cs) (t := t) (f := f) (by unfold blk at *; rw [hw]; exact hb) (by simpa using hle) (by simpa using hc) hs hK
theorem kext_of {vs : Array Value} {i : Nat} {v : Value} {K : Value → Prop} (h : vs[i]? = some v) (hk : K v) : kext (.tuple vs) i K := by
  rw [kext_tuple, h]; exact hk
theorem kO_of {α : Type} {o : Option α} {a : α} {K : α → Prop} (h : o = some a) (hk : K a) : kO o K := by
  rw [h]; exact hk
/-- 'x[:n]' of an array. -/
theorem ksl_arr_hi {b o l n sz : Nat} {e : TypeId} {k : IntKind} {K : Value → Prop} (h : n ≤ l) (hK : K (.slice (some ⟨b, o, none⟩) n l)) : ksl (some (.array l e)) (some sz) (.pointer (some ⟨b, o, none⟩)) none (some (.int k n)) K := by
  rw [ksl_array rfl rfl]
  refine kG_of (by simp only [loV_none, hiV_int]; omega) ?_
  have e1 : (if l = (loV none).toNat then (⟨b, o, none⟩ : Addr) else Addr.add ⟨b, o, none⟩ ((loV none).toNat * sz)) = ⟨b, o, none⟩ := by
    split
    · rfl
    · simp
  have e2 : ((hiV l (some (Value.int k (n : Int)))).toNat - (loV none).toNat) = n := by simp
  have e3 : l - (loV none).toNat = l := by simp
  rw [e1, e2, e3]
  exact hK
end Go.Ev
end
section
namespace Go.Ev
open Go Go.RowKit Go.ChangeShapes
/-! ### Slices of records, read -/
theorem slIs_of_rd {α : Type} {F : α → List Value} {sz : Nat} (hF : ∀ x, (F x).length = sz) (hsz : 0 < sz) {ok : α → Prop} {P : Program} {w : World} {n : Nat} {t e : TypeId} {cs : List Value}
    (hu : P.underlying t = some (.slice e)) (he : P.cellsOf e = sz) (hel : ∀ ec, Rd P w n e ec → ∃ x, ok x ∧ F x = ec) (h : Rd P w (n + 1) t cs) :
    ∃ (a : Option Addr) (l : List α) (c : Nat), cs = [.slice a l.length c] ∧ (∀ x ∈ l, ok x) ∧ l.length ≤ c ∧ c ≤ maxLen ∧ SlIs w a l.length sz (l.flatMap F) := by
  rcases rd_slice hu h with rfl | ⟨a, len, cap, rfl, h1, h2, h3⟩
  · exact ⟨none, [], 0, rfl, by simp, by simp, by simp, SlIs.nil _ _ _⟩
  rw [he] at h3
  have key : ∀ m, m ≤ len → ∃ l : List α, l.length = m ∧ (∀ x ∈ l, ok x) ∧ ∀ i (hi : i < l.length), ∀ j, j < sz → w.cell? ((a.add (i * sz)).add j) = (F l[i])[j]? := by
    intro m
    induction m with
    | zero => intro _; exact ⟨[], rfl, by simp, by simp⟩
    | succ m ih =>
      intro hm
      obtain ⟨l, hl, hok, hc⟩ := ih (by omega)
      obtain ⟨ec, g1, g2⟩ := h3 m (by omega)
      obtain ⟨x, hx, rfl⟩ := hel ec g2
      refine ⟨l ++ [x], by simp [hl], ?_, ?_⟩
      · intro y hy
        rcases List.mem_append.1 hy with hy | hy
        · exact hok y hy
        · rw [List.mem_singleton.1 hy]; exact hx
      · intro i hi j hj
        by_cases hlt : i < l.length
        · rw [List.getElem_append_left hlt]; exact hc i hlt j hj
        · have : i = m := by simp at hi; omega
          subst this
          have e : (l ++ [x])[i]'hi = x := by rw [List.getElem_append_right (by omega)]; simp
          rw [e]
          unfold World.cells? at g1
          rw [if_pos (Nat.zero_le _)] at g1
          exact mapM_some_get g1 j j (by simp [hj])
  obtain ⟨l, hl, hok, hc⟩ := key len (Nat.le_refl _)
  refine ⟨some a, l, cap, by rw [hl], hok, by omega, h2, ?_⟩
  by_cases h0 : l.length = 0
  · have : l = [] := List.length_eq_zero_iff.1 h0
    subst this
    exact SlIs.nil _ _ _
  have hlen := flat_len F sz hF l
  refine ⟨hlen, .inr ?_⟩
  obtain ⟨b, o, s⟩ := a
  have hc0 := hc 0 (by omega) 0 hsz
  have hF0 : (F l[0])[0]? = some ((F (l[0]'(by omega)))[0]'(by rw [hF]; exact hsz)) := by rw [List.getElem?_eq_getElem]
  rw [hF0] at hc0
  have ea : Addr.add ⟨b, o, s⟩ 0 = ⟨b, o, s⟩ := rfl
  rw [Nat.zero_mul, ea, ea] at hc0
  have hb : ∃ c t f, Ev.blk w b = some (.cells c t f) ∧ s = none := by
    unfold World.cell? at hc0
    split at hc0
    · rename_i c t f hh
      refine ⟨c, t, f, hh, ?_⟩
      split at hc0
      · cases hc0
      · rename_i hs
        cases s with
        | none => rfl
        | some s => exact absurd (show (some s).isSome = true from rfl) hs
    · cases hc0
  obtain ⟨c, t', f, hb, rfl⟩ := hb
  refine ⟨b, o, c, t', f, rfl, hb, ?_⟩
  apply List.ext_getElem?
  intro k
  by_cases hk : k < l.length * sz
  · have hi : k / sz < l.length := Nat.div_lt_of_lt_mul (by rw [Nat.mul_comm]; exact hk)
    have hj : k % sz < sz := Nat.mod_lt _ hsz
    have e : k / sz * sz + k % sz = k := by rw [Nat.mul_comm]; exact Nat.div_add_mod k sz
    have h4 := hc (k / sz) hi (k % sz) hj
    rw [add_mk, add_mk, cell_mk, hb, cellO_some, Nat.add_assoc, e] at h4
    have h5 := flat_cell hF hi hj
    rw [e] at h5
    rw [List.getElem?_take_of_lt hk, List.getElem?_drop, h5, ← h4]
    simp
  · rw [List.getElem?_eq_none (by rw [List.length_take]; omega), List.getElem?_eq_none (by rw [hlen]; omega)]
end Go.Ev
end
section
namespace Go.Proofs.YtcabkicjboedaaaDoor
open Go Go.Ev
set_option linter.unusedVariables false
set_option linter.unusedSimpArgs false
set_option maxRecDepth 100000

/-! ### Bytes -/
def bs (l : List UInt8) : ByteArray := ⟨l.toArray⟩
@[simp] theorem bs_size (l : List UInt8) : (bs l).size = l.length := by simp [bs, ByteArray.size]
theorem bs_get (l : List UInt8) (i : Nat) : (bs l)[i]? = l[i]? := by
  rw [getElem?_def]
  split
  · rename_i h
    have h' : i < l.length := by simpa using h
    rw [List.getElem?_eq_getElem h']
    rfl
  · rename_i h
    have h' : ¬ i < l.length := by simpa using h
    rw [List.getElem?_eq_none (by omega)]
theorem bs_of (s : ByteArray) : bs s.data.toList = s := by cases s; rfl
theorem bs_inj {a b : List UInt8} : bs a = bs b ↔ a = b := by
  constructor
  · intro h
    have := congrArg (fun s : ByteArray => s.data.toList) h
    simpa [bs] using this
  · rintro rfl; rfl
theorem bs_append (a b : List UInt8) : bs a ++ bs b = bs (a ++ b) := by
  apply ByteArray.ext
  simp [bs, ByteArray.data_append]
theorem bs_extract (l : List UInt8) (a b : Nat) : (bs l).extract a b = bs ((l.drop a).take (b - a)) := by
  apply ByteArray.ext
  simp [bs, ByteArray.data_extract, List.extract_eq_take_drop]
theorem bs_drop (l : List UInt8) (k : Nat) : (bs l).extract k l.length = bs (l.drop k) := by
  rw [bs_extract, List.take_of_length_le (by simp)]
theorem bs_nil : (⟨#[]⟩ : ByteArray) = bs [] := rfl

/-! ### Numbers as groups -/
def groupsF (n : Nat) : List UInt8 := if n < 128 then [UInt8.ofNat n] else UInt8.ofNat (n % 128 + 128) :: groupsF (n / 128)
termination_by n
decreasing_by omega
def parseGo : List UInt8 → Nat → Nat → Option (Nat × Nat)
  | [], _, _ => none
  | b :: r, i, n =>
    if 10 ≤ i then none
    else if i = 9 ∧ 1 < b.toNat then none
    else if 128 ≤ b.toNat then parseGo r (i + 1) (n + b.toNat % 128 * 2 ^ (7 * i))
    else if b.toNat = 0 ∧ 0 < i then none
    else some (n + b.toNat * 2 ^ (7 * i), i + 1)
def parseF (l : List UInt8) : Nat × Nat := (parseGo l 0 0).getD (0, 0)

theorem u64_of {a : Nat} (h : a < 18446744073709551616) : (BitVec.ofInt 64 (a : Int)).toNat = a := by
  simp [BitVec.ofInt_natCast]; omega
theorem u64_or {a b : Nat} (ha : a < 18446744073709551616) (hb : b < 18446744073709551616) : ior .u64 (a : Int) (b : Int) = ((a ||| b : Nat) : Int) := by
  have h : a ||| b < 2 ^ 64 := Nat.or_lt_two_pow (by omega) (by omega)
  show IntKind.u64.wrap ((BitVec.ofInt 64 (a : Int) ||| BitVec.ofInt 64 (b : Int)).toNat) = _
  rw [BitVec.toNat_or, u64_of ha, u64_of hb, wrap_u64 (by omega) (by omega)]
theorem u64_and {a b : Nat} (ha : a < 18446744073709551616) (hb : b < 18446744073709551616) : iand .u64 (a : Int) (b : Int) = ((a &&& b : Nat) : Int) := by
  have h : a &&& b < 2 ^ 64 := Nat.and_lt_two_pow a (by omega)
  show IntKind.u64.wrap ((BitVec.ofInt 64 (a : Int) &&& BitVec.ofInt 64 (b : Int)).toNat) = _
  rw [BitVec.toNat_and, u64_of ha, u64_of hb, wrap_u64 (by omega) (by omega)]
theorem tmod_nat (a b : Nat) : ((a : Nat) : Int).tmod (b : Int) = ((a % b : Nat) : Int) := by
  rw [Int.tmod_eq_emod_of_nonneg (Int.natCast_nonneg _)]; simp
theorem tdiv_nat (a b : Nat) : ((a : Nat) : Int).tdiv (b : Int) = ((a / b : Nat) : Int) := by
  rw [Int.tdiv_eq_ediv_of_nonneg (Int.natCast_nonneg _)]; simp
theorem shr_nat {k : IntKind} (m i : Nat) (hi : i ≤ k.bits) : ishr k (m : Int) (i : Int) = ((m / 2 ^ i : Nat) : Int) := by
  show (m : Int).fdiv (2 ^ (min i k.bits)) = _
  rw [Nat.min_eq_left hi, Int.fdiv_eq_ediv_of_nonneg _ (by exact Int.pow_nonneg (by omega))]
  simp
theorem shl_u64 {m i : Nat} (hi : i ≤ 64) (h : m * 2 ^ i < 18446744073709551616) : ishl .u64 (m : Int) (i : Int) = ((m * 2 ^ i : Nat) : Int) := by
  show IntKind.u64.wrap ((m : Int) * 2 ^ (min i 64)) = _
  have e : (m : Int) * 2 ^ i = ((m * 2 ^ i : Nat) : Int) := by simp
  rw [Nat.min_eq_left hi, e, wrap_u64 (by omega) (by omega)]
theorem or_add {n x j : Nat} (hn : n < 2 ^ j) : n ||| x * 2 ^ j = n + x * 2 ^ j := by
  rw [Nat.or_comm, Nat.mul_comm x, ← Nat.two_pow_add_eq_or_of_lt hn, Nat.add_comm]

/-- A number's groups, read back. -/
theorem parse_groups : ∀ (n : Nat) (i acc : Nat) (r : List UInt8), n * 2 ^ (7 * i) < 18446744073709551616 → (0 < n ∨ i = 0) → i ≤ 9 → parseGo (groupsF n ++ r) i acc = some (acc + n * 2 ^ (7 * i), i + (groupsF n).length) := by
  intro n
  induction n using Nat.strongRecOn with
  | _ n ih =>
    intro i acc r hn hpos hi
    rw [groupsF]
    have h63 : i = 9 → n ≤ 1 := by
      rintro rfl
      have : (2 : Nat) ^ (7 * 9) = 9223372036854775808 := by decide
      rw [this] at hn; omega
    by_cases h : n < 128
    · rw [if_pos h]
      have hb : (UInt8.ofNat n).toNat = n := by simp; omega
      simp only [List.cons_append, List.nil_append, parseGo, hb]
      rw [if_neg (by omega), if_neg (by omega), if_neg (by omega), if_neg (by omega)]
      simp
    · rw [if_neg h]
      have hb : (UInt8.ofNat (n % 128 + 128)).toNat = n % 128 + 128 := by simp; omega
      simp only [List.cons_append, parseGo, hb]
      rw [if_neg (by omega), if_neg (by omega), if_pos (by omega)]
      have e7 : (2 : Nat) ^ (7 * (i + 1)) = 128 * 2 ^ (7 * i) := by rw [Nat.mul_add, Nat.pow_add, Nat.mul_comm]
      have hd := Nat.div_add_mod n 128
      have hpos' := Nat.two_pow_pos (7 * i)
      have hle : n / 128 * (128 * 2 ^ (7 * i)) ≤ n * 2 ^ (7 * i) := by
        rw [← Nat.mul_assoc]; exact Nat.mul_le_mul_right _ (Nat.div_mul_le_self n 128)
      have h9 : i + 1 ≤ 9 := by
        have : i ≠ 9 := fun e => by have := h63 e; omega
        omega
      rw [ih (n / 128) (by omega) (i + 1) _ r (by rw [e7]; omega) (by omega) h9, e7]
      have e1 : (n % 128 + 128) % 128 = n % 128 := by omega
      have e2 : n * 2 ^ (7 * i) = n % 128 * 2 ^ (7 * i) + n / 128 * (128 * 2 ^ (7 * i)) := by
        conv => lhs; rw [← hd]
        rw [Nat.add_mul, Nat.mul_comm 128 (n / 128), Nat.mul_assoc, Nat.add_comm]
      rw [e1, e2]
      simp only [List.length_cons, Option.some.injEq, Prod.mk.injEq]
      omega
/-- What is read as a number is that number's groups. -/
theorem groups_parse : ∀ (l : List UInt8) (i acc m k : Nat), parseGo l i acc = some (m, k) → ∃ n, m = acc + n * 2 ^ (7 * i) ∧ (0 < n ∨ i = 0) ∧ n * 2 ^ (7 * i) < 18446744073709551616 ∧ i < k ∧ l = groupsF n ++ l.drop (k - i) ∧ (groupsF n).length = k - i
  | [], i, acc, m, k, h => by simp [parseGo] at h
  | b :: r, i, acc, m, k, h => by
    have hb := b.toNat_lt
    rw [parseGo] at h
    split at h
    · cases h
    rename_i h10
    split at h
    · cases h
    rename_i h9
    have e7 : (2 : Nat) ^ (7 * (i + 1)) = 128 * 2 ^ (7 * i) := by rw [Nat.mul_add, Nat.pow_add, Nat.mul_comm]
    split at h
    · rename_i h128
      obtain ⟨n, h1, h2, h3, h4, h5, h6⟩ := groups_parse r (i + 1) _ m k h
      rw [e7] at h1 h3
      have hn : 0 < n := by omega
      refine ⟨n * 128 + b.toNat % 128, ?_, by omega, ?_, by omega, ?_, ?_⟩
      · rw [h1, Nat.add_mul, Nat.mul_assoc]; omega
      · have hi8 : i ≤ 8 := by
          have : i ≠ 9 := fun e => h9 ⟨e, by omega⟩
          omega
        have hp : (2 : Nat) ^ (7 * i) ≤ 2 ^ 56 := Nat.pow_le_pow_right (by omega) (by omega)
        have hpow : 2 ^ (7 * i) * 2 ^ (64 - 7 * i) = 18446744073709551616 := by
          rw [← Nat.pow_add, show 7 * i + (64 - 7 * i) = 64 by omega]
        have hsplit : 2 ^ (64 - 7 * i) = 128 * 2 ^ (57 - 7 * i) := by
          rw [show 64 - 7 * i = 7 + (57 - 7 * i) by omega, Nat.pow_add]
        have hpos := Nat.two_pow_pos (7 * i)
        have hn2 : n < 2 ^ (57 - 7 * i) := by
          by_cases hlt : n < 2 ^ (57 - 7 * i)
          · exact hlt
          · have : 2 ^ (57 - 7 * i) * (128 * 2 ^ (7 * i)) ≤ n * (128 * 2 ^ (7 * i)) := Nat.mul_le_mul_right _ (by omega)
            have e : 2 ^ (57 - 7 * i) * (128 * 2 ^ (7 * i)) = 2 ^ (7 * i) * (128 * 2 ^ (57 - 7 * i)) := by
              rw [← Nat.mul_assoc, Nat.mul_comm _ (2 ^ (7 * i)), Nat.mul_comm _ 128]
            rw [e, ← hsplit, hpow] at this
            omega
        have : n * 128 + b.toNat % 128 < 2 ^ (64 - 7 * i) := by rw [hsplit]; omega
        exact Nat.lt_of_lt_of_eq (Nat.mul_lt_mul_of_pos_right this hpos) (by rw [Nat.mul_comm, hpow])
      · rw [groupsF, if_neg (by omega)]
        have e1 : (n * 128 + b.toNat % 128) % 128 + 128 = b.toNat := by omega
        have e2 : (n * 128 + b.toNat % 128) / 128 = n := by omega
        rw [e1, e2, show k - i = (k - (i + 1)) + 1 by omega, List.drop_succ_cons, List.cons_append, ← h5]
        simp
      · rw [groupsF, if_neg (by omega)]
        have e2 : (n * 128 + b.toNat % 128) / 128 = n := by omega
        rw [e2, List.length_cons, h6]; omega
    · rename_i h128
      split at h
      · cases h
      rename_i h0
      simp only [Option.some.injEq, Prod.mk.injEq] at h
      obtain ⟨rfl, rfl⟩ := h
      refine ⟨b.toNat, rfl, by omega, ?_, by omega, ?_, ?_⟩
      · by_cases e : i = 9
        · subst e
          have : (2 : Nat) ^ (7 * 9) = 9223372036854775808 := by decide
          rw [this]; omega
        · have hp : (2 : Nat) ^ (7 * i) ≤ 2 ^ 56 := Nat.pow_le_pow_right (by omega) (by omega)
          have : b.toNat * 2 ^ (7 * i) ≤ 127 * 2 ^ 56 := Nat.mul_le_mul (by omega) hp
          omega
      · rw [groupsF, if_pos (by omega)]; simp
      · rw [groupsF, if_pos (by omega)]; simp
end Go.Proofs.YtcabkicjboedaaaDoor
end
section
namespace Go.Proofs.YtcabkicjboedaaaDoor
open Go Go.Ev
set_option linter.unusedVariables false
set_option maxRecDepth 100000

/-! pasodoble/strand.NewReader -/
def f36 (x0 : Value) (Q : Value → World → Prop) (w : World) : Prop :=
  kbld [(.string ⟨#[]⟩), (.bool false)] [(0, 1, x0)] fun v1 =>
  knew (Value.cells v1) 136 w fun v2 w3 =>
  Q v2 w3

theorem f36_eq (x0 : Value) (Q : Value → World → Prop) (w : World) : f36 x0 Q w = fnVC Tryd.prog Tryd.f36 [] (Tryd.f36.body.get rfl) [x0] w Q := by kernel_rfl
theorem f36_ok {x0 : Value} {Q : Value → World → Prop} {w : World} (h : f36 x0 Q w) : Meets Tryd.prog 36 #[x0] w Q :=
  sound (c := (Tryd.f36.body.get rfl)) [] Tryd.func36 rfl rfl (args := [x0]) rfl (Eq.mp (f36_eq x0 Q w) h)

/-! (*pasodoble/strand.Reader).right -/
def f94 (x0 : Value) (Q : Value → World → Prop) (w : World) : Prop :=
  keq Tryd.prog .neq 87 false true x0 (.pointer none) w fun v1 w2 =>
  kB v1 fun b3 => kIf b3
  (kN x0 <|
  kfld 1 x0 fun v4 =>
  kld v4 w2 fun v5 =>
  kun .not (some .bool) v5 fun v6 =>
  Q v6 w2)
  (Q (.bool false) w2)

theorem f94_eq (x0 : Value) (Q : Value → World → Prop) (w : World) : f94 x0 Q w = fnVC Tryd.prog Tryd.f94 [] (Tryd.f94.body.get rfl) [x0] w Q := by kernel_rfl
theorem f94_ok {x0 : Value} {Q : Value → World → Prop} {w : World} (h : f94 x0 Q w) : Meets Tryd.prog 94 #[x0] w Q :=
  sound (c := (Tryd.f94.body.get rfl)) [] Tryd.func94 rfl rfl (args := [x0]) rfl (Eq.mp (f94_eq x0 Q w) h)

/-! pasodoble/strand.parse -/
def f95_4 (Q : Value → World → Prop) (w : World) : Prop :=
  Q (.tuple #[(.int .u64 0), (.int .i64 0)]) w

def f95_6 (x0 : Value) (x2 : Value) (x4 : Value) (J2 : Value → Value → World → Prop) (Q : Value → World → Prop) (w : World) : Prop :=
  kint .i64 .add x4 (.int .i64 1) fun v16 =>
  J2 x2 v16 w

def f95_9 (x2 : Value) (x4 : Value) (J2 : Value → Value → World → Prop) (Q : Value → World → Prop) (w : World) : Prop :=
  kint .i64 .add x4 (.int .i64 1) fun v20 =>
  Q (.tuple #[x2, v20]) w

def f95_8 (x2 : Value) (x4 : Value) (x40 : Value) (J2 : Value → Value → World → Prop) (Q : Value → World → Prop) (w : World) : Prop :=
  kB x40 fun b21 => kIf b21
  (f95_4 Q w)
  (f95_9 x2 x4 J2 Q w)

def f95_7 (x2 : Value) (x4 : Value) (x5 : Value) (J2 : Value → Value → World → Prop) (Q : Value → World → Prop) (w : World) : Prop :=
  kint .u64 .eql x5 (.int .u64 0) fun v17 =>
  kB v17 fun b18 => kIf b18
  (kint .i64 .gtr x4 (.int .i64 0) fun v19 =>
  f95_8 x2 x4 v19 J2 Q w)
  (f95_8 x2 x4 (.bool false) J2 Q w)

def f95_5 (x0 : Value) (x2 : Value) (x4 : Value) (x5 : Value) (J2 : Value → Value → World → Prop) (Q : Value → World → Prop) (w : World) : Prop :=
  kint .u64 .rem x5 (.int .u64 128) fun v11 =>
  kint .i64 .mul (.int .i64 7) x4 fun v12 =>
  kint .u64 .shl v11 v12 fun v13 =>
  kint .u64 .or x2 v13 fun v14 =>
  kint .u64 .geq x5 (.int .u64 128) fun v15 =>
  kB v15 fun b22 => kIf b22
  (f95_6 x0 v14 x4 J2 Q w)
  (f95_7 v14 x4 x5 J2 Q w)

def f95_3 (x0 : Value) (x2 : Value) (x4 : Value) (x5 : Value) (x25 : Value) (J2 : Value → Value → World → Prop) (Q : Value → World → Prop) (w : World) : Prop :=
  kB x25 fun b23 => kIf b23
  (f95_4 Q w)
  (f95_5 x0 x2 x4 x5 J2 Q w)

def f95_2 (x0 : Value) (x2 : Value) (x4 : Value) (J2 : Value → Value → World → Prop) (Q : Value → World → Prop) (w : World) : Prop :=
  kiv Tryd.prog (some .string) x0 x4 fun v6 =>
  kcnv .u64 v6 fun v7 =>
  kint .i64 .eql x4 (.int .i64 9) fun v8 =>
  kB v8 fun b9 => kIf b9
  (kint .u64 .gtr v7 (.int .u64 1) fun v10 =>
  f95_3 x0 x2 x4 v7 v10 J2 Q w)
  (f95_3 x0 x2 x4 v7 (.bool false) J2 Q w)

def f95_1 (x0 : Value) (x2 : Value) (x4 : Value) (x13 : Value) (J2 : Value → Value → World → Prop) (Q : Value → World → Prop) (w : World) : Prop :=
  kB x13 fun b24 => kIf b24
  (f95_2 x0 x2 x4 J2 Q w)
  (f95_4 Q w)

def f95_0 (x2 : Value) (x4 : Value) (x0 : Value) (J2 : Value → Value → World → Prop) (Q : Value → World → Prop) (w : World) : Prop :=
  klenStr x0 fun v1 =>
  kint .i64 .lss x4 v1 fun v3 =>
  kB v3 fun b4 => kIf b4
  (kint .i64 .lss x4 (.int .i64 10) fun v5 =>
  f95_1 x0 x2 x4 v5 J2 Q w)
  (f95_1 x0 x2 x4 (.bool false) J2 Q w)

def f95 (x0 : Value) (Q : Value → World → Prop) (w : World) : Prop :=
  kL fun (I : Value → Value → World → Prop) (μ : Value → Value → World → Nat) => I (.int .u64 0) (.int .i64 0) w ∧ ∀ (x2 x4 : Value) (w1 : World), I x2 x4 w1 →
  f95_0 x2 x4 x0 (fun y2 y4 w2 => I y2 y4 w2 ∧ μ y2 y4 w2 < μ x2 x4 w1) Q w1

theorem f95_eq (x0 : Value) (Q : Value → World → Prop) (w : World) : f95 x0 Q w = fnVC Tryd.prog Tryd.f95 [(2, [2, 4])] (Tryd.f95.body.get rfl) [x0] w Q := by kernel_rfl
theorem f95_ok {x0 : Value} {Q : Value → World → Prop} {w : World} (h : f95 x0 Q w) : Meets Tryd.prog 95 #[x0] w Q :=
  sound (c := (Tryd.f95.body.get rfl)) [(2, [2, 4])] Tryd.func95 rfl rfl (args := [x0]) rfl (Eq.mp (f95_eq x0 Q w) h)

/-! (*pasodoble/strand.Reader).number -/
def f73_2 (x0 : Value) (x6 : Value) (x7 : Value) (Q : Value → World → Prop) (w : World) : Prop :=
  kN x0 <|
  kfld 0 x0 fun v15 =>
  kld v15 w fun v16 =>
  ksl (some .string) none v16 (some x7) none fun v17 =>
  kN x0 <|
  kfld 0 x0 fun v18 =>
  kst 1 v18 v17 w fun w19 =>
  Q (.tuple #[x6, (.bool true)]) w19

def f73_1 (x0 : Value) (x6 : Value) (x7 : Value) (x25 : Value) (Q : Value → World → Prop) (w : World) : Prop :=
  kB x25 fun b20 => kIf b20
  (kN x0 <|
  kfld 1 x0 fun v13 =>
  kst 1 v13 (.bool true) w fun w14 =>
  Q (.tuple #[(.int .u64 0), (.bool false)]) w14)
  (f73_2 x0 x6 x7 Q w)

def f73_0 (x0 : Value) (x1 : Value) (Q : Value → World → Prop) (w : World) : Prop :=
  kN x0 <|
  kfld 0 x0 fun v4 =>
  kld v4 w fun v5 =>
  kcall Tryd.prog 95 #[v5] w fun v6 w7 =>
  kext v6 0 fun v8 =>
  kext v6 1 fun v9 =>
  kint .i64 .eql v9 (.int .i64 0) fun v10 =>
  kB v10 fun b11 => kIf (!b11)
  (kint .u64 .gtr v8 x1 fun v12 =>
  f73_1 x0 v8 v9 v12 Q w7)
  (f73_1 x0 v8 v9 (.bool true) Q w7)

def f73 (x0 : Value) (x1 : Value) (Q : Value → World → Prop) (w : World) : Prop :=
  kcall Tryd.prog 94 #[x0] w fun v1 w2 =>
  kun .not (some .bool) v1 fun v3 =>
  kB v3 fun b21 => kIf b21
  (Q (.tuple #[(.int .u64 0), (.bool false)]) w2)
  (f73_0 x0 x1 Q w2)

theorem f73_eq (x0 : Value) (x1 : Value) (Q : Value → World → Prop) (w : World) : f73 x0 x1 Q w = fnVC Tryd.prog Tryd.f73 [] (Tryd.f73.body.get rfl) [x0, x1] w Q := by kernel_rfl
theorem f73_ok {x0 : Value} {x1 : Value} {Q : Value → World → Prop} {w : World} (h : f73 x0 x1 Q w) : Meets Tryd.prog 73 #[x0, x1] w Q :=
  sound (c := (Tryd.f73.body.get rfl)) [] Tryd.func73 rfl rfl (args := [x0, x1]) rfl (Eq.mp (f73_eq x0 x1 Q w) h)

/-! (*pasodoble/strand.Reader).Count -/
def f38 (x0 : Value) (Q : Value → World → Prop) (w : World) : Prop :=
  kcall Tryd.prog 73 #[x0, (.int .u64 9223372036854775807)] w fun v1 w2 =>
  kext v1 0 fun v3 =>
  kext v1 1 fun v4 =>
  kcnv .i64 v3 fun v5 =>
  Q v5 w2

theorem f38_eq (x0 : Value) (Q : Value → World → Prop) (w : World) : f38 x0 Q w = fnVC Tryd.prog Tryd.f38 [] (Tryd.f38.body.get rfl) [x0] w Q := by kernel_rfl
theorem f38_ok {x0 : Value} {Q : Value → World → Prop} {w : World} (h : f38 x0 Q w) : Meets Tryd.prog 38 #[x0] w Q :=
  sound (c := (Tryd.f38.body.get rfl)) [] Tryd.func38 rfl rfl (args := [x0]) rfl (Eq.mp (f38_eq x0 Q w) h)

/-! (*pasodoble/strand.Reader).Num -/
def f39_0 (x5 : Value) (Q : Value → World → Prop) (w : World) : Prop :=
  Q x5 w

def f39 (x0 : Value) (Q : Value → World → Prop) (w : World) : Prop :=
  kcall Tryd.prog 73 #[x0, (.int .u64 18446744073709551615)] w fun v1 w2 =>
  kext v1 0 fun v3 =>
  kext v1 1 fun v4 =>
  kint .u64 .shr v3 (.int .u64 1) fun v5 =>
  kcnv .i64 v5 fun v6 =>
  kint .u64 .and v3 (.int .u64 1) fun v7 =>
  kint .u64 .eql v7 (.int .u64 1) fun v8 =>
  kB v8 fun b10 => kIf b10
  (kun .xor (some (.int .i64)) v6 fun v9 =>
  f39_0 v9 Q w2)
  (f39_0 v6 Q w2)

theorem f39_eq (x0 : Value) (Q : Value → World → Prop) (w : World) : f39 x0 Q w = fnVC Tryd.prog Tryd.f39 [] (Tryd.f39.body.get rfl) [x0] w Q := by kernel_rfl
theorem f39_ok {x0 : Value} {Q : Value → World → Prop} {w : World} (h : f39 x0 Q w) : Meets Tryd.prog 39 #[x0] w Q :=
  sound (c := (Tryd.f39.body.get rfl)) [] Tryd.func39 rfl rfl (args := [x0]) rfl (Eq.mp (f39_eq x0 Q w) h)

/-! (*pasodoble/strand.Reader).Byte -/
def f98_1 (x0 : Value) (Q : Value → World → Prop) (w : World) : Prop :=
  kN x0 <|
  kfld 0 x0 fun v9 =>
  kld v9 w fun v10 =>
  kiv Tryd.prog (some .string) v10 (.int .i64 0) fun v11 =>
  kN x0 <|
  kfld 0 x0 fun v12 =>
  kld v12 w fun v13 =>
  ksl (some .string) none v13 (some (.int .i64 1)) none fun v14 =>
  kN x0 <|
  kfld 0 x0 fun v15 =>
  kst 1 v15 v14 w fun w16 =>
  kcnv .i64 v11 fun v17 =>
  Q v17 w16

def f98_0 (x0 : Value) (Q : Value → World → Prop) (w : World) : Prop :=
  kN x0 <|
  kfld 0 x0 fun v4 =>
  kld v4 w fun v5 =>
  kstr .eql v5 (.string ⟨#[]⟩) fun v6 =>
  kB v6 fun b18 => kIf b18
  (kN x0 <|
  kfld 1 x0 fun v7 =>
  kst 1 v7 (.bool true) w fun w8 =>
  Q (.int .i64 0) w8)
  (f98_1 x0 Q w)

def f98 (x0 : Value) (Q : Value → World → Prop) (w : World) : Prop :=
  kcall Tryd.prog 94 #[x0] w fun v1 w2 =>
  kun .not (some .bool) v1 fun v3 =>
  kB v3 fun b19 => kIf b19
  (Q (.int .i64 0) w2)
  (f98_0 x0 Q w2)

theorem f98_eq (x0 : Value) (Q : Value → World → Prop) (w : World) : f98 x0 Q w = fnVC Tryd.prog Tryd.f98 [] (Tryd.f98.body.get rfl) [x0] w Q := by kernel_rfl
theorem f98_ok {x0 : Value} {Q : Value → World → Prop} {w : World} (h : f98 x0 Q w) : Meets Tryd.prog 98 #[x0] w Q :=
  sound (c := (Tryd.f98.body.get rfl)) [] Tryd.func98 rfl rfl (args := [x0]) rfl (Eq.mp (f98_eq x0 Q w) h)

/-! (*pasodoble/strand.Reader).Bits -/
def f74 (x0 : Value) (Q : Value → World → Prop) (w : World) : Prop :=
  kcall Tryd.prog 73 #[x0, (.int .u64 4294967295)] w fun v1 w2 =>
  kext v1 0 fun v3 =>
  kext v1 1 fun v4 =>
  kcnv .u32 v3 fun v5 =>
  Q v5 w2

theorem f74_eq (x0 : Value) (Q : Value → World → Prop) (w : World) : f74 x0 Q w = fnVC Tryd.prog Tryd.f74 [] (Tryd.f74.body.get rfl) [x0] w Q := by kernel_rfl
theorem f74_ok {x0 : Value} {Q : Value → World → Prop} {w : World} (h : f74 x0 Q w) : Meets Tryd.prog 74 #[x0] w Q :=
  sound (c := (Tryd.f74.body.get rfl)) [] Tryd.func74 rfl rfl (args := [x0]) rfl (Eq.mp (f74_eq x0 Q w) h)

/-! (*pasodoble/strand.Reader).End -/
def f42_1 (Q : Value → World → Prop) (w : World) : Prop :=
  Q .nilIface w

def f42_0 (x8 : Value) (Q : Value → World → Prop) (w : World) : Prop :=
  kB x8 fun b15 => kIf b15
  (kld (.pointer (some ⟨0, 0, none⟩)) w fun v12 =>
  kcall Tryd.prog 71 #[(.string ⟨#[115, 116, 114, 97, 110, 100]⟩), v12] w fun v13 w14 =>
  Q v13 w14)
  (f42_1 Q w)

def f42 (x0 : Value) (Q : Value → World → Prop) (w : World) : Prop :=
  keq Tryd.prog .eql 87 false true x0 (.pointer none) w fun v1 w2 =>
  kB v1 fun b16 => kIf b16
  (kld (.pointer (some ⟨4, 0, none⟩)) w2 fun v3 =>
  kcall Tryd.prog 71 #[(.string ⟨#[115, 116, 114, 97, 110, 100]⟩), v3] w2 fun v4 w5 =>
  Q v4 w5)
  (kN x0 <|
  kfld 1 x0 fun v6 =>
  kld v6 w2 fun v7 =>
  kB v7 fun b8 => kIf (!b8)
  (kN x0 <|
  kfld 0 x0 fun v9 =>
  kld v9 w2 fun v10 =>
  kstr .neq v10 (.string ⟨#[]⟩) fun v11 =>
  f42_0 v11 Q w2)
  (f42_0 (.bool true) Q w2))

theorem f42_eq (x0 : Value) (Q : Value → World → Prop) (w : World) : f42 x0 Q w = fnVC Tryd.prog Tryd.f42 [] (Tryd.f42.body.get rfl) [x0] w Q := by kernel_rfl
theorem f42_ok {x0 : Value} {Q : Value → World → Prop} {w : World} (h : f42 x0 Q w) : Meets Tryd.prog 42 #[x0] w Q :=
  sound (c := (Tryd.f42.body.get rfl)) [] Tryd.func42 rfl rfl (args := [x0]) rfl (Eq.mp (f42_eq x0 Q w) h)

/-! pasodoble/strand.NewWriter -/
def f51 (x0 : Value) (Q : Value → World → Prop) (w : World) : Prop :=
  kmm .i64 true x0 (.int .i64 0) fun v1 =>
  kbld [(.slice none 0 0), (.int .i64 0), .nilIface] [(1, 1, v1)] fun v3 =>
  knew (Value.cells v3) 152 w fun v4 w5 =>
  Q v4 w5

theorem f51_eq (x0 : Value) (Q : Value → World → Prop) (w : World) : f51 x0 Q w = fnVC Tryd.prog Tryd.f51 [] (Tryd.f51.body.get rfl) [x0] w Q := by kernel_rfl
theorem f51_ok {x0 : Value} {Q : Value → World → Prop} {w : World} (h : f51 x0 Q w) : Meets Tryd.prog 51 #[x0] w Q :=
  sound (c := (Tryd.f51.body.get rfl)) [] Tryd.func51 rfl rfl (args := [x0]) rfl (Eq.mp (f51_eq x0 Q w) h)

/-! pasodoble/strand.groups -/
def f81_1 (x0 : Value) (x2 : Value) (J1 : Value → Value → World → Prop) (Q : Value → World → Prop) (w : World) : Prop :=
  kint .u64 .rem x0 (.int .u64 128) fun v2 =>
  kcnv .u8 v2 fun v3 =>
  kint .u8 .or v3 (.int .u8 128) fun v4 =>
  kbldS [(.int .u8 0)] 1 [(0, 1, v4)] 5 w fun v5 w6 =>
  ksem Tryd.prog (Builtin.append_ #[104, 104] 0 #[x2, v5]) w6 fun v7 w8 =>
  kint .u64 .shr x0 (.int .u64 7) fun v9 =>
  J1 v9 v7 w8

def f81_2 (x0 : Value) (x2 : Value) (Q : Value → World → Prop) (w : World) : Prop :=
  kcnv .u8 x0 fun v10 =>
  kbldS [(.int .u8 0)] 1 [(0, 1, v10)] 5 w fun v11 w12 =>
  ksem Tryd.prog (Builtin.append_ #[104, 104] 0 #[x2, v11]) w12 fun v13 w14 =>
  Q v13 w14

def f81_0 (x0 : Value) (x2 : Value) (J1 : Value → Value → World → Prop) (Q : Value → World → Prop) (w : World) : Prop :=
  kint .u64 .geq x0 (.int .u64 128) fun v1 =>
  kB v1 fun b15 => kIf b15
  (f81_1 x0 x2 J1 Q w)
  (f81_2 x0 x2 Q w)

def f81 (x0 : Value) (Q : Value → World → Prop) (w : World) : Prop :=
  kL fun (I : Value → Value → World → Prop) (μ : Value → Value → World → Nat) => I x0 (.slice none 0 0) w ∧ ∀ (x0 x2 : Value) (w1 : World), I x0 x2 w1 →
  f81_0 x0 x2 (fun y0 y2 w2 => I y0 y2 w2 ∧ μ y0 y2 w2 < μ x0 x2 w1) Q w1

theorem f81_eq (x0 : Value) (Q : Value → World → Prop) (w : World) : f81 x0 Q w = fnVC Tryd.prog Tryd.f81 [(1, [0, 2])] (Tryd.f81.body.get rfl) [x0] w Q := by kernel_rfl
theorem f81_ok {x0 : Value} {Q : Value → World → Prop} {w : World} (h : f81 x0 Q w) : Meets Tryd.prog 81 #[x0] w Q :=
  sound (c := (Tryd.f81.body.get rfl)) [(1, [0, 2])] Tryd.func81 rfl rfl (args := [x0]) rfl (Eq.mp (f81_eq x0 Q w) h)

/-! (*pasodoble/strand.Writer).wrong -/
def f99 (x0 : Value) (x1 : Value) (Q : Value → World → Prop) (w : World) : Prop :=
  kcall Tryd.prog 71 #[(.string ⟨#[115, 116, 114, 97, 110, 100]⟩), x1] w fun v1 w2 =>
  kN x0 <|
  kfld 0 x0 fun v3 =>
  kst 1 v3 (.slice none 0 0) w2 fun w4 =>
  kN x0 <|
  kfld 2 x0 fun v5 =>
  kst 1 v5 v1 w4 fun w6 =>
  Q (.tuple #[]) w6

theorem f99_eq (x0 : Value) (x1 : Value) (Q : Value → World → Prop) (w : World) : f99 x0 x1 Q w = fnVC Tryd.prog Tryd.f99 [] (Tryd.f99.body.get rfl) [x0, x1] w Q := by kernel_rfl
theorem f99_ok {x0 : Value} {x1 : Value} {Q : Value → World → Prop} {w : World} (h : f99 x0 x1 Q w) : Meets Tryd.prog 99 #[x0, x1] w Q :=
  sound (c := (Tryd.f99.body.get rfl)) [] Tryd.func99 rfl rfl (args := [x0, x1]) rfl (Eq.mp (f99_eq x0 x1 Q w) h)

/-! (*pasodoble/strand.Writer).refuse -/
def f79_0 (x0 : Value) (x10 : Value) (Q : Value → World → Prop) (w : World) : Prop :=
  kB x10 fun b11 => kIf b11
  (kld (.pointer (some ⟨1, 0, none⟩)) w fun v8 =>
  kcall Tryd.prog 99 #[x0, v8] w fun v9 w10 =>
  Q (.tuple #[]) w10)
  (Q (.tuple #[]) w)

def f79 (x0 : Value) (Q : Value → World → Prop) (w : World) : Prop :=
  keq Tryd.prog .neq 105 false true x0 (.pointer none) w fun v1 w2 =>
  kB v1 fun b3 => kIf b3
  (kN x0 <|
  kfld 2 x0 fun v4 =>
  kld v4 w2 fun v5 =>
  keq Tryd.prog .eql 36 false true v5 .nilIface w2 fun v6 w7 =>
  f79_0 x0 v6 Q w7)
  (f79_0 x0 (.bool false) Q w2)

theorem f79_eq (x0 : Value) (Q : Value → World → Prop) (w : World) : f79 x0 Q w = fnVC Tryd.prog Tryd.f79 [] (Tryd.f79.body.get rfl) [x0] w Q := by kernel_rfl
theorem f79_ok {x0 : Value} {Q : Value → World → Prop} {w : World} (h : f79 x0 Q w) : Meets Tryd.prog 79 #[x0] w Q :=
  sound (c := (Tryd.f79.body.get rfl)) [] Tryd.func79 rfl rfl (args := [x0]) rfl (Eq.mp (f79_eq x0 Q w) h)

/-! (*pasodoble/strand.Writer).write -/
def f80_0 (x0 : Value) (x1 : Value) (x13 : Value) (Q : Value → World → Prop) (w : World) : Prop :=
  kB x13 fun b28 => kIf b28
  (Q (.tuple #[]) w)
  (klen x1 fun v8 =>
  kN x0 <|
  kfld 1 x0 fun v10 =>
  kld v10 w.drew fun v11 =>
  kG (w.drew = w.drew) <|
  kN x0 <|
  kfld 0 x0 fun v12 =>
  kld v12 w.drew fun v13 =>
  kG (w.drew = w.drew) <|
  klen v13 fun v14 =>
  kint .i64 .sub v11 v14 fun v16 =>
  kint .i64 .gtr v8 v16 fun v17 =>
  kB v17 fun b27 => kIf b27
  (kld (.pointer (some ⟨5, 0, none⟩)) w.drew fun v18 =>
  kcall Tryd.prog 99 #[x0, v18] w.drew fun v19 w20 =>
  Q (.tuple #[]) w20)
  (kN x0 <|
  kfld 0 x0 fun v21 =>
  kld v21 w.drew fun v22 =>
  ksem Tryd.prog (Builtin.append_ #[104, 104] 0 #[v22, x1]) w.drew fun v23 w24 =>
  kN x0 <|
  kfld 0 x0 fun v25 =>
  kst 1 v25 v23 w24 fun w26 =>
  Q (.tuple #[]) w26))

def f80 (x0 : Value) (x1 : Value) (Q : Value → World → Prop) (w : World) : Prop :=
  keq Tryd.prog .eql 105 false true x0 (.pointer none) w fun v1 w2 =>
  kB v1 fun b3 => kIf (!b3)
  (kN x0 <|
  kfld 2 x0 fun v4 =>
  kld v4 w2 fun v5 =>
  keq Tryd.prog .neq 36 false true v5 .nilIface w2 fun v6 w7 =>
  f80_0 x0 x1 v6 Q w7)
  (f80_0 x0 x1 (.bool true) Q w2)

theorem f80_eq (x0 : Value) (x1 : Value) (Q : Value → World → Prop) (w : World) : f80 x0 x1 Q w = fnVC Tryd.prog Tryd.f80 [] (Tryd.f80.body.get rfl) [x0, x1] w Q := by kernel_rfl
theorem f80_ok {x0 : Value} {x1 : Value} {Q : Value → World → Prop} {w : World} (h : f80 x0 x1 Q w) : Meets Tryd.prog 80 #[x0, x1] w Q :=
  sound (c := (Tryd.f80.body.get rfl)) [] Tryd.func80 rfl rfl (args := [x0, x1]) rfl (Eq.mp (f80_eq x0 x1 Q w) h)

/-! (*pasodoble/strand.Writer).Byte -/
def f100_1 (x0 : Value) (x1 : Value) (Q : Value → World → Prop) (w : World) : Prop :=
  kcnv .u8 x1 fun v6 =>
  kbldS [(.int .u8 0)] 1 [(0, 1, v6)] 5 w fun v7 w8 =>
  kcall Tryd.prog 80 #[x0, v7] w8 fun v9 w10 =>
  Q (.tuple #[]) w10

def f100_0 (x0 : Value) (x1 : Value) (x9 : Value) (Q : Value → World → Prop) (w : World) : Prop :=
  kB x9 fun b11 => kIf b11
  (kcall Tryd.prog 79 #[x0] w fun v4 w5 =>
  Q (.tuple #[]) w5)
  (f100_1 x0 x1 Q w)

def f100 (x0 : Value) (x1 : Value) (Q : Value → World → Prop) (w : World) : Prop :=
  kint .i64 .lss x1 (.int .i64 0) fun v1 =>
  kB v1 fun b2 => kIf (!b2)
  (kint .i64 .gtr x1 (.int .i64 255) fun v3 =>
  f100_0 x0 x1 v3 Q w)
  (f100_0 x0 x1 (.bool true) Q w)

theorem f100_eq (x0 : Value) (x1 : Value) (Q : Value → World → Prop) (w : World) : f100 x0 x1 Q w = fnVC Tryd.prog Tryd.f100 [] (Tryd.f100.body.get rfl) [x0, x1] w Q := by kernel_rfl
theorem f100_ok {x0 : Value} {x1 : Value} {Q : Value → World → Prop} {w : World} (h : f100 x0 x1 Q w) : Meets Tryd.prog 100 #[x0, x1] w Q :=
  sound (c := (Tryd.f100.body.get rfl)) [] Tryd.func100 rfl rfl (args := [x0, x1]) rfl (Eq.mp (f100_eq x0 x1 Q w) h)

/-! (*pasodoble/strand.Writer).Count -/
def f52_0 (x0 : Value) (x1 : Value) (Q : Value → World → Prop) (w : World) : Prop :=
  kcnv .u64 x1 fun v4 =>
  kcall Tryd.prog 81 #[v4] w fun v5 w6 =>
  kcall Tryd.prog 80 #[x0, v5] w6 fun v7 w8 =>
  Q (.tuple #[]) w8

def f52 (x0 : Value) (x1 : Value) (Q : Value → World → Prop) (w : World) : Prop :=
  kint .i64 .lss x1 (.int .i64 0) fun v1 =>
  kB v1 fun b9 => kIf b9
  (kcall Tryd.prog 79 #[x0] w fun v2 w3 =>
  Q (.tuple #[]) w3)
  (f52_0 x0 x1 Q w)

theorem f52_eq (x0 : Value) (x1 : Value) (Q : Value → World → Prop) (w : World) : f52 x0 x1 Q w = fnVC Tryd.prog Tryd.f52 [] (Tryd.f52.body.get rfl) [x0, x1] w Q := by kernel_rfl
theorem f52_ok {x0 : Value} {x1 : Value} {Q : Value → World → Prop} {w : World} (h : f52 x0 x1 Q w) : Meets Tryd.prog 52 #[x0, x1] w Q :=
  sound (c := (Tryd.f52.body.get rfl)) [] Tryd.func52 rfl rfl (args := [x0, x1]) rfl (Eq.mp (f52_eq x0 x1 Q w) h)

/-! (*pasodoble/strand.Writer).Num -/
def f53_0 (x0 : Value) (x4 : Value) (Q : Value → World → Prop) (w : World) : Prop :=
  kcall Tryd.prog 81 #[x4] w fun v5 w6 =>
  kcall Tryd.prog 80 #[x0, v5] w6 fun v7 w8 =>
  Q (.tuple #[]) w8

def f53 (x0 : Value) (x1 : Value) (Q : Value → World → Prop) (w : World) : Prop :=
  kcnv .u64 x1 fun v1 =>
  kint .u64 .shl v1 (.int .u64 1) fun v2 =>
  kint .i64 .lss x1 (.int .i64 0) fun v3 =>
  kB v3 fun b9 => kIf b9
  (kun .xor (some (.int .u64)) v2 fun v4 =>
  f53_0 x0 v4 Q w)
  (f53_0 x0 v2 Q w)

theorem f53_eq (x0 : Value) (x1 : Value) (Q : Value → World → Prop) (w : World) : f53 x0 x1 Q w = fnVC Tryd.prog Tryd.f53 [] (Tryd.f53.body.get rfl) [x0, x1] w Q := by kernel_rfl
theorem f53_ok {x0 : Value} {x1 : Value} {Q : Value → World → Prop} {w : World} (h : f53 x0 x1 Q w) : Meets Tryd.prog 53 #[x0, x1] w Q :=
  sound (c := (Tryd.f53.body.get rfl)) [] Tryd.func53 rfl rfl (args := [x0, x1]) rfl (Eq.mp (f53_eq x0 x1 Q w) h)

/-! (*pasodoble/strand.Writer).Bits -/
def f82 (x0 : Value) (x1 : Value) (Q : Value → World → Prop) (w : World) : Prop :=
  kcnv .u64 x1 fun v1 =>
  kcall Tryd.prog 81 #[v1] w fun v2 w3 =>
  kcall Tryd.prog 80 #[x0, v2] w3 fun v4 w5 =>
  Q (.tuple #[]) w5

theorem f82_eq (x0 : Value) (x1 : Value) (Q : Value → World → Prop) (w : World) : f82 x0 x1 Q w = fnVC Tryd.prog Tryd.f82 [] (Tryd.f82.body.get rfl) [x0, x1] w Q := by kernel_rfl
theorem f82_ok {x0 : Value} {x1 : Value} {Q : Value → World → Prop} {w : World} (h : f82 x0 x1 Q w) : Meets Tryd.prog 82 #[x0, x1] w Q :=
  sound (c := (Tryd.f82.body.get rfl)) [] Tryd.func82 rfl rfl (args := [x0, x1]) rfl (Eq.mp (f82_eq x0 x1 Q w) h)

/-! (*pasodoble/strand.Writer).Bytes -/
def f55_0 (x0 : Value) (Q : Value → World → Prop) (w : World) : Prop :=
  kN x0 <|
  kfld 0 x0 fun v12 =>
  kld v12 w fun v13 =>
  ksem Tryd.prog (convert 104 9 v13) w fun v14 w15 =>
  Q (.tuple #[v14, .nilIface]) w15

def f55 (x0 : Value) (Q : Value → World → Prop) (w : World) : Prop :=
  keq Tryd.prog .eql 105 false true x0 (.pointer none) w fun v1 w2 =>
  kB v1 fun b17 => kIf b17
  (kld (.pointer (some ⟨4, 0, none⟩)) w2 fun v3 =>
  kcall Tryd.prog 71 #[(.string ⟨#[115, 116, 114, 97, 110, 100]⟩), v3] w2 fun v4 w5 =>
  Q (.tuple #[(.string ⟨#[]⟩), v4]) w5)
  (kN x0 <|
  kfld 2 x0 fun v6 =>
  kld v6 w2 fun v7 =>
  keq Tryd.prog .neq 36 false true v7 .nilIface w2 fun v8 w9 =>
  kB v8 fun b16 => kIf b16
  (kN x0 <|
  kfld 2 x0 fun v10 =>
  kld v10 w9.drew fun v11 =>
  kG (w9.drew = w9.drew) <|
  Q (.tuple #[(.string ⟨#[]⟩), v11]) w9.drew)
  (f55_0 x0 Q w9))

theorem f55_eq (x0 : Value) (Q : Value → World → Prop) (w : World) : f55 x0 Q w = fnVC Tryd.prog Tryd.f55 [] (Tryd.f55.body.get rfl) [x0] w Q := by kernel_rfl
theorem f55_ok {x0 : Value} {Q : Value → World → Prop} {w : World} (h : f55 x0 Q w) : Meets Tryd.prog 55 #[x0] w Q :=
  sound (c := (Tryd.f55.body.get rfl)) [] Tryd.func55 rfl rfl (args := [x0]) rfl (Eq.mp (f55_eq x0 Q w) h)

/-! math/bits.TrailingZeros32 -/
def f96_0 (x0 : Value) (Q : Value → World → Prop) (w : World) : Prop :=
  kun .neg (some (.int .u32)) x0 fun v2 =>
  kint .u32 .and x0 v2 fun v3 =>
  kint .u32 .mul v3 (.int .u32 125613361) fun v4 =>
  kint .u32 .shr v4 (.int .u64 27) fun v5 =>
  kix (some (.array 32 5)) (some 1) (.pointer (some ⟨6, 0, none⟩)) v5 fun v6 =>
  kld v6 w fun v7 =>
  kcnv .i64 v7 fun v8 =>
  Q v8 w

def f96 (x0 : Value) (Q : Value → World → Prop) (w : World) : Prop :=
  kint .u32 .eql x0 (.int .u32 0) fun v1 =>
  kB v1 fun b9 => kIf b9
  (Q (.int .i64 32) w)
  (f96_0 x0 Q w)

theorem f96_eq (x0 : Value) (Q : Value → World → Prop) (w : World) : f96 x0 Q w = fnVC Tryd.prog Tryd.f96 [] (Tryd.f96.body.get rfl) [x0] w Q := by kernel_rfl
theorem f96_ok {x0 : Value} {Q : Value → World → Prop} {w : World} (h : f96 x0 Q w) : Meets Tryd.prog 96 #[x0] w Q :=
  sound (c := (Tryd.f96.body.get rfl)) [] Tryd.func96 rfl rfl (args := [x0]) rfl (Eq.mp (f96_eq x0 Q w) h)

/-! pasodoble/schema.Without -/
def f97 (x0 : Value) (x1 : Value) (Q : Value → World → Prop) (w : World) : Prop :=
  kcall Tryd.prog 72 #[x1] w fun v1 w2 =>
  kint .u32 .andNot x0 v1 fun v3 =>
  Q v3 w2

theorem f97_eq (x0 : Value) (x1 : Value) (Q : Value → World → Prop) (w : World) : f97 x0 x1 Q w = fnVC Tryd.prog Tryd.f97 [] (Tryd.f97.body.get rfl) [x0, x1] w Q := by kernel_rfl
theorem f97_ok {x0 : Value} {x1 : Value} {Q : Value → World → Prop} {w : World} (h : f97 x0 x1 Q w) : Meets Tryd.prog 97 #[x0, x1] w Q :=
  sound (c := (Tryd.f97.body.get rfl)) [] Tryd.func97 rfl rfl (args := [x0, x1]) rfl (Eq.mp (f97_eq x0 x1 Q w) h)

/-! pasodoble/schema.List -/
def f75_1 (x0 : Value) (x2 : Value) (J1 : Value → Value → World → Prop) (Q : Value → World → Prop) (w : World) : Prop :=
  kcall Tryd.prog 96 #[x0] w fun v2 w3 =>
  kbldS [(.int .i64 0)] 1 [(0, 1, v2)] 3 w3 fun v4 w5 =>
  ksem Tryd.prog (Builtin.append_ #[53, 53] 0 #[x2, v4]) w5 fun v6 w7 =>
  kcall Tryd.prog 97 #[x0, v2] w7 fun v8 w9 =>
  J1 v8 v6 w9

def f75_2 (x2 : Value) (Q : Value → World → Prop) (w : World) : Prop :=
  Q x2 w

def f75_0 (x0 : Value) (x2 : Value) (J1 : Value → Value → World → Prop) (Q : Value → World → Prop) (w : World) : Prop :=
  kint .u32 .neq x0 (.int .u32 0) fun v1 =>
  kB v1 fun b10 => kIf b10
  (f75_1 x0 x2 J1 Q w)
  (f75_2 x2 Q w)

def f75 (x0 : Value) (Q : Value → World → Prop) (w : World) : Prop :=
  kL fun (I : Value → Value → World → Prop) (μ : Value → Value → World → Nat) => I x0 (.slice none 0 0) w ∧ ∀ (x0 x2 : Value) (w1 : World), I x0 x2 w1 →
  f75_0 x0 x2 (fun y0 y2 w2 => I y0 y2 w2 ∧ μ y0 y2 w2 < μ x0 x2 w1) Q w1

theorem f75_eq (x0 : Value) (Q : Value → World → Prop) (w : World) : f75 x0 Q w = fnVC Tryd.prog Tryd.f75 [(1, [0, 2])] (Tryd.f75.body.get rfl) [x0] w Q := by kernel_rfl
theorem f75_ok {x0 : Value} {Q : Value → World → Prop} {w : World} (h : f75 x0 Q w) : Meets Tryd.prog 75 #[x0] w Q :=
  sound (c := (Tryd.f75.body.get rfl)) [(1, [0, 2])] Tryd.func75 rfl rfl (args := [x0]) rfl (Eq.mp (f75_eq x0 Q w) h)

end Go.Proofs.YtcabkicjboedaaaDoor
end
section
namespace Go.Proofs.YtcabkicjboedaaaDoor
open Go Go.Ev
set_option linter.unusedVariables false
set_option linter.unusedSimpArgs false
set_option maxRecDepth 100000

theorem Mod.setlt {fp : Nat → Prop} {w w' : World} (h : Mod fp w w') : w.heap.size ≤ w'.heap.size := h.size
/-! ### The reader -/
theorem parse_bound {l : List UInt8} : (parseF l).1 < 18446744073709551616 ∧ (parseF l).2 ≤ l.length ∧ (parseF l).2 ≤ 1099511627776 := by
  unfold parseF
  cases h : parseGo l 0 0 with
  | none => simp
  | some p =>
    obtain ⟨m, k⟩ := p
    obtain ⟨n, h1, h2, h3, h4, h5, h6⟩ := groups_parse l 0 0 m k h
    have : k ≤ l.length := by rw [h5, List.length_append]; omega
    have hk : k ≤ 10 := by
      have key : ∀ (l : List UInt8) (i acc m k : Nat), i ≤ 10 → parseGo l i acc = some (m, k) → k ≤ 10 := by
        intro l
        induction l with
        | nil => intro i acc m k _ h; simp [parseGo] at h
        | cons b r ih =>
          intro i acc m k hi h
          rw [parseGo] at h
          split at h
          · cases h
          split at h
          · cases h
          split at h
          · exact ih _ _ _ _ (by omega) h
          split at h
          · cases h
          simp only [Option.some.injEq, Prod.mk.injEq] at h
          omega
      exact key l 0 0 m k (by omega) h
    simp only [Option.getD_some]
    simp at h1 h3
    omega
def ParInv (l : List UInt8) (w : World) (x2 x4 : Value) (wr : World) : Prop := ∃ (i n : Nat), i ≤ l.length ∧ i ≤ 10 ∧ n < 2 ^ (7 * i) ∧ n < 18446744073709551616 ∧ x2 = .int .u64 n ∧ x4 = .int .i64 i ∧ parseGo l 0 0 = parseGo (l.drop i) i n ∧ wr = w
theorem parse_spec (l : List UInt8) (w : World) : Meets Tryd.prog 95 #[.string (bs l)] w fun v w' => v = .tuple #[.int .u64 (parseF l).1, .int .i64 (parseF l).2] ∧ w' = w := by
  refine f95_ok ?_
  unfold f95
  refine kL_of (ParInv l w) (fun _ x _ => l.length - (RowKit.intOf x).toNat) ⟨⟨0, 0, by omega, by omega, by simp, by omega, rfl, rfl, rfl, rfl⟩, ?_⟩
  rintro x2 x4 wr ⟨i, n, hi, hi10, hn, hn64, rfl, rfl, hp, rfl⟩
  have none_of : parseGo (l.drop i) i n = none → f95_4 (fun v w' => v = .tuple #[.int .u64 (parseF l).1, .int .i64 (parseF l).2] ∧ w' = wr) wr := by
    intro h
    unfold f95_4
    refine ⟨?_, rfl⟩
    unfold parseF
    rw [hp, h]; rfl
  unfold f95_0
  rw [klenStr_string, bs_size, kint_lss, kB_bool]
  refine kIf_dec (fun hlt => ?_) (fun hge => ?_)
  · have hlt : i < l.length := by omega
    have hd : l.drop i = l[i] :: l.drop (i + 1) := by rw [List.drop_eq_getElem_cons hlt]
    have hg : l[i]? = some l[i] := List.getElem?_eq_getElem hlt
    rw [hd] at hp none_of
    rw [kint_lss]
    unfold f95_1
    rw [kB_bool]
    refine kIf_dec (fun h10 => ?_) (fun h10 => ?_)
    · have h10 : i < 10 := by omega
      generalize l[i] = b at *
      have hb := b.toNat_lt
      rw [parseGo] at hp none_of
      rw [if_neg (by omega)] at hp none_of
      unfold f95_2
      rw [kiv_string]
      refine kG_of (by omega) ?_
      rw [show ((i : Nat) : Int).toNat = i by omega, bs_get, hg, kO_some, kcnv_int, wrap_u64 (by omega) (by omega), kint_eql, kB_bool]
      have rest : ¬ (i = 9 ∧ 1 < b.toNat) → f95_5 (.string (bs l)) (.int .u64 n) (.int .i64 i) (.int .u64 b.toNat)
          (fun y2 y4 w2 => ParInv l wr y2 y4 w2 ∧ l.length - (RowKit.intOf y4).toNat < l.length - (RowKit.intOf (Value.int .i64 i)).toNat) (fun v w' => v = .tuple #[.int .u64 (parseF l).1, .int .i64 (parseF l).2] ∧ w' = wr) wr := by
        intro h9
        rw [if_neg h9] at hp none_of
        have hp7 := Nat.two_pow_pos (7 * i)
        have hx : b.toNat % 128 * 2 ^ (7 * i) < 18446744073709551616 ∧ (n + b.toNat % 128 * 2 ^ (7 * i)) < 18446744073709551616 := by
          by_cases e : i = 9
          · subst e
            have e9 : (2 : Nat) ^ (7 * 9) = 9223372036854775808 := by decide
            rw [e9] at hn ⊢; omega
          · have hp : (2 : Nat) ^ (7 * i) ≤ 2 ^ 56 := Nat.pow_le_pow_right (by omega) (by omega)
            have : b.toNat % 128 * 2 ^ (7 * i) ≤ 127 * 2 ^ 56 := Nat.mul_le_mul (by omega) hp
            omega
        have e7 : (2 : Nat) ^ (7 * (i + 1)) = 128 * 2 ^ (7 * i) := by rw [Nat.mul_add, Nat.pow_add, Nat.mul_comm]
        have hadd := i64_succ (i := i) (by omega)
        unfold f95_5
        rw [kint_rem]
        refine kG_of (by omega) ?_
        rw [show (128 : Int) = ((128 : Nat) : Int) from rfl, tmod_nat, kint_mul, show ((7 : Int) * (i : Int)) = ((7 * i : Nat) : Int) by simp, wrap_i64 (by omega) (by omega), kint_shl]
        refine kG_of (by omega) ?_
        rw [shl_u64 (by omega) hx.1, kint_or, u64_or hn64 hx.1, or_add hn, kint_geq, kB_bool]
        refine kIf_dec (fun h128 => ?_) (fun h128 => ?_)
        · have h128 : 128 ≤ b.toNat := by omega
          rw [if_pos h128] at hp
          unfold f95_6
          rw [kint_add, hadd]
          refine ⟨⟨i + 1, _, by omega, by omega, ?_, hx.2, rfl, rfl, hp, rfl⟩, by simp [RowKit.intOf]; omega⟩
          rw [e7]
          have : b.toNat % 128 * 2 ^ (7 * i) ≤ 127 * 2 ^ (7 * i) := Nat.mul_le_mul_right _ (by omega)
          omega
        · have h128 : ¬ 128 ≤ b.toNat := by omega
          rw [if_neg h128] at hp none_of
          have hm : b.toNat % 128 = b.toNat := by omega
          rw [hm] at hx ⊢
          have fin : ¬ (b.toNat = 0 ∧ 0 < i) → f95_9 (.int .u64 ((n + b.toNat * 2 ^ (7 * i) : Nat) : Int)) (.int .i64 i) (fun y2 y4 w2 => ParInv l wr y2 y4 w2 ∧ l.length - (RowKit.intOf y4).toNat < l.length - (RowKit.intOf (Value.int .i64 i)).toNat) (fun v w' => v = .tuple #[.int .u64 (parseF l).1, .int .i64 (parseF l).2] ∧ w' = wr) wr := by
            intro h
            rw [if_neg h] at hp
            unfold f95_9
            rw [kint_add, hadd]
            refine ⟨?_, rfl⟩
            unfold parseF
            rw [hp]; rfl
          unfold f95_7
          rw [kint_eql, kB_bool]
          refine kIf_dec (fun h0 => ?_) (fun h0 => ?_)
          · have h0 : b.toNat = 0 := by omega
            rw [kint_gtr]
            unfold f95_8
            rw [kB_bool]
            refine kIf_dec (fun hi0 => ?_) (fun hi0 => ?_)
            · have hc : b.toNat = 0 ∧ 0 < i := ⟨h0, by omega⟩
              exact none_of (by rw [if_pos hc])
            · exact fin (fun h => by omega)
          · unfold f95_8
            rw [kB_bool, kIf_false]
            exact fin (fun h => by omega)
      refine kIf_dec (fun h9 => ?_) (fun h9 => ?_)
      · have h9 : i = 9 := by omega
        rw [kint_gtr]
        unfold f95_3
        rw [kB_bool]
        refine kIf_dec (fun h1 => ?_) (fun h1 => ?_)
        · have hc : i = 9 ∧ 1 < b.toNat := ⟨h9, by omega⟩
          exact none_of (by rw [if_pos hc])
        · exact rest (fun h => by omega)
      · unfold f95_3
        rw [kB_bool, kIf_false]
        exact rest (fun h => by omega)
    · rw [parseGo, if_pos (by omega)] at none_of
      exact none_of rfl
  · unfold f95_1
    rw [kB_bool, kIf_false]
    refine none_of ?_
    rw [List.drop_eq_nil_of_le (by omega), parseGo]

structure RS where
  rest : List UInt8
  bad : Bool
def RdAt (w : World) (b : Nat) (r : RS) : Prop := blk w b = some (.cells #[.string (bs r.rest), .bool r.bad] 136)
def numF (great : Nat) (r : RS) : Nat × RS :=
  if r.bad then (0, r) else if (parseF r.rest).2 = 0 ∨ great < (parseF r.rest).1 then (0, ⟨r.rest, true⟩) else ((parseF r.rest).1, ⟨r.rest.drop (parseF r.rest).2, false⟩)
theorem numF_le (great : Nat) (r : RS) : (numF great r).1 ≤ great := by
  unfold numF; split
  · exact Nat.zero_le _
  · split
    · exact Nat.zero_le _
    · rename_i h; simp only; omega
theorem numF_len (great : Nat) (r : RS) : (numF great r).2.rest.length ≤ r.rest.length := by
  unfold numF; split
  · exact Nat.le_refl _
  · split
    · exact Nat.le_refl _
    · simp
/-- What a method that reads does to memory. -/
def RdTo (w : World) (b : Nat) (r : RS) (w' : World) : Prop := RdAt w' b r ∧ Mod (fun k => k = b) w w' ∧ w'.heap.size = w.heap.size
theorem ptReader : isPtrT Tryd.prog 87 = true := by kernel_rfl
theorem right_spec {w : World} {b : Nat} {r : RS} (h : RdAt w b r) : Meets Tryd.prog 94 #[.pointer (some ⟨b, 0, none⟩)] w fun v w' => v = .bool (!r.bad) ∧ w' = w := by
  refine f94_ok ?_
  unfold f94
  rw [keq_ptr_nil' ptReader, kB_bool]
  refine kIf_of (fun _ => ?_) (fun h => by cases h)
  rw [kN_ptr]
  refine kfld_of ?_
  refine kld_of (v := .bool r.bad) h rfl ?_
  rw [kun_not]
  exact ⟨rfl, rfl⟩
theorem number_spec {w : World} {b : Nat} {r : RS} (h : RdAt w b r) (great : Nat) (hlen : r.rest.length ≤ 9223372036854775807) :
    Meets Tryd.prog 73 #[.pointer (some ⟨b, 0, none⟩), .int .u64 great] w fun v w' => (∃ ok, v = .tuple #[.int .u64 (numF great r).1, .bool ok]) ∧ RdTo w b (numF great r).2 w' := by
  obtain ⟨p1, p2, p3⟩ := parse_bound (l := r.rest)
  have hh : blk w b = some (.cells #[.string (bs r.rest), .bool r.bad] 136) := h
  refine f73_ok ?_
  unfold f73
  refine kcall_of (right_spec h) ?_
  rintro v w' ⟨rfl, rfl⟩
  rw [kun_not, Bool.not_not, kB_bool]
  refine kIf_of (fun hbad => ?_) (fun hbad => ?_)
  · have e : numF great r = (0, r) := by unfold numF; rw [if_pos hbad]
    rw [e]
    exact ⟨⟨_, rfl⟩, h, Mod.refl _ _, rfl⟩
  · unfold f73_0
    rw [kN_ptr]
    refine kfld_of ?_
    refine kld_of (v := .string (bs r.rest)) hh rfl ?_
    refine kcall_of (parse_spec r.rest w') ?_
    rintro v w2 ⟨rfl, rfl⟩
    refine kext_of (v := .int .u64 (parseF r.rest).1) rfl ?_
    refine kext_of (v := .int .i64 (parseF r.rest).2) rfl ?_
    rw [kint_eql, kB_bool]
    have hfail : ((parseF r.rest).2 = 0 ∨ great < (parseF r.rest).1) → ∀ x6 x7, f73_1 (.pointer (some ⟨b, 0, none⟩)) x6 x7 (.bool true) (fun v w' => (∃ ok, v = .tuple #[.int .u64 (numF great r).1, .bool ok]) ∧ RdTo w2 b (numF great r).2 w') w2 := by
      intro hc x6 x7
      have e : numF great r = (0, ⟨r.rest, true⟩) := by unfold numF; rw [if_neg (by rw [hbad]; decide), if_pos hc]
      rw [e]
      unfold f73_1
      rw [kB_bool, kIf_true, kN_ptr]
      refine kfld_of ?_
      refine kst_of (vs := [.bool true]) hh rfl rfl rfl (by simp) (by simp) fun w3 h3 hs3 hb3 => ?_
      exact ⟨⟨_, rfl⟩, hb3, h3, hs3⟩
    refine kIf_of (fun hk => ?_) (fun hk => ?_)
    · have hk : ¬ (parseF r.rest).2 = 0 := by simpa using hk
      rw [kint_gtr]
      by_cases hg : great < (parseF r.rest).1
      · rw [decide_eq_true (by omega)]
        exact hfail (.inr hg) _ _
      · rw [decide_eq_false (by omega)]
        have e : numF great r = ((parseF r.rest).1, ⟨r.rest.drop (parseF r.rest).2, false⟩) := by unfold numF; rw [if_neg (by rw [hbad]; decide), if_neg (by omega)]
        rw [e]
        unfold f73_1
        rw [kB_bool, kIf_false]
        unfold f73_2
        rw [kN_ptr]
        refine kfld_of ?_
        refine kld_of (v := .string (bs r.rest)) hh rfl ?_
        rw [ksl_string rfl rfl]
        refine kG_of ?_ ?_
        · simp only [loV_int, hiV_none, bs_size]; omega
        simp only [loV_int, hiV_none, bs_size, bs_extract]
        rw [kN_ptr]
        refine kfld_of ?_
        refine kst_of (vs := [.string (bs (r.rest.drop (parseF r.rest).2))]) hh ?_ rfl rfl (by simp) (by simp) fun w3 h3 hs3 hb3 => ?_
        · simp [Value.cells]
          exact bs_drop _ _
        refine ⟨⟨_, rfl⟩, ?_, h3, hs3⟩
        rw [hbad] at hb3
        exact hb3
    · have hk : (parseF r.rest).2 = 0 := by simp at hk; omega
      exact hfail (.inl hk) _ _
theorem Count_spec {w : World} {b : Nat} {r : RS} (h : RdAt w b r) (hlen : r.rest.length ≤ 9223372036854775807) :
    Meets Tryd.prog 38 #[.pointer (some ⟨b, 0, none⟩)] w fun v w' => v = .int .i64 (numF 9223372036854775807 r).1 ∧ RdTo w b (numF 9223372036854775807 r).2 w' := by
  have hle := numF_le 9223372036854775807 r
  refine f38_ok ?_
  unfold f38
  refine kcall_of (number_spec h 9223372036854775807 hlen) ?_
  rintro v w' ⟨⟨ok, rfl⟩, h'⟩
  refine kext_of (v := .int .u64 (numF 9223372036854775807 r).1) rfl ?_
  refine kext_of (v := .bool ok) rfl ?_
  rw [kcnv_int, wrap_i64 (by omega) (by omega)]
  exact ⟨rfl, h'⟩
theorem BitsR_spec {w : World} {b : Nat} {r : RS} (h : RdAt w b r) (hlen : r.rest.length ≤ 9223372036854775807) :
    Meets Tryd.prog 74 #[.pointer (some ⟨b, 0, none⟩)] w fun v w' => v = msk (numF 4294967295 r).1 ∧ RdTo w b (numF 4294967295 r).2 w' := by
  have hle := numF_le 4294967295 r
  refine f74_ok ?_
  unfold f74
  refine kcall_of (number_spec h 4294967295 hlen) ?_
  rintro v w' ⟨⟨ok, rfl⟩, h'⟩
  refine kext_of (v := .int .u64 (numF 4294967295 r).1) rfl ?_
  refine kext_of (v := .bool ok) rfl ?_
  rw [kcnv_int, wrap_u32 (by omega) (by omega)]
  exact ⟨rfl, h'⟩
/-- A signed number out of its code, and its code. -/
def unzz (n : Nat) : Int := if n % 2 = 1 then -((n / 2 : Nat) : Int) - 1 else ((n / 2 : Nat) : Int)
def zz (z : Int) : Nat := if 0 ≤ z then (2 * z).toNat else (2 * (-(z + 1)) + 1).toNat
theorem unzz_zz (z : Int) : unzz (zz z) = z := by
  unfold unzz zz; split <;> split <;> omega
theorem zz_unzz (n : Nat) : zz (unzz n) = n := by
  unfold unzz zz; split <;> split <;> omega
theorem zz_lt {z : Int} (h : I64 z) : zz z < 18446744073709551616 := by
  unfold zz I64 at *; split <;> omega
theorem unzz_i64 {n : Nat} (h : n < 18446744073709551616) : I64 (unzz n) := by
  unfold unzz I64 at *; split <;> omega
theorem inot_i64 {a : Nat} (h : a < 9223372036854775808) : inot .i64 (a : Int) = -(a : Int) - 1 := by
  show IntKind.i64.wrap ((BitVec.ofInt 64 (-1) ^^^ BitVec.ofInt 64 (a : Int)).toNat) = _
  have e : (BitVec.ofInt 64 (-1) ^^^ BitVec.ofInt 64 (a : Int)) = ~~~ (BitVec.ofInt 64 (a : Int)) := by
    have : BitVec.ofInt 64 (-1) = BitVec.allOnes 64 := by decide
    rw [this, BitVec.allOnes_xor]
  rw [e, BitVec.toNat_not, u64_of (by omega)]
  unfold IntKind.wrap; simp [IntKind.signed, IntKind.bits]; omega
theorem Num_spec {w : World} {b : Nat} {r : RS} (h : RdAt w b r) (hlen : r.rest.length ≤ 9223372036854775807) :
    Meets Tryd.prog 39 #[.pointer (some ⟨b, 0, none⟩)] w fun v w' => v = .int .i64 (unzz (numF 18446744073709551615 r).1) ∧ RdTo w b (numF 18446744073709551615 r).2 w' := by
  have hle := numF_le 18446744073709551615 r
  refine f39_ok ?_
  unfold f39
  refine kcall_of (number_spec h 18446744073709551615 hlen) ?_
  rintro v w' ⟨⟨ok, rfl⟩, h'⟩
  generalize (numF 18446744073709551615 r).1 = n at *
  refine kext_of (v := .int .u64 n) rfl ?_
  refine kext_of (v := .bool ok) rfl ?_
  rw [kint_shr]
  refine kG_of (by omega) ?_
  rw [show (1 : Int) = ((1 : Nat) : Int) from rfl, shr_nat n 1 (by decide), kcnv_int, Nat.pow_one, wrap_i64 (by omega) (by omega), kint_and, u64_and (by omega) (by omega), Nat.and_one_is_mod, kint_eql, kB_bool]
  refine kIf_dec (fun h1 => ?_) (fun h1 => ?_)
  · rw [kun_xor, inot_i64 (by omega)]
    unfold f39_0
    exact ⟨by unfold unzz; rw [if_pos (by omega)], h'⟩
  · unfold f39_0
    exact ⟨by unfold unzz; rw [if_neg (by omega)], h'⟩
def byteF (r : RS) : Nat × RS := if r.bad then (0, r) else match r.rest with
  | [] => (0, ⟨[], true⟩)
  | b :: t => (b.toNat, ⟨t, false⟩)
theorem byteF_le (r : RS) : (byteF r).1 ≤ 255 := by
  unfold byteF; split
  · exact Nat.zero_le _
  · split
    · exact Nat.zero_le _
    · rename_i b t _; have := b.toNat_lt; simp only; omega
theorem byteF_len (r : RS) : (byteF r).2.rest.length ≤ r.rest.length := by
  unfold byteF; split
  · exact Nat.le_refl _
  · split
    · exact Nat.zero_le _
    · rename_i e; simp [e]
theorem Byte_spec {w : World} {b : Nat} {r : RS} (h : RdAt w b r) (hlen : r.rest.length ≤ 9223372036854775807) :
    Meets Tryd.prog 98 #[.pointer (some ⟨b, 0, none⟩)] w fun v w' => v = .int .i64 (byteF r).1 ∧ RdTo w b (byteF r).2 w' := by
  have hh : blk w b = some (.cells #[.string (bs r.rest), .bool r.bad] 136) := h
  refine f98_ok ?_
  unfold f98
  refine kcall_of (right_spec h) ?_
  rintro v w' ⟨rfl, rfl⟩
  rw [kun_not, Bool.not_not, kB_bool]
  refine kIf_of (fun hbad => ?_) (fun hbad => ?_)
  · have e : byteF r = (0, r) := by unfold byteF; rw [if_pos hbad]
    rw [e]
    exact ⟨rfl, h, Mod.refl _ _, rfl⟩
  · obtain ⟨rest, bad⟩ := r
    simp only at hbad
    subst hbad
    unfold f98_0
    rw [kN_ptr]
    refine kfld_of ?_
    refine kld_of (v := .string (bs rest)) hh rfl ?_
    rw [bs_nil, kstr_eql, kB_bool]
    refine kIf_dec (fun he => ?_) (fun he => ?_)
    · rw [bs_inj] at he
      subst he
      rw [kN_ptr]
      refine kfld_of ?_
      refine kst_of (vs := [.bool true]) hh rfl rfl rfl (by simp) (by simp) fun w3 h3 hs3 hb3 => ?_
      exact ⟨rfl, hb3, h3, hs3⟩
    · rw [bs_inj] at he
      obtain ⟨x, t, rfl⟩ := List.exists_cons_of_ne_nil he
      have hx := x.toNat_lt
      simp only [List.length_cons] at hlen
      unfold f98_1
      rw [kN_ptr]
      refine kfld_of ?_
      refine kld_of (v := .string (bs (x :: t))) hh rfl ?_
      rw [kiv_string]
      refine kG_of (by omega) ?_
      rw [bs_get]
      refine Eq.mpr (kO_some) ?_
      rw [kN_ptr]
      refine kfld_of ?_
      refine kld_of (v := .string (bs (x :: t))) hh rfl ?_
      rw [ksl_string rfl rfl]
      refine kG_of ?_ ?_
      · simp only [loV_int, hiV_none, bs_size, List.length_cons]; omega
      simp only [loV_int, hiV_none, bs_size, bs_extract]
      rw [kN_ptr]
      refine kfld_of ?_
      refine kst_of (vs := [.string (bs t)]) hh ?_ rfl rfl (by simp) (by simp) fun w3 h3 hs3 hb3 => ?_
      · simp [Value.cells]
        exact bs_drop (x :: t) 1
      rw [kcnv_int, wrap_i64 (by omega) (by omega)]
      exact ⟨rfl, hb3, h3, hs3⟩
theorem NewReader_spec (l : List UInt8) (w : World) : Meets Tryd.prog 36 #[.string (bs l)] w fun v w' => v = .pointer (some ⟨w.heap.size, 0, none⟩) ∧ RdAt w' w.heap.size ⟨l, false⟩ ∧ Same w w' ∧ w'.heap.size = w.heap.size + 1 := by
  refine f36_ok ?_
  unfold f36
  refine kbld_of (cs := [.string (bs l), .bool false]) rfl ?_
  refine knew_of fun w2 h2 hs2 hb2 => ?_
  exact ⟨rfl, hb2, h2, hs2⟩
end Go.Proofs.YtcabkicjboedaaaDoor
end
section
namespace Go.Proofs.YtcabkicjboedaaaDoor
open Go Go.Ev
set_option linter.unusedVariables false
set_option linter.unusedSimpArgs false
set_option maxRecDepth 100000

/-! ### The least number of a set, by the library's table -/
def deTab : List Nat := [0, 1, 28, 2, 29, 14, 24, 3, 30, 22, 20, 15, 25, 17, 4, 8, 31, 27, 13, 23, 21, 19, 16, 7, 26, 12, 18, 6, 11, 5, 10, 9]
/-- The table lies where it was laid. -/
def DeAt (w : World) : Prop := ∃ t f, blk w 6 = some (.cells (deTab.map fun n : Nat => Value.int .u8 (n : Int)).toArray t f)
theorem DeAt.same {w w' : World} (h : DeAt w) (hm : Same w w') : DeAt w' := by
  obtain ⟨t, f, hb⟩ := h
  exact ⟨t, f, hm.get hb (fun h => h)⟩
theorem DeAt.mod {fp : Nat → Prop} {w w' : World} (h : DeAt w) (hm : Mod fp w w') (hf : ¬ fp 6) : DeAt w' := by
  obtain ⟨t, f, hb⟩ := h
  exact ⟨t, f, hm.get hb hf⟩
theorem DeAt.lt {w : World} (h : DeAt w) : 6 < w.heap.size := by
  obtain ⟨t, f, hb⟩ := h
  exact lt_of_blk hb
theorem low_ex : ∀ m : Nat, m ≠ 0 → ∃ n q, m = 2 ^ n * (2 * q + 1) := by
  intro m
  induction m using Nat.strongRecOn with
  | _ m ih =>
    intro h
    by_cases ho : m % 2 = 1
    · exact ⟨0, m / 2, by omega⟩
    · obtain ⟨n, q, e⟩ := ih (m / 2) (by omega) (by omega)
      refine ⟨n + 1, q, ?_⟩
      have : m = 2 * (m / 2) := by omega
      rw [this, e, Nat.pow_succ, ← Nat.mul_assoc, Nat.mul_comm 2 (2 ^ n)]
theorem low_bits {n q : Nat} : (2 ^ n * (2 * q + 1)).testBit n = true ∧ ∀ j, j < n → (2 ^ n * (2 * q + 1)).testBit j = false := by
  constructor
  · rw [Nat.testBit_two_pow_mul]; simp
  · intro j hj
    rw [Nat.testBit_two_pow_mul]; simp; omega
theorem low_and {n q : Nat} (h : 2 ^ n * (2 * q + 1) < 4294967296) : 2 ^ n * (2 * q + 1) &&& (4294967296 - 2 ^ n * (2 * q + 1)) = 2 ^ n := by
  have hp := Nat.two_pow_pos n
  have hn : n < 32 := by
    by_cases hn : n < 32
    · exact hn
    · have : 2 ^ 32 ≤ 2 ^ n := Nat.pow_le_pow_right (by omega) (by omega)
      have : 2 ^ n * 1 ≤ 2 ^ n * (2 * q + 1) := Nat.mul_le_mul_left _ (by omega)
      omega
  have e : 2 ^ n * (2 * q + 1) = (2 ^ n * (2 * q) + (2 ^ n - 1)) + 1 := by rw [Nat.mul_add]; omega
  apply Nat.eq_of_testBit_eq
  intro i
  rw [Nat.testBit_and]
  have e2 : 4294967296 - 2 ^ n * (2 * q + 1) = 2 ^ 32 - ((2 ^ n * (2 * q) + (2 ^ n - 1)) + 1) := by omega
  rw [e2, Nat.testBit_two_pow_sub_succ (by omega), Nat.testBit_two_pow_mul_add _ (by omega), Nat.testBit_two_pow_mul]
  by_cases h1 : i < n
  · rw [if_pos h1, Nat.testBit_two_pow_sub_one]
    simp [show ¬ n ≤ i by omega, Nat.testBit_two_pow, show ¬ n = i by omega]
  · rw [if_neg h1]
    by_cases h2 : i = n
    · subst h2; simp [hn]
    · obtain ⟨d, hd⟩ : ∃ d, i - n = d + 1 := ⟨i - n - 1, by omega⟩
      rw [hd, Nat.testBit_succ, Nat.testBit_succ]
      have a1 : (2 * q + 1) / 2 = q := by omega
      have a2 : 2 * q / 2 = q := by omega
      rw [a1, a2, Nat.testBit_two_pow]
      cases q.testBit d <;> simp [show ¬ n = i by omega]
theorem deTab_ok : ∀ n, n < 32 → deTab[(2 ^ n * 125613361 % 4294967296) / 134217728]? = some n := by decide
theorem tz_spec {w : World} (hd : DeAt w) (m : Nat) (h0 : m ≠ 0) (hm : m < 4294967296) :
    Meets Tryd.prog 96 #[msk m] w fun v w' => ∃ n : Nat, n < 32 ∧ m.testBit n = true ∧ (∀ j, j < n → m.testBit j = false) ∧ v = .int .i64 n ∧ w' = w := by
  obtain ⟨n, q, e⟩ := low_ex m h0
  have hand : m &&& (4294967296 - m) = 2 ^ n := by rw [e]; exact low_and (by rw [← e]; exact hm)
  have hb := low_bits (n := n) (q := q)
  rw [← e] at hb
  have hn : n < 32 := by
    by_cases hn : n < 32
    · exact hn
    · have : 2 ^ 32 ≤ 2 ^ n := Nat.pow_le_pow_right (by omega) (by omega)
      have : 2 ^ n * 1 ≤ 2 ^ n * (2 * q + 1) := Nat.mul_le_mul_left _ (by omega)
      omega
  have hp : 2 ^ n ≤ 2 ^ 31 := Nat.pow_le_pow_right (by omega) (by omega)
  refine f96_ok ?_
  unfold f96
  rw [msk, kint_eql, kB_bool]
  refine kIf_dec (fun h => absurd h (by omega)) (fun _ => ?_)
  unfold f96_0
  have hneg : IntKind.u32.wrap (0 - (m : Int)) = ((4294967296 - m : Nat) : Int) := by
    unfold IntKind.wrap; simp [IntKind.signed, IntKind.bits]; omega
  have hmul : IntKind.u32.wrap (((2 ^ n : Nat) : Int) * 125613361) = ((2 ^ n * 125613361 % 4294967296 : Nat) : Int) := by
    unfold IntKind.wrap; simp [IntKind.signed, IntKind.bits]
  rw [kun_neg, hneg, kint_and, u32_and hm (by omega), hand, kint_mul, hmul, kint_shr]
  refine kG_of (by omega) ?_
  rw [show (27 : Int) = ((27 : Nat) : Int) from rfl, shr_nat _ 27 (by decide), show (2 : Nat) ^ 27 = 134217728 from rfl, kix_array]
  have hlt : (2 ^ n * 125613361 % 4294967296) / 134217728 < 32 := by omega
  refine kG_of (by omega) ?_
  obtain ⟨t, f, hbk⟩ := hd
  have ht := deTab_ok n hn
  rw [add_mk]
  refine kld_of (v := .int .u8 (n : Int)) hbk ?_ ?_
  · rw [Nat.mul_one, Nat.zero_add]
    simp only [List.getElem?_toArray, List.getElem?_map]
    rw [show (((2 ^ n * 125613361 % 4294967296 / 134217728 : Nat) : Int)).toNat = 2 ^ n * 125613361 % 4294967296 / 134217728 from Int.toNat_natCast _, ht]
    rfl
  rw [kcnv_int, wrap_i64 (by omega) (by omega)]
  exact ⟨n, hn, hb.1, hb.2, rfl, rfl⟩

def listF (m : Nat) : List Nat := (List.range 32).filter fun i => m.testBit i
theorem listF_zero : listF 0 = [] := by
  unfold listF
  rw [List.filter_eq_nil_iff]
  intro a _
  simp
theorem listF_cons {m n : Nat} (hm : m < 4294967296) (hn : n < 32) (hb : m.testBit n = true) (hl : ∀ j, j < n → m.testBit j = false) : listF m = n :: listF (andN m (2 ^ n)) := by
  have hp : 2 ^ n ≤ 2 ^ 31 := Nat.pow_le_pow_right (by omega) (by omega)
  have hbit : ∀ i, (andN m (2 ^ n)).testBit i = (m.testBit i && (decide (i < 32) && !decide (n = i))) := by
    intro i
    have e : 4294967295 - 2 ^ n = 2 ^ 32 - (2 ^ n + 1) := by omega
    rw [andN, Nat.testBit_and, e, Nat.testBit_two_pow_sub_succ (by omega), Nat.testBit_two_pow]
  have hsplit : List.range 32 = List.range n ++ (n :: List.range' (n + 1) (31 - n)) := by
    rw [List.range_eq_range', List.range_eq_range']
    have := List.range'_append (s := 0) (m := n) (n := 32 - n) (step := 1)
    rw [show n + (32 - n) = 32 by omega] at this
    rw [← this, show 0 + 1 * n = n by omega, show 32 - n = (31 - n) + 1 by omega, List.range'_succ]
  unfold listF
  rw [hsplit, List.filter_append, List.filter_append, List.filter_cons, List.filter_cons, if_pos hb]
  have e1 : (List.range n).filter (fun i => m.testBit i) = [] := by
    rw [List.filter_eq_nil_iff]; intro a ha; simp only [List.mem_range] at ha; simp [hl a ha]
  have e2 : (List.range n).filter (fun i => (andN m (2 ^ n)).testBit i) = [] := by
    rw [List.filter_eq_nil_iff]; intro a ha; simp only [List.mem_range] at ha; simp [hbit, hl a ha]
  have e3 : (andN m (2 ^ n)).testBit n = false := by rw [hbit]; simp
  rw [e1, e2, if_neg (by simp [e3]), List.nil_append, List.nil_append]
  congr 1
  apply List.filter_congr
  intro x hx
  simp only [List.mem_range'_1] at hx
  rw [hbit]
  simp [show x < 32 by omega, show ¬ n = x by omega]
theorem Without_spec (m n : Nat) (hm : m < 4294967296) (hn : n < 32) (w : World) : Meets Tryd.prog 97 #[msk m, .int .i64 n] w fun v w' => v = msk (andN m (2 ^ n)) ∧ w' = w := by
  have hp : 2 ^ n ≤ 2 ^ 31 := Nat.pow_le_pow_right (by omega) (by omega)
  have e : bitF (n : Int) = 2 ^ n := by unfold bitF; rw [if_neg (by omega), if_neg (by omega)]; rfl
  refine f97_ok ?_
  unfold f97
  refine kcall_of (bit_spec n (by omega) (by omega) w) ?_
  rintro v w' ⟨rfl, rfl⟩
  rw [e, msk, msk, kint_andNot, u32_andN hm (by omega)]
  exact ⟨rfl, rfl⟩
theorem apInt : appT Tryd.prog 53 1 8 = true := by kernel_rfl
theorem slInt_is : ∃ e, Tryd.prog.underlying 53 = some (.slice e) := slT_of (by kernel_rfl)
def natV (n : Nat) : Value := .int .i64 (n : Int)
theorem ones_map {α : Type} (f : α → Value) (hf : ∀ x, (f x).oneCell' = true) : ∀ l : List α, oneCells (l.map f) = true
  | [] => rfl
  | x :: l => by
    rw [List.map_cons]
    unfold oneCells
    rw [hf, ones_map f hf l]; rfl
def ListInv (m : Nat) (w : World) (x0 x2 : Value) (wr : World) : Prop := ∃ (k : Nat) (l : List Nat), k < 4294967296 ∧ x0 = msk k ∧ Own wr x2 1 (l.map natV) ∧ listF m = l ++ listF k ∧ Same w wr ∧ (∀ b, vblk x2 b → w.heap.size ≤ b)
theorem listF_len (m : Nat) : (listF m).length ≤ 32 := by
  have := List.length_filter_le (fun i => m.testBit i) (List.range 32)
  simpa [listF] using this
theorem List_spec {w : World} (hd : DeAt w) (m : Nat) (hm : m < 4294967296) : Meets Tryd.prog 75 #[msk m] w fun v w' => ∃ a c, v = .slice a (listF m).length c ∧ SlIs w' a (listF m).length 1 ((listF m).map natV) ∧ Same w w' ∧ ∀ k o, a = some ⟨k, o, none⟩ → w.heap.size ≤ k := by
  have hlen := listF_len m
  refine f75_ok ?_
  unfold f75
  refine kL_of (ListInv m w) (fun x0 _ _ => (RowKit.intOf x0).toNat) ⟨⟨m, [], hm, rfl, Own.nil _ _, rfl, Mod.refl _ _, fun b hb => by obtain ⟨_, _, _, h⟩ := hb; cases h⟩, ?_⟩
  rintro x0 x2 wr ⟨k, l, hk, rfl, ho, hl, hs, hf⟩
  have hll : l.length ≤ 32 := by rw [hl, List.length_append] at hlen; omega
  unfold f75_0
  rw [msk, kint_neq, kB_bool]
  refine kIf_dec (fun hne => ?_) (fun heq => ?_)
  · unfold f75_1
    refine kcall_of (tz_spec (hd.same hs) k (by omega) hk) ?_
    rintro v w3 ⟨n, hn, hb, hlow, rfl, rfl⟩
    refine kbldS_of (cs := [natV n]) rfl fun w5 h5 hs5 hb5 => ?_
    refine ksem_append apInt (by omega) (ho.same h5) (Src.ofSlIs (hk := slInt_is.choose_spec) 1 (SlIs.blk hb5 rfl) rfl) (by simp; omega) (by simp; omega) ?_
    intro v' w7 ho7 hm7 hf7
    refine kcall_of (Without_spec k n hk hn w7) ?_
    rintro v w9 ⟨rfl, rfl⟩
    have hkn := andN_lt (a := k) (b := 2 ^ n) hk
    refine ⟨⟨andN k (2 ^ n), l ++ [n], hkn, rfl, ?_, ?_, Mod.after (hs.trans h5) hm7 hf, ?_⟩, ?_⟩
    · rw [List.map_append]; exact ho7
    · rw [hl, listF_cons hk hn hb hlow]; simp
    · intro b hb
      rcases hf7 b hb with h | h
      · exact hf b h
      · have := hs.size; have := h5.size; omega
    · simp only [RowKit.intOf, msk, Int.toNat_natCast]
      have e : andN k (2 ^ n) ≤ k := Nat.and_le_left
      have hne2 : andN k (2 ^ n) ≠ k := by
        intro h
        have h1 : (andN k (2 ^ n)).testBit n = true := by rw [h]; exact hb
        have hp : 2 ^ n ≤ 2 ^ 31 := Nat.pow_le_pow_right (by omega) (by omega)
        have e : 4294967295 - 2 ^ n = 2 ^ 32 - (2 ^ n + 1) := by omega
        rw [andN, Nat.testBit_and, e, Nat.testBit_two_pow_sub_succ (by omega), Nat.testBit_two_pow] at h1
        simp at h1
      omega
  · have : k = 0 := by omega
    subst this
    rw [listF_zero, List.append_nil] at hl
    unfold f75_2
    obtain ⟨a, n, c, rfl, hsl, hn1⟩ := ho.is
    have := hn1 rfl
    rw [List.length_map] at this
    subst this
    rw [hl]
    exact ⟨a, c, rfl, hsl, hs, fun k o e => hf k (by subst e; exact ⟨o, _, _, rfl⟩)⟩
end Go.Proofs.YtcabkicjboedaaaDoor
end
section
namespace Go.Proofs.YtcabkicjboedaaaDoor
open Go Go.Ev
set_option linter.unusedVariables false
set_option maxRecDepth 100000

/-! pasodoble/seal.wrong -/
def f43 (x0 : Value) (Q : Value → World → Prop) (w : World) : Prop :=
  kcall Tryd.prog 71 #[(.string ⟨#[115, 101, 97, 108]⟩), x0] w fun v1 w2 =>
  Q v1 w2

theorem f43_eq (x0 : Value) (Q : Value → World → Prop) (w : World) : f43 x0 Q w = fnVC Tryd.prog Tryd.f43 [] (Tryd.f43.body.get rfl) [x0] w Q := by kernel_rfl
theorem f43_ok {x0 : Value} {Q : Value → World → Prop} {w : World} (h : f43 x0 Q w) : Meets Tryd.prog 43 #[x0] w Q :=
  sound (c := (Tryd.f43.body.get rfl)) [] Tryd.func43 rfl rfl (args := [x0]) rfl (Eq.mp (f43_eq x0 Q w) h)

/-! pasodoble/seal.isFrame -/
def f62 (x0 : Value) (Q : Value → World → Prop) (w : World) : Prop :=
  kint .i64 .geq x0 (.int .i64 0) fun v1 =>
  kB v1 fun b2 => kIf b2
  (kint .i64 .leq x0 (.int .i64 1073741824) fun v3 =>
  Q v3 w)
  (Q (.bool false) w)

theorem f62_eq (x0 : Value) (Q : Value → World → Prop) (w : World) : f62 x0 Q w = fnVC Tryd.prog Tryd.f62 [] (Tryd.f62.body.get rfl) [x0] w Q := by kernel_rfl
theorem f62_ok {x0 : Value} {Q : Value → World → Prop} {w : World} (h : f62 x0 Q w) : Meets Tryd.prog 62 #[x0] w Q :=
  sound (c := (Tryd.f62.body.get rfl)) [] Tryd.func62 rfl rfl (args := [x0]) rfl (Eq.mp (f62_eq x0 Q w) h)

/-! pasodoble/seal.isParts -/
def f63_4 (x3 : Value) (x6 : Value) (x7 : Value) (x8 : Value) (J3 : Value → Value → World → Prop) (Q : Value → World → Prop) (w : World) : Prop :=
  kint .i64 .add x8 (.int .i64 1) fun v24 =>
  J3 x3 v24 w

def f63_3 (x5 : Value) (x6 : Value) (x7 : Value) (x8 : Value) (J3 : Value → Value → World → Prop) (Q : Value → World → Prop) (w : World) : Prop :=
  kfld 0 x5 fun v22 =>
  kld v22 w fun v23 =>
  f63_4 v23 x6 x7 x8 J3 Q w

def f63_2 (x5 : Value) (x6 : Value) (x7 : Value) (x8 : Value) (x26 : Value) (J3 : Value → Value → World → Prop) (Q : Value → World → Prop) (w : World) : Prop :=
  kB x26 fun b25 => kIf b25
  (Q (.bool false) w)
  (f63_3 x5 x6 x7 x8 J3 Q w)

def f63_1 (x3 : Value) (x6 : Value) (x7 : Value) (x8 : Value) (J3 : Value → Value → World → Prop) (Q : Value → World → Prop) (w : World) : Prop :=
  kix (some (.slice 73)) (some 6) x6 x8 fun v4 =>
  kldN 6 v4 w fun v5 =>
  knew #[(.int .i64 0), (.int .i64 0), (.int .i64 0), (.int .i64 0), (.int .i64 0), (.int .i64 0)] 73 w fun v6 w7 =>
  kst 6 v6 v5 w7 fun w8 =>
  kfld 0 v6 fun v9 =>
  kld v9 w8 fun v10 =>
  kint .i64 .leq v10 x3 fun v11 =>
  kB v11 fun b12 => kIf (!b12)
  (kfld 0 v6 fun v13 =>
  kld v13 w8 fun v14 =>
  kint .i64 .geq v14 (.int .i64 16) fun v15 =>
  kB v15 fun b16 => kIf (!b16)
  (kfld 5 v6 fun v17 =>
  kld v17 w8 fun v18 =>
  kcall Tryd.prog 62 #[v18] w8 fun v19 w20 =>
  kun .not (some .bool) v19 fun v21 =>
  f63_2 v6 x6 x7 x8 v21 J3 Q w20)
  (f63_2 v6 x6 x7 x8 (.bool true) J3 Q w8))
  (f63_2 v6 x6 x7 x8 (.bool true) J3 Q w8)

def f63_5 (Q : Value → World → Prop) (w : World) : Prop :=
  Q (.bool true) w

def f63_0 (x3 : Value) (x8 : Value) (x6 : Value) (x7 : Value) (J3 : Value → Value → World → Prop) (Q : Value → World → Prop) (w : World) : Prop :=
  kint .i64 .lss x8 x7 fun v3 =>
  kB v3 fun b26 => kIf b26
  (f63_1 x3 x6 x7 x8 J3 Q w)
  (f63_5 Q w)

def f63 (x0 : Value) (Q : Value → World → Prop) (w : World) : Prop :=
  klen x0 fun v1 =>
  kL fun (I : Value → Value → World → Prop) (μ : Value → Value → World → Nat) => I (.int .i64 (-1)) (.int .i64 0) w ∧ ∀ (x3 x8 : Value) (w1 : World), I x3 x8 w1 →
  f63_0 x3 x8 x0 v1 (fun y3 y8 w2 => I y3 y8 w2 ∧ μ y3 y8 w2 < μ x3 x8 w1) Q w1

theorem f63_eq (x0 : Value) (Q : Value → World → Prop) (w : World) : f63 x0 Q w = fnVC Tryd.prog Tryd.f63 [(3, [3, 8])] (Tryd.f63.body.get rfl) [x0] w Q := by kernel_rfl
theorem f63_ok {x0 : Value} {Q : Value → World → Prop} {w : World} (h : f63 x0 Q w) : Meets Tryd.prog 63 #[x0] w Q :=
  sound (c := (Tryd.f63.body.get rfl)) [(3, [3, 8])] Tryd.func63 rfl rfl (args := [x0]) rfl (Eq.mp (f63_eq x0 Q w) h)

/-! pasodoble/seal.Good -/
def f26_6 (x1 : Value) (x3 : Value) (x35 : Value) (x36 : Value) (x37 : Value) (J5 : Value → Value → World → Prop) (Q : Value → World → Prop) (w : World) : Prop :=
  kint .i64 .add x37 (.int .i64 1) fun v58 =>
  J5 x3 v58 w

def f26_5 (x1 : Value) (x5 : Value) (x35 : Value) (x36 : Value) (x37 : Value) (J5 : Value → Value → World → Prop) (Q : Value → World → Prop) (w : World) : Prop :=
  kfld 0 x5 fun v56 =>
  kld v56 w fun v57 =>
  f26_6 x1 v57 x35 x36 x37 J5 Q w

def f26_4 (x1 : Value) (x5 : Value) (x35 : Value) (x36 : Value) (x37 : Value) (x57 : Value) (J5 : Value → Value → World → Prop) (Q : Value → World → Prop) (w : World) : Prop :=
  kB x57 fun b59 => kIf b59
  (Q (.bool false) w)
  (f26_5 x1 x5 x35 x36 x37 J5 Q w)

def f26_3 (x1 : Value) (x3 : Value) (x35 : Value) (x36 : Value) (x37 : Value) (J5 : Value → Value → World → Prop) (Q : Value → World → Prop) (w : World) : Prop :=
  kix (some (.slice 85)) (some 2) x35 x37 fun v36 =>
  kldN 2 v36 w fun v37 =>
  knew #[(.int .i64 0), (.slice none 0 0)] 85 w fun v38 w39 =>
  kst 2 v38 v37 w39 fun w40 =>
  kfld 0 v38 fun v41 =>
  kld v41 w40 fun v42 =>
  kint .i64 .leq v42 x3 fun v43 =>
  kB v43 fun b44 => kIf (!b44)
  (kfld 0 v38 fun v45 =>
  kld v45 w40 fun v46 =>
  kfld 1 x1 fun v47 =>
  kld v47 w40 fun v48 =>
  kint .i64 .geq v46 v48 fun v49 =>
  kB v49 fun b50 => kIf (!b50)
  (kfld 1 v38 fun v51 =>
  kld v51 w40 fun v52 =>
  kcall Tryd.prog 63 #[v52] w40 fun v53 w54 =>
  kun .not (some .bool) v53 fun v55 =>
  f26_4 x1 v38 x35 x36 x37 v55 J5 Q w54)
  (f26_4 x1 v38 x35 x36 x37 (.bool true) J5 Q w40))
  (f26_4 x1 v38 x35 x36 x37 (.bool true) J5 Q w40)

def f26_7 (Q : Value → World → Prop) (w : World) : Prop :=
  Q (.bool true) w

def f26_2 (x3 : Value) (x37 : Value) (x1 : Value) (x35 : Value) (x36 : Value) (J5 : Value → Value → World → Prop) (Q : Value → World → Prop) (w : World) : Prop :=
  kint .i64 .lss x37 x36 fun v35 =>
  kB v35 fun b60 => kIf b60
  (f26_3 x1 x3 x35 x36 x37 J5 Q w)
  (f26_7 Q w)

def f26_1 (x1 : Value) (Q : Value → World → Prop) (w : World) : Prop :=
  kfld 3 x1 fun v31 =>
  kld v31 w fun v32 =>
  klen v32 fun v33 =>
  kL fun (I : Value → Value → World → Prop) (μ : Value → Value → World → Nat) => I (.int .i64 0) (.int .i64 0) w ∧ ∀ (x3 x37 : Value) (w1 : World), I x3 x37 w1 →
  f26_2 x3 x37 x1 v32 v33 (fun y3 y37 w2 => I y3 y37 w2 ∧ μ y3 y37 w2 < μ x3 x37 w1) Q w1

def f26_0 (x1 : Value) (x33 : Value) (Q : Value → World → Prop) (w : World) : Prop :=
  kB x33 fun b61 => kIf b61
  (Q (.bool false) w)
  (f26_1 x1 Q w)

def f26 (x0 : Value) (Q : Value → World → Prop) (w : World) : Prop :=
  knew (Value.cells x0) 55 w fun v1 w2 =>
  kfld 0 v1 fun v3 =>
  kld v3 w2 fun v4 =>
  kcall Tryd.prog 62 #[v4] w2 fun v5 w6 =>
  kun .not (some .bool) v5 fun v7 =>
  kB v7 fun b8 => kIf (!b8)
  (kfld 1 v1 fun v9 =>
  kld v9 w6 fun v10 =>
  kint .i64 .lss v10 (.int .i64 1) fun v11 =>
  kB v11 fun b12 => kIf (!b12)
  (kfld 1 v1 fun v13 =>
  kld v13 w6 fun v14 =>
  kint .i64 .sub v14 (.int .i64 1) fun v15 =>
  kcall Tryd.prog 62 #[v15] w6 fun v16 w17 =>
  kun .not (some .bool) v16 fun v18 =>
  kB v18 fun b19 => kIf (!b19)
  (kfld 3 v1 fun v20 =>
  kld v20 w17 fun v21 =>
  klen v21 fun v22 =>
  kint .i64 .gtr v22 (.int .i64 64) fun v24 =>
  kB v24 fun b25 => kIf (!b25)
  (kfld 4 v1 fun v26 =>
  kld v26 w17 fun v27 =>
  klen v27 fun v28 =>
  kint .i64 .gtr v28 (.int .i64 8) fun v30 =>
  f26_0 v1 v30 Q w17)
  (f26_0 v1 (.bool true) Q w17))
  (f26_0 v1 (.bool true) Q w17))
  (f26_0 v1 (.bool true) Q w6))
  (f26_0 v1 (.bool true) Q w6)

theorem f26_eq (x0 : Value) (Q : Value → World → Prop) (w : World) : f26 x0 Q w = fnVC Tryd.prog Tryd.f26 [(5, [3, 37])] (Tryd.f26.body.get rfl) [x0] w Q := by kernel_rfl
theorem f26_ok {x0 : Value} {Q : Value → World → Prop} {w : World} (h : f26 x0 Q w) : Meets Tryd.prog 26 #[x0] w Q :=
  sound (c := (Tryd.f26.body.get rfl)) [(5, [3, 37])] Tryd.func26 rfl rfl (args := [x0]) rfl (Eq.mp (f26_eq x0 Q w) h)

/-! (*pasodoble/seal.scan).refuse -/
def f37 (x0 : Value) (x1 : Value) (Q : Value → World → Prop) (w : World) : Prop :=
  kN x0 <|
  kfld 1 x0 fun v1 =>
  kld v1 w fun v2 =>
  kB v2 fun b3 => kIf (!b3)
  (kun .not (some .bool) x1 fun v4 =>
  kN x0 <|
  kfld 1 x0 fun v5 =>
  kst 1 v5 v4 w fun w6 =>
  Q (.tuple #[]) w6)
  (kN x0 <|
  kfld 1 x0 fun v7 =>
  kst 1 v7 (.bool true) w fun w8 =>
  Q (.tuple #[]) w8)

theorem f37_eq (x0 : Value) (x1 : Value) (Q : Value → World → Prop) (w : World) : f37 x0 x1 Q w = fnVC Tryd.prog Tryd.f37 [] (Tryd.f37.body.get rfl) [x0, x1] w Q := by kernel_rfl
theorem f37_ok {x0 : Value} {x1 : Value} {Q : Value → World → Prop} {w : World} (h : f37 x0 x1 Q w) : Meets Tryd.prog 37 #[x0, x1] w Q :=
  sound (c := (Tryd.f37.body.get rfl)) [] Tryd.func37 rfl rfl (args := [x0, x1]) rfl (Eq.mp (f37_eq x0 x1 Q w) h)

/-! (*pasodoble/seal.scan).count -/
def f40_0 (x5 : Value) (Q : Value → World → Prop) (w : World) : Prop :=
  Q x5 w

def f40 (x0 : Value) (x1 : Value) (Q : Value → World → Prop) (w : World) : Prop :=
  kN x0 <|
  kfld 0 x0 fun v1 =>
  kld v1 w fun v2 =>
  kcall Tryd.prog 38 #[v2] w fun v3 w4 =>
  kint .i64 .leq v3 x1 fun v5 =>
  kcall Tryd.prog 37 #[x0, v5] w4 fun v6 w7 =>
  kN x0 <|
  kfld 1 x0 fun v8 =>
  kld v8 w7 fun v9 =>
  kB v9 fun b10 => kIf b10
  (Q (.int .i64 0) w7)
  (f40_0 v3 Q w7)

theorem f40_eq (x0 : Value) (x1 : Value) (Q : Value → World → Prop) (w : World) : f40 x0 x1 Q w = fnVC Tryd.prog Tryd.f40 [] (Tryd.f40.body.get rfl) [x0, x1] w Q := by kernel_rfl
theorem f40_ok {x0 : Value} {x1 : Value} {Q : Value → World → Prop} {w : World} (h : f40 x0 x1 Q w) : Meets Tryd.prog 40 #[x0, x1] w Q :=
  sound (c := (Tryd.f40.body.get rfl)) [] Tryd.func40 rfl rfl (args := [x0, x1]) rfl (Eq.mp (f40_eq x0 x1 Q w) h)

/-! (*pasodoble/seal.scan).part -/
def f76_2 (x0 : Value) (x4 : Value) (x5 : Value) (x6 : Value) (x23 : Value) (x24 : Value) (J5 : Value → World → Prop) (Q : Value → World → Prop) (w : World) : Prop :=
  kint .i64 .add x24 (.int .i64 1) fun v37 =>
  J5 v37 w

def f76_1 (x0 : Value) (x4 : Value) (x5 : Value) (x6 : Value) (x23 : Value) (x24 : Value) (J5 : Value → World → Prop) (Q : Value → World → Prop) (w : World) : Prop :=
  kN x0 <|
  kfld 0 x0 fun v21 =>
  kld v21 w fun v22 =>
  kcall Tryd.prog 39 #[v22] w fun v23 w24 =>
  kfld 1 x5 fun v25 =>
  kix (some (.array 4 3)) (some 1) v25 x24 fun v26 =>
  kst 1 v26 v23 w24 fun w27 =>
  kint .i64 .sub x6 (.int .i64 1) fun v28 =>
  kint .i64 .lss x24 v28 fun v29 =>
  kB v29 fun b30 => kIf (!b30)
  (kfld 1 x5 fun v31 =>
  kix (some (.array 4 3)) (some 1) v31 x24 fun v32 =>
  kld v32 w27 fun v33 =>
  kint .i64 .neq v33 (.int .i64 0) fun v34 =>
  kcall Tryd.prog 37 #[x0, v34] w27 fun v35 w36 =>
  f76_2 x0 x4 x5 x6 x23 x24 J5 Q w36)
  (kcall Tryd.prog 37 #[x0, (.bool true)] w27 fun v38 w39 =>
  f76_2 x0 x4 x5 x6 x23 x24 J5 Q w39)

def f76_3 (x0 : Value) (x4 : Value) (x5 : Value) (Q : Value → World → Prop) (w : World) : Prop :=
  kN x0 <|
  kfld 0 x0 fun v40 =>
  kld v40 w fun v41 =>
  kcall Tryd.prog 38 #[v41] w fun v42 w43 =>
  kfld 5 x5 fun v44 =>
  kst 1 v44 v42 w43 fun w45 =>
  kldN 6 x5 w45 fun v46 =>
  kst 6 x4 v46 w45 fun w47 =>
  kldN 6 x4 w47 fun v48 =>
  Q v48 w47

def f76_0 (x24 : Value) (x0 : Value) (x4 : Value) (x5 : Value) (x6 : Value) (x23 : Value) (J5 : Value → World → Prop) (Q : Value → World → Prop) (w : World) : Prop :=
  kint .i64 .lss x24 x23 fun v20 =>
  kB v20 fun b49 => kIf b49
  (f76_1 x0 x4 x5 x6 x23 x24 J5 Q w)
  (f76_3 x0 x4 x5 Q w)

def f76 (x0 : Value) (x1 : Value) (Q : Value → World → Prop) (w : World) : Prop :=
  knew #[(.int .i64 0), (.int .i64 0), (.int .i64 0), (.int .i64 0), (.int .i64 0), (.int .i64 0)] 73 w fun v1 w2 =>
  kbld [(.int .i64 0), (.int .i64 0), (.int .i64 0), (.int .i64 0), (.int .i64 0), (.int .i64 0)] [(0, 1, x1)] fun v3 =>
  knew #[(.int .i64 0), (.int .i64 0), (.int .i64 0), (.int .i64 0), (.int .i64 0), (.int .i64 0)] 73 w2 fun v4 w5 =>
  kst 6 v4 v3 w5 fun w6 =>
  kN x0 <|
  kfld 0 x0 fun v7 =>
  kld v7 w6 fun v8 =>
  kcall Tryd.prog 98 #[v8] w6 fun v9 w10 =>
  kint .i64 .leq v9 (.int .i64 4) fun v11 =>
  kcall Tryd.prog 37 #[x0, v11] w10 fun v12 w13 =>
  kfld 1 v4 fun v14 =>
  kmm .i64 false v9 (.int .i64 4) fun v15 =>
  ksl (some (.array 4 3)) (some 1) v14 none (some v15) fun v17 =>
  klen v17 fun v18 =>
  kL fun (I : Value → World → Prop) (μ : Value → World → Nat) => I (.int .i64 0) w13 ∧ ∀ (x24 : Value) (w1 : World), I x24 w1 →
  f76_0 x24 x0 v1 v4 v9 v18 (fun y24 w2 => I y24 w2 ∧ μ y24 w2 < μ x24 w1) Q w1

theorem f76_eq (x0 : Value) (x1 : Value) (Q : Value → World → Prop) (w : World) : f76 x0 x1 Q w = fnVC Tryd.prog Tryd.f76 [(5, [24])] (Tryd.f76.body.get rfl) [x0, x1] w Q := by kernel_rfl
theorem f76_ok {x0 : Value} {x1 : Value} {Q : Value → World → Prop} {w : World} (h : f76 x0 x1 Q w) : Meets Tryd.prog 76 #[x0, x1] w Q :=
  sound (c := (Tryd.f76.body.get rfl)) [(5, [24])] Tryd.func76 rfl rfl (args := [x0, x1]) rfl (Eq.mp (f76_eq x0 x1 Q w) h)

/-! (*pasodoble/seal.scan).being -/
def f41_2 (x0 : Value) (x4 : Value) (x5 : Value) (x25 : Value) (x26 : Value) (x27 : Value) (J5 : Value → World → Prop) (Q : Value → World → Prop) (w : World) : Prop :=
  kint .i64 .add x27 (.int .i64 1) fun v38 =>
  J5 v38 w

def f41_1 (x0 : Value) (x4 : Value) (x5 : Value) (x25 : Value) (x26 : Value) (x27 : Value) (J5 : Value → World → Prop) (Q : Value → World → Prop) (w : World) : Prop :=
  kix (some (.slice 3)) (some 1) x25 x27 fun v23 =>
  kld v23 w fun v24 =>
  kN x0 <|
  kfld 1 x0 fun v25 =>
  kld v25 w fun v26 =>
  kun .not (some .bool) v26 fun v27 =>
  kB v27 fun b41 => kIf b41
  (kfld 1 x5 fun v28 =>
  kld v28 w.drew fun v29 =>
  kG (w.drew = w.drew) <|
  kcall Tryd.prog 76 #[x0, v24] w.drew fun v30 w31 =>
  kG (kld v28 w31 fun v40 =>
  v40 = v29 ∧ w31 = w31) <|
  kbldS [(.int .i64 0), (.int .i64 0), (.int .i64 0), (.int .i64 0), (.int .i64 0), (.int .i64 0)] 1 [(0, 6, v30)] 73 w31 fun v32 w33 =>
  kG (kld v28 w33 fun v39 =>
  v39 = v29 ∧ w33 = w33) <|
  ksem Tryd.prog (Builtin.append_ #[31, 31] 0 #[v29, v32]) w33 fun v34 w35 =>
  kfld 1 x5 fun v36 =>
  kst 1 v36 v34 w35 fun w37 =>
  f41_2 x0 x4 x5 x25 x26 x27 J5 Q w37)
  (f41_2 x0 x4 x5 x25 x26 x27 J5 Q w)

def f41_3 (x4 : Value) (x5 : Value) (Q : Value → World → Prop) (w : World) : Prop :=
  kldN 2 x5 w fun v42 =>
  kst 2 x4 v42 w fun w43 =>
  kldN 2 x4 w43 fun v44 =>
  Q v44 w43

def f41_0 (x27 : Value) (x0 : Value) (x4 : Value) (x5 : Value) (x25 : Value) (x26 : Value) (J5 : Value → World → Prop) (Q : Value → World → Prop) (w : World) : Prop :=
  kint .i64 .lss x27 x26 fun v22 =>
  kB v22 fun b45 => kIf b45
  (f41_1 x0 x4 x5 x25 x26 x27 J5 Q w)
  (f41_3 x4 x5 Q w)

def f41 (x0 : Value) (x1 : Value) (Q : Value → World → Prop) (w : World) : Prop :=
  knew #[(.int .i64 0), (.slice none 0 0)] 85 w fun v1 w2 =>
  kcall Tryd.prog 40 #[x0, (.int .i64 1073741824)] w2 fun v3 w4 =>
  kint .i64 .add x1 v3 fun v5 =>
  kbld [(.int .i64 0), (.slice none 0 0)] [(0, 1, v5)] fun v6 =>
  knew #[(.int .i64 0), (.slice none 0 0)] 85 w4 fun v7 w8 =>
  kst 2 v7 v6 w8 fun w9 =>
  kN x0 <|
  kfld 0 x0 fun v10 =>
  kld v10 w9 fun v11 =>
  kcall Tryd.prog 74 #[v11] w9 fun v12 w13 =>
  kint .u32 .shr v12 (.int .u64 16) fun v14 =>
  kint .u32 .eql v14 (.int .u32 0) fun v15 =>
  kcall Tryd.prog 37 #[x0, v15] w13 fun v16 w17 =>
  kcall Tryd.prog 75 #[v12] w17 fun v18 w19 =>
  klen v18 fun v20 =>
  kL fun (I : Value → World → Prop) (μ : Value → World → Nat) => I (.int .i64 0) w19 ∧ ∀ (x27 : Value) (w1 : World), I x27 w1 →
  f41_0 x27 x0 v1 v7 v18 v20 (fun y27 w2 => I y27 w2 ∧ μ y27 w2 < μ x27 w1) Q w1

theorem f41_eq (x0 : Value) (x1 : Value) (Q : Value → World → Prop) (w : World) : f41 x0 x1 Q w = fnVC Tryd.prog Tryd.f41 [(5, [27])] (Tryd.f41.body.get rfl) [x0, x1] w Q := by kernel_rfl
theorem f41_ok {x0 : Value} {x1 : Value} {Q : Value → World → Prop} {w : World} (h : f41 x0 x1 Q w) : Meets Tryd.prog 41 #[x0, x1] w Q :=
  sound (c := (Tryd.f41.body.get rfl)) [(5, [27])] Tryd.func41 rfl rfl (args := [x0, x1]) rfl (Eq.mp (f41_eq x0 x1 Q w) h)

/-! pasodoble/seal.Read -/
def f16_3 (x2 : Value) (x4 : Value) (x5 : Value) (x34 : Value) (x35 : Value) (J5 : Value → World → Prop) (Q : Value → World → Prop) (w : World) : Prop :=
  kint .i64 .add x35 (.int .i64 1) fun v44 =>
  J5 v44 w

def f16_2 (x2 : Value) (x4 : Value) (x5 : Value) (x34 : Value) (x35 : Value) (J5 : Value → World → Prop) (Q : Value → World → Prop) (w : World) : Prop :=
  kfld 4 x5 fun v32 =>
  kld v32 w.drew fun v33 =>
  kG (w.drew = w.drew) <|
  kN x4 <|
  kfld 0 x4 fun v34 =>
  kld v34 w.drew fun v35 =>
  kG (w.drew = w.drew) <|
  kcall Tryd.prog 39 #[v35] w.drew fun v36 w37 =>
  kG (kld v32 w37 fun v46 =>
  v46 = v33 ∧ w37 = w37) <|
  kbldS [(.int .i64 0)] 1 [(0, 1, v36)] 3 w37 fun v38 w39 =>
  kG (kld v32 w39 fun v45 =>
  v45 = v33 ∧ w39 = w39) <|
  ksem Tryd.prog (Builtin.append_ #[53, 53] 0 #[v33, v38]) w39 fun v40 w41 =>
  kfld 4 x5 fun v42 =>
  kst 1 v42 v40 w41 fun w43 =>
  f16_3 x2 x4 x5 x34 x35 J5 Q w43

def f16_7 (x2 : Value) (x4 : Value) (x5 : Value) (x6 : Value) (x49 : Value) (x50 : Value) (J10 : Value → Value → World → Prop) (Q : Value → World → Prop) (w : World) : Prop :=
  kint .i64 .add x50 (.int .i64 1) fun v66 =>
  J10 x6 v66 w

def f16_6 (x2 : Value) (x4 : Value) (x5 : Value) (x6 : Value) (x49 : Value) (x50 : Value) (J10 : Value → Value → World → Prop) (Q : Value → World → Prop) (w : World) : Prop :=
  kcall Tryd.prog 41 #[x4, x6] w fun v50 w51 =>
  knew #[(.int .i64 0), (.slice none 0 0)] 85 w51 fun v52 w53 =>
  kst 2 v52 v50 w53 fun w54 =>
  kfld 3 x5 fun v55 =>
  kld v55 w54 fun v56 =>
  kldN 2 v52 w54 fun v57 =>
  kbldS [(.int .i64 0), (.slice none 0 0)] 1 [(0, 2, v57)] 85 w54 fun v58 w59 =>
  ksem Tryd.prog (Builtin.append_ #[52, 52] 0 #[v56, v58]) w59 fun v60 w61 =>
  kfld 3 x5 fun v62 =>
  kst 1 v62 v60 w61 fun w63 =>
  kfld 0 v52 fun v64 =>
  kld v64 w63 fun v65 =>
  f16_7 x2 x4 x5 v65 x49 x50 J10 Q w63

def f16_10 (x2 : Value) (x5 : Value) (Q : Value → World → Prop) (w : World) : Prop :=
  kldN 5 x5 w fun v87 =>
  kst 5 x2 v87 w fun w88 =>
  kldN 5 x2 w88 fun v89 =>
  Q (.tuple #[v89, .nilIface]) w88

def f16_9 (x2 : Value) (x5 : Value) (x80 : Value) (Q : Value → World → Prop) (w : World) : Prop :=
  kB x80 fun b90 => kIf b90
  (kbld [(.int .i64 0), (.int .i64 0), (.int .i64 0), (.slice none 0 0), (.slice none 0 0)] [] fun v81 =>
  kld (.pointer (some ⟨0, 0, none⟩)) w fun v82 =>
  kcall Tryd.prog 43 #[v82] w fun v83 w84 =>
  kst 5 x2 v81 w84 fun w85 =>
  kldN 5 x2 w85 fun v86 =>
  Q (.tuple #[v86, v83]) w85)
  (f16_10 x2 x5 Q w)

def f16_8 (x2 : Value) (x4 : Value) (x5 : Value) (Q : Value → World → Prop) (w : World) : Prop :=
  kN x4 <|
  kfld 1 x4 fun v67 =>
  kld v67 w fun v68 =>
  kB v68 fun b69 => kIf (!b69)
  (kN x4 <|
  kfld 0 x4 fun v70 =>
  kld v70 w fun v71 =>
  kcall Tryd.prog 42 #[v71] w fun v72 w73 =>
  keq Tryd.prog .neq 36 false true v72 .nilIface w73 fun v74 w75 =>
  kB v74 fun b76 => kIf (!b76)
  (kldN 5 x5 w75 fun v77 =>
  kcall Tryd.prog 26 #[v77] w75 fun v78 w79 =>
  kun .not (some .bool) v78 fun v80 =>
  f16_9 x2 x5 v80 Q w79)
  (f16_9 x2 x5 (.bool true) Q w75))
  (f16_9 x2 x5 (.bool true) Q w)

def f16_5 (x6 : Value) (x50 : Value) (x2 : Value) (x4 : Value) (x5 : Value) (x49 : Value) (J10 : Value → Value → World → Prop) (Q : Value → World → Prop) (w : World) : Prop :=
  kint .i64 .lss x50 x49 fun v49 =>
  kB v49 fun b91 => kIf b91
  (f16_6 x2 x4 x5 x6 x49 x50 J10 Q w)
  (f16_8 x2 x4 x5 Q w)

def f16_4 (x2 : Value) (x4 : Value) (x5 : Value) (Q : Value → World → Prop) (w : World) : Prop :=
  kcall Tryd.prog 40 #[x4, (.int .i64 64)] w fun v47 w48 =>
  kL fun (I : Value → Value → World → Prop) (μ : Value → Value → World → Nat) => I (.int .i64 0) (.int .i64 0) w48 ∧ ∀ (x6 x50 : Value) (w1 : World), I x6 x50 w1 →
  f16_5 x6 x50 x2 x4 x5 v47 (fun y6 y50 w2 => I y6 y50 w2 ∧ μ y6 y50 w2 < μ x6 x50 w1) Q w1

def f16_1 (x35 : Value) (x2 : Value) (x4 : Value) (x5 : Value) (x34 : Value) (J5 : Value → World → Prop) (Q : Value → World → Prop) (w : World) : Prop :=
  kint .i64 .lss x35 x34 fun v31 =>
  kB v31 fun b92 => kIf b92
  (f16_2 x2 x4 x5 x34 x35 J5 Q w)
  (f16_4 x2 x4 x5 Q w)

def f16_0 (x2 : Value) (x4 : Value) (x5 : Value) (Q : Value → World → Prop) (w : World) : Prop :=
  kcall Tryd.prog 40 #[x4, (.int .i64 8)] w fun v29 w30 =>
  kL fun (I : Value → World → Prop) (μ : Value → World → Nat) => I (.int .i64 0) w30 ∧ ∀ (x35 : Value) (w1 : World), I x35 w1 →
  f16_1 x35 x2 x4 x5 v29 (fun y35 w2 => I y35 w2 ∧ μ y35 w2 < μ x35 w1) Q w1

def f16 (x0 : Value) (Q : Value → World → Prop) (w : World) : Prop :=
  knew #[(.int .i64 0), (.int .i64 0), (.int .i64 0), (.slice none 0 0), (.slice none 0 0)] 55 w fun v1 w2 =>
  kcall Tryd.prog 36 #[x0] w2 fun v3 w4 =>
  kbld [(.pointer none), (.bool false)] [(0, 1, v3)] fun v5 =>
  knew (Value.cells v5) 90 w4 fun v6 w7 =>
  klenStr x0 fun v8 =>
  kint .i64 .leq v8 (.int .i64 32768) fun v10 =>
  kcall Tryd.prog 37 #[v6, v10] w7 fun v11 w12 =>
  (kN v6 <|
  kfld 0 v6 fun v13 =>
  kld v13 w12.drew fun v14 =>
  kG (w12.drew = w12.drew) <|
  kcall Tryd.prog 38 #[v14] w12.drew fun v15 w16 =>
  (kN v6 <|
  kfld 0 v6 fun v17 =>
  kld v17 w16 fun v18 =>
  kG (w16 = w16) <|
  kG (kld v17 w12.drew fun v111 =>
  v111 = v18 ∧ w12.drew = w12.drew) <|
  kcall Tryd.prog 38 #[v18] w16 fun v19 w20 =>
  (kN v6 <|
  kfld 0 v6 fun v21 =>
  kld v21 w20 fun v22 =>
  kG (w20 = w20) <|
  kG (kld v21 w16 fun v97 =>
  v97 = v22 ∧ w16 = w16) <|
  kG (kld v21 w12.drew fun v96 =>
  v96 = v22 ∧ w12.drew = w12.drew) <|
  kcall Tryd.prog 39 #[v22] w20 fun v23 w24 =>
  knew #[(.int .i64 0), (.int .i64 0), (.int .i64 0), (.slice none 0 0), (.slice none 0 0)] 55 w24 fun v25 w26 =>
  kG (kld v21 w26 fun v95 =>
  v95 = v22 ∧ w26 = w26) <|
  kG (kld v17 w26 fun v94 =>
  v94 = v18 ∧ w26 = w26) <|
  kG (kld v13 w26 fun v93 =>
  v93 = v14 ∧ w26 = w26) <|
  kbld [(.int .i64 0), (.int .i64 0), (.int .i64 0), (.slice none 0 0), (.slice none 0 0)] [(0, 1, v15), (1, 1, v19), (2, 1, v23)] fun v27 =>
  kst 5 v25 v27 w26 fun w28 =>
  f16_0 v1 v6 v25 Q w28) ∧
  (knew #[(.int .i64 0), (.int .i64 0), (.int .i64 0), (.slice none 0 0), (.slice none 0 0)] 55 w20 fun v98 w99 =>
  kG (kld v17 w99 fun v110 =>
  v110 = v18 ∧ w99 = w99) <|
  kG (kld v13 w99 fun v109 =>
  v109 = v14 ∧ w99 = w99) <|
  kN v6 <|
  kfld 0 v6 fun v100 =>
  kld v100 w99 fun v101 =>
  kG (w99 = w99) <|
  kG (kld v100 w20 fun v108 =>
  v108 = v101 ∧ w20 = w20) <|
  kG (kld v100 w16 fun v107 =>
  v107 = v101 ∧ w16 = w16) <|
  kG (kld v100 w12.drew fun v106 =>
  v106 = v101 ∧ w12.drew = w12.drew) <|
  kcall Tryd.prog 39 #[v101] w99 fun v102 w103 =>
  kbld [(.int .i64 0), (.int .i64 0), (.int .i64 0), (.slice none 0 0), (.slice none 0 0)] [(0, 1, v15), (1, 1, v19), (2, 1, v102)] fun v104 =>
  kst 5 v98 v104 w103 fun w105 =>
  f16_0 v1 v6 v98 Q w105)) ∧
  (knew #[(.int .i64 0), (.int .i64 0), (.int .i64 0), (.slice none 0 0), (.slice none 0 0)] 55 w16 fun v112 w113 =>
  kG (kld v13 w113 fun v129 =>
  v129 = v14 ∧ w113 = w113) <|
  kN v6 <|
  kfld 0 v6 fun v114 =>
  kld v114 w113 fun v115 =>
  kG (w113 = w113) <|
  kG (kld v114 w16 fun v128 =>
  v128 = v115 ∧ w16 = w16) <|
  kG (kld v114 w12.drew fun v127 =>
  v127 = v115 ∧ w12.drew = w12.drew) <|
  kcall Tryd.prog 38 #[v115] w113 fun v116 w117 =>
  kN v6 <|
  kfld 0 v6 fun v118 =>
  kld v118 w117 fun v119 =>
  kG (w117 = w117) <|
  kG (kld v118 w113 fun v126 =>
  v126 = v119 ∧ w113 = w113) <|
  kG (kld v118 w16 fun v125 =>
  v125 = v119 ∧ w16 = w16) <|
  kG (kld v118 w12.drew fun v124 =>
  v124 = v119 ∧ w12.drew = w12.drew) <|
  kcall Tryd.prog 39 #[v119] w117 fun v120 w121 =>
  kbld [(.int .i64 0), (.int .i64 0), (.int .i64 0), (.slice none 0 0), (.slice none 0 0)] [(0, 1, v15), (1, 1, v116), (2, 1, v120)] fun v122 =>
  kst 5 v112 v122 w121 fun w123 =>
  f16_0 v1 v6 v112 Q w123)) ∧
  (knew #[(.int .i64 0), (.int .i64 0), (.int .i64 0), (.slice none 0 0), (.slice none 0 0)] 55 w12.drew fun v130 w131 =>
  kN v6 <|
  kfld 0 v6 fun v132 =>
  kld v132 w131 fun v133 =>
  kG (w131 = w131) <|
  kG (kld v132 w12.drew fun v151 =>
  v151 = v133 ∧ w12.drew = w12.drew) <|
  kcall Tryd.prog 38 #[v133] w131 fun v134 w135 =>
  kN v6 <|
  kfld 0 v6 fun v136 =>
  kld v136 w135 fun v137 =>
  kG (w135 = w135) <|
  kG (kld v136 w131 fun v150 =>
  v150 = v137 ∧ w131 = w131) <|
  kG (kld v136 w12.drew fun v149 =>
  v149 = v137 ∧ w12.drew = w12.drew) <|
  kcall Tryd.prog 38 #[v137] w135 fun v138 w139 =>
  kN v6 <|
  kfld 0 v6 fun v140 =>
  kld v140 w139 fun v141 =>
  kG (w139 = w139) <|
  kG (kld v140 w135 fun v148 =>
  v148 = v141 ∧ w135 = w135) <|
  kG (kld v140 w131 fun v147 =>
  v147 = v141 ∧ w131 = w131) <|
  kG (kld v140 w12.drew fun v146 =>
  v146 = v141 ∧ w12.drew = w12.drew) <|
  kcall Tryd.prog 39 #[v141] w139 fun v142 w143 =>
  kbld [(.int .i64 0), (.int .i64 0), (.int .i64 0), (.slice none 0 0), (.slice none 0 0)] [(0, 1, v134), (1, 1, v138), (2, 1, v142)] fun v144 =>
  kst 5 v130 v144 w143 fun w145 =>
  f16_0 v1 v6 v130 Q w145)

theorem f16_eq (x0 : Value) (Q : Value → World → Prop) (w : World) : f16 x0 Q w = fnVC Tryd.prog Tryd.f16 [(5, [35]), (10, [6, 50])] (Tryd.f16.body.get rfl) [x0] w Q := by kernel_rfl
theorem f16_ok {x0 : Value} {Q : Value → World → Prop} {w : World} (h : f16 x0 Q w) : Meets Tryd.prog 16 #[x0] w Q :=
  sound (c := (Tryd.f16.body.get rfl)) [(5, [35]), (10, [6, 50])] Tryd.func16 rfl rfl (args := [x0]) rfl (Eq.mp (f16_eq x0 Q w) h)

/-! (pasodoble/seal.page).part -/
def f83_2 (x2 : Value) (x3 : Value) (x4 : Value) (J2 : Value → World → Prop) (Q : Value → World → Prop) (w : World) : Prop :=
  kint .i64 .sub x4 (.int .i64 1) fun v12 =>
  J2 v12 w

def f83_6 (x2 : Value) (x3 : Value) (x25 : Value) (x26 : Value) (x27 : Value) (J6 : Value → World → Prop) (Q : Value → World → Prop) (w : World) : Prop :=
  kint .i64 .add x27 (.int .i64 1) fun v28 =>
  J6 v28 w

def f83_5 (x2 : Value) (x3 : Value) (x25 : Value) (x26 : Value) (x27 : Value) (J6 : Value → World → Prop) (Q : Value → World → Prop) (w : World) : Prop :=
  kix (some (.slice 3)) (some 1) x25 x27 fun v22 =>
  kld v22 w fun v23 =>
  kfld 0 x2 fun v24 =>
  kld v24 w fun v25 =>
  kcall Tryd.prog 53 #[v25, v23] w fun v26 w27 =>
  f83_6 x2 x3 x25 x26 x27 J6 Q w27

def f83_7 (x2 : Value) (x3 : Value) (Q : Value → World → Prop) (w : World) : Prop :=
  kfld 0 x2 fun v29 =>
  kld v29 w fun v30 =>
  kfld 5 x3 fun v31 =>
  kld v31 w fun v32 =>
  kcall Tryd.prog 52 #[v30, v32] w fun v33 w34 =>
  Q (.tuple #[]) w34

def f83_4 (x27 : Value) (x2 : Value) (x3 : Value) (x25 : Value) (x26 : Value) (J6 : Value → World → Prop) (Q : Value → World → Prop) (w : World) : Prop :=
  kint .i64 .lss x27 x26 fun v21 =>
  kB v21 fun b35 => kIf b35
  (f83_5 x2 x3 x25 x26 x27 J6 Q w)
  (f83_7 x2 x3 Q w)

def f83_3 (x2 : Value) (x3 : Value) (x4 : Value) (Q : Value → World → Prop) (w : World) : Prop :=
  kfld 0 x2 fun v13 =>
  kld v13 w fun v14 =>
  kcall Tryd.prog 100 #[v14, x4] w fun v15 w16 =>
  kfld 1 x3 fun v17 =>
  ksl (some (.array 4 3)) (some 1) v17 none (some x4) fun v18 =>
  klen v18 fun v19 =>
  kL fun (I : Value → World → Prop) (μ : Value → World → Nat) => I (.int .i64 0) w16 ∧ ∀ (x27 : Value) (w1 : World), I x27 w1 →
  f83_4 x27 x2 x3 v18 v19 (fun y27 w2 => I y27 w2 ∧ μ y27 w2 < μ x27 w1) Q w1

def f83_1 (x2 : Value) (x3 : Value) (x4 : Value) (x16 : Value) (J2 : Value → World → Prop) (Q : Value → World → Prop) (w : World) : Prop :=
  kB x16 fun b36 => kIf b36
  (f83_2 x2 x3 x4 J2 Q w)
  (f83_3 x2 x3 x4 Q w)

def f83_0 (x4 : Value) (x2 : Value) (x3 : Value) (J2 : Value → World → Prop) (Q : Value → World → Prop) (w : World) : Prop :=
  kint .i64 .gtr x4 (.int .i64 0) fun v5 =>
  kB v5 fun b6 => kIf b6
  (kint .i64 .sub x4 (.int .i64 1) fun v7 =>
  kfld 1 x3 fun v8 =>
  kix (some (.array 4 3)) (some 1) v8 v7 fun v9 =>
  kld v9 w fun v10 =>
  kint .i64 .eql v10 (.int .i64 0) fun v11 =>
  f83_1 x2 x3 x4 v11 J2 Q w)
  (f83_1 x2 x3 x4 (.bool false) J2 Q w)

def f83 (x0 : Value) (x1 : Value) (Q : Value → World → Prop) (w : World) : Prop :=
  knew (Value.cells x0) 108 w fun v1 w2 =>
  knew (Value.cells x1) 73 w2 fun v3 w4 =>
  kL fun (I : Value → World → Prop) (μ : Value → World → Nat) => I (.int .i64 4) w4 ∧ ∀ (x4 : Value) (w1 : World), I x4 w1 →
  f83_0 x4 v1 v3 (fun y4 w2 => I y4 w2 ∧ μ y4 w2 < μ x4 w1) Q w1

theorem f83_eq (x0 : Value) (x1 : Value) (Q : Value → World → Prop) (w : World) : f83 x0 x1 Q w = fnVC Tryd.prog Tryd.f83 [(2, [4]), (6, [27])] (Tryd.f83.body.get rfl) [x0, x1] w Q := by kernel_rfl
theorem f83_ok {x0 : Value} {x1 : Value} {Q : Value → World → Prop} {w : World} (h : f83 x0 x1 Q w) : Meets Tryd.prog 83 #[x0, x1] w Q :=
  sound (c := (Tryd.f83.body.get rfl)) [(2, [4]), (6, [27])] Tryd.func83 rfl rfl (args := [x0, x1]) rfl (Eq.mp (f83_eq x0 x1 Q w) h)

/-! (pasodoble/seal.page).being -/
def f54_2 (x2 : Value) (x3 : Value) (x4 : Value) (x6 : Value) (x12 : Value) (x13 : Value) (x14 : Value) (J3 : Value → Value → World → Prop) (Q : Value → World → Prop) (w : World) : Prop :=
  kint .i64 .add x14 (.int .i64 1) fun v19 =>
  J3 x6 v19 w

def f54_1 (x2 : Value) (x3 : Value) (x4 : Value) (x6 : Value) (x12 : Value) (x13 : Value) (x14 : Value) (J3 : Value → Value → World → Prop) (Q : Value → World → Prop) (w : World) : Prop :=
  kix (some (.slice 73)) (some 6) x12 x14 fun v10 =>
  kldN 6 v10 w fun v11 =>
  knew #[(.int .i64 0), (.int .i64 0), (.int .i64 0), (.int .i64 0), (.int .i64 0), (.int .i64 0)] 73 w fun v12 w13 =>
  kst 6 v12 v11 w13 fun w14 =>
  kfld 0 v12 fun v15 =>
  kld v15 w14 fun v16 =>
  kcall Tryd.prog 32 #[x6, v16] w14 fun v17 w18 =>
  f54_2 x2 x3 x4 v17 x12 x13 x14 J3 Q w18

def f54_6 (x3 : Value) (x35 : Value) (x36 : Value) (x37 : Value) (J10 : Value → World → Prop) (Q : Value → World → Prop) (w : World) : Prop :=
  kint .i64 .add x37 (.int .i64 1) fun v45 =>
  J10 v45 w

def f54_5 (x3 : Value) (x35 : Value) (x36 : Value) (x37 : Value) (J10 : Value → World → Prop) (Q : Value → World → Prop) (w : World) : Prop :=
  kix (some (.slice 73)) (some 6) x35 x37 fun v36 =>
  kldN 6 v36 w fun v37 =>
  knew #[(.int .i64 0), (.int .i64 0), (.int .i64 0), (.int .i64 0), (.int .i64 0), (.int .i64 0)] 73 w fun v38 w39 =>
  kst 6 v38 v37 w39 fun w40 =>
  kldN 1 x3 w40 fun v41 =>
  kldN 6 v38 w40 fun v42 =>
  kcall Tryd.prog 83 #[v41, v42] w40 fun v43 w44 =>
  f54_6 x3 x35 x36 x37 J10 Q w44

def f54_4 (x37 : Value) (x3 : Value) (x35 : Value) (x36 : Value) (J10 : Value → World → Prop) (Q : Value → World → Prop) (w : World) : Prop :=
  kint .i64 .lss x37 x36 fun v35 =>
  kB v35 fun b46 => kIf b46
  (f54_5 x3 x35 x36 x37 J10 Q w)
  (Q (.tuple #[]) w)

def f54_3 (x2 : Value) (x3 : Value) (x4 : Value) (x6 : Value) (Q : Value → World → Prop) (w : World) : Prop :=
  kfld 0 x3 fun v20 =>
  kld v20 w fun v21 =>
  kfld 0 x4 fun v22 =>
  kld v22 w fun v23 =>
  kint .i64 .sub v23 x2 fun v24 =>
  kcall Tryd.prog 52 #[v21, v24] w fun v25 w26 =>
  kfld 0 x3 fun v27 =>
  kld v27 w26 fun v28 =>
  kcall Tryd.prog 82 #[v28, x6] w26 fun v29 w30 =>
  kfld 1 x4 fun v31 =>
  kld v31 w30 fun v32 =>
  klen v32 fun v33 =>
  kL fun (I : Value → World → Prop) (μ : Value → World → Nat) => I (.int .i64 0) w30 ∧ ∀ (x37 : Value) (w1 : World), I x37 w1 →
  f54_4 x37 x3 v32 v33 (fun y37 w2 => I y37 w2 ∧ μ y37 w2 < μ x37 w1) Q w1

def f54_0 (x6 : Value) (x14 : Value) (x2 : Value) (x3 : Value) (x4 : Value) (x12 : Value) (x13 : Value) (J3 : Value → Value → World → Prop) (Q : Value → World → Prop) (w : World) : Prop :=
  kint .i64 .lss x14 x13 fun v9 =>
  kB v9 fun b47 => kIf b47
  (f54_1 x2 x3 x4 x6 x12 x13 x14 J3 Q w)
  (f54_3 x2 x3 x4 x6 Q w)

def f54 (x0 : Value) (x1 : Value) (x2 : Value) (Q : Value → World → Prop) (w : World) : Prop :=
  knew (Value.cells x0) 108 w fun v1 w2 =>
  knew (Value.cells x1) 85 w2 fun v3 w4 =>
  kfld 1 v3 fun v5 =>
  kld v5 w4 fun v6 =>
  klen v6 fun v7 =>
  kL fun (I : Value → Value → World → Prop) (μ : Value → Value → World → Nat) => I (.int .u32 0) (.int .i64 0) w4 ∧ ∀ (x6 x14 : Value) (w1 : World), I x6 x14 w1 →
  f54_0 x6 x14 x2 v1 v3 v6 v7 (fun y6 y14 w2 => I y6 y14 w2 ∧ μ y6 y14 w2 < μ x6 x14 w1) Q w1

theorem f54_eq (x0 : Value) (x1 : Value) (x2 : Value) (Q : Value → World → Prop) (w : World) : f54 x0 x1 x2 Q w = fnVC Tryd.prog Tryd.f54 [(3, [6, 14]), (10, [37])] (Tryd.f54.body.get rfl) [x0, x1, x2] w Q := by kernel_rfl
theorem f54_ok {x0 : Value} {x1 : Value} {x2 : Value} {Q : Value → World → Prop} {w : World} (h : f54 x0 x1 x2 Q w) : Meets Tryd.prog 54 #[x0, x1, x2] w Q :=
  sound (c := (Tryd.f54.body.get rfl)) [(3, [6, 14]), (10, [37])] Tryd.func54 rfl rfl (args := [x0, x1, x2]) rfl (Eq.mp (f54_eq x0 x1 x2 Q w) h)

/-! pasodoble/seal.Bytes -/
def f22_3 (x1 : Value) (x4 : Value) (x41 : Value) (x42 : Value) (x43 : Value) (J9 : Value → World → Prop) (Q : Value → World → Prop) (w : World) : Prop :=
  kint .i64 .add x43 (.int .i64 1) fun v53 =>
  J9 v53 w

def f22_2 (x1 : Value) (x4 : Value) (x41 : Value) (x42 : Value) (x43 : Value) (J9 : Value → World → Prop) (Q : Value → World → Prop) (w : World) : Prop :=
  kix (some (.slice 3)) (some 1) x41 x43 fun v47 =>
  kld v47 w fun v48 =>
  kfld 0 x4 fun v49 =>
  kld v49 w fun v50 =>
  kcall Tryd.prog 53 #[v50, v48] w fun v51 w52 =>
  f22_3 x1 x4 x41 x42 x43 J9 Q w52

def f22_7 (x4 : Value) (x7 : Value) (x59 : Value) (x60 : Value) (x61 : Value) (J16 : Value → Value → World → Prop) (Q : Value → World → Prop) (w : World) : Prop :=
  kint .i64 .add x61 (.int .i64 1) fun v78 =>
  J16 x7 v78 w

def f22_6 (x4 : Value) (x7 : Value) (x59 : Value) (x60 : Value) (x61 : Value) (J16 : Value → Value → World → Prop) (Q : Value → World → Prop) (w : World) : Prop :=
  kix (some (.slice 85)) (some 2) x59 x61 fun v67 =>
  kldN 2 v67 w fun v68 =>
  knew #[(.int .i64 0), (.slice none 0 0)] 85 w fun v69 w70 =>
  kst 2 v69 v68 w70 fun w71 =>
  kldN 1 x4 w71 fun v72 =>
  kldN 2 v69 w71 fun v73 =>
  kcall Tryd.prog 54 #[v72, v73, x7] w71 fun v74 w75 =>
  kfld 0 v69 fun v76 =>
  kld v76 w75 fun v77 =>
  f22_7 x4 v77 x59 x60 x61 J16 Q w75

def f22_9 (x10 : Value) (Q : Value → World → Prop) (w : World) : Prop :=
  Q (.tuple #[x10, .nilIface]) w

def f22_8 (x4 : Value) (Q : Value → World → Prop) (w : World) : Prop :=
  kfld 0 x4 fun v79 =>
  kld v79 w fun v80 =>
  kcall Tryd.prog 55 #[v80] w fun v81 w82 =>
  kext v81 0 fun v83 =>
  kext v81 1 fun v84 =>
  keq Tryd.prog .neq 36 false true v84 .nilIface w82 fun v85 w86 =>
  kB v85 fun b89 => kIf b89
  (kcall Tryd.prog 43 #[v84] w86 fun v87 w88 =>
  Q (.tuple #[(.string ⟨#[]⟩), v87]) w88)
  (f22_9 v83 Q w86)

def f22_5 (x7 : Value) (x61 : Value) (x4 : Value) (x59 : Value) (x60 : Value) (J16 : Value → Value → World → Prop) (Q : Value → World → Prop) (w : World) : Prop :=
  kint .i64 .lss x61 x60 fun v66 =>
  kB v66 fun b90 => kIf b90
  (f22_6 x4 x7 x59 x60 x61 J16 Q w)
  (f22_8 x4 Q w)

def f22_4 (x1 : Value) (x4 : Value) (Q : Value → World → Prop) (w : World) : Prop :=
  kfld 0 x4 fun v54 =>
  kld v54 w fun v55 =>
  kfld 3 x1 fun v56 =>
  kld v56 w fun v57 =>
  klen v57 fun v58 =>
  kcall Tryd.prog 52 #[v55, v58] w fun v60 w61 =>
  kfld 3 x1 fun v62 =>
  kld v62 w61 fun v63 =>
  klen v63 fun v64 =>
  kL fun (I : Value → Value → World → Prop) (μ : Value → Value → World → Nat) => I (.int .i64 0) (.int .i64 0) w61 ∧ ∀ (x7 x61 : Value) (w1 : World), I x7 x61 w1 →
  f22_5 x7 x61 x4 v63 v64 (fun y7 y61 w2 => I y7 y61 w2 ∧ μ y7 y61 w2 < μ x7 x61 w1) Q w1

def f22_1 (x43 : Value) (x1 : Value) (x4 : Value) (x41 : Value) (x42 : Value) (J9 : Value → World → Prop) (Q : Value → World → Prop) (w : World) : Prop :=
  kint .i64 .lss x43 x42 fun v46 =>
  kB v46 fun b91 => kIf b91
  (f22_2 x1 x4 x41 x42 x43 J9 Q w)
  (f22_4 x1 x4 Q w)

def f22_0 (x1 : Value) (Q : Value → World → Prop) (w : World) : Prop :=
  kcall Tryd.prog 51 #[(.int .i64 32768)] w fun v10 w11 =>
  kbld [(.pointer none)] [(0, 1, v10)] fun v12 =>
  knew #[(.pointer none)] 108 w11 fun v13 w14 =>
  kst 1 v13 v12 w14 fun w15 =>
  kfld 0 v13 fun v16 =>
  kld v16 w15 fun v17 =>
  kfld 0 x1 fun v18 =>
  kld v18 w15 fun v19 =>
  kcall Tryd.prog 52 #[v17, v19] w15 fun v20 w21 =>
  kfld 0 v13 fun v22 =>
  kld v22 w21 fun v23 =>
  kfld 1 x1 fun v24 =>
  kld v24 w21 fun v25 =>
  kcall Tryd.prog 52 #[v23, v25] w21 fun v26 w27 =>
  kfld 0 v13 fun v28 =>
  kld v28 w27 fun v29 =>
  kfld 2 x1 fun v30 =>
  kld v30 w27 fun v31 =>
  kcall Tryd.prog 53 #[v29, v31] w27 fun v32 w33 =>
  kfld 0 v13 fun v34 =>
  kld v34 w33 fun v35 =>
  kfld 4 x1 fun v36 =>
  kld v36 w33 fun v37 =>
  klen v37 fun v38 =>
  kcall Tryd.prog 52 #[v35, v38] w33 fun v40 w41 =>
  kfld 4 x1 fun v42 =>
  kld v42 w41 fun v43 =>
  klen v43 fun v44 =>
  kL fun (I : Value → World → Prop) (μ : Value → World → Nat) => I (.int .i64 0) w41 ∧ ∀ (x43 : Value) (w1 : World), I x43 w1 →
  f22_1 x43 x1 v13 v43 v44 (fun y43 w2 => I y43 w2 ∧ μ y43 w2 < μ x43 w1) Q w1

def f22 (x0 : Value) (Q : Value → World → Prop) (w : World) : Prop :=
  knew (Value.cells x0) 55 w fun v1 w2 =>
  kldN 5 v1 w2 fun v3 =>
  kcall Tryd.prog 26 #[v3] w2 fun v4 w5 =>
  kun .not (some .bool) v4 fun v6 =>
  kB v6 fun b92 => kIf b92
  (kld (.pointer (some ⟨1, 0, none⟩)) w5 fun v7 =>
  kcall Tryd.prog 43 #[v7] w5 fun v8 w9 =>
  Q (.tuple #[(.string ⟨#[]⟩), v8]) w9)
  (f22_0 v1 Q w5)

theorem f22_eq (x0 : Value) (Q : Value → World → Prop) (w : World) : f22 x0 Q w = fnVC Tryd.prog Tryd.f22 [(9, [43]), (16, [7, 61])] (Tryd.f22.body.get rfl) [x0] w Q := by kernel_rfl
theorem f22_ok {x0 : Value} {Q : Value → World → Prop} {w : World} (h : f22 x0 Q w) : Meets Tryd.prog 22 #[x0] w Q :=
  sound (c := (Tryd.f22.body.get rfl)) [(9, [43]), (16, [7, 61])] Tryd.func22 rfl rfl (args := [x0]) rfl (Eq.mp (f22_eq x0 Q w) h)

end Go.Proofs.YtcabkicjboedaaaDoor
end
