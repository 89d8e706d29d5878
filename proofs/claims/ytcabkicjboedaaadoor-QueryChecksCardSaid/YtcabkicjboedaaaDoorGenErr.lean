import Derived.Test.YtcabkicjboedaaaDoorChecked
import Derived.Test.YtcabkicjboedaaaDoorEvK
namespace Go.Proofs.YtcabkicjboedaaaDoor
open Go Go.Ev
set_option linter.unusedVariables false
set_option maxRecDepth 100000

/-! errors.Is -/
def f17_1 (x0 : Value) (x1 : Value) (Q : Value → World → Prop) (w : World) : Prop :=
  kextf Tryd.prog 44 [x1] w fun v8 w9 =>
  kcallM Tryd.prog v8 "Comparable" [] w9 fun v10 w11 =>
  kcall Tryd.prog 45 #[x0, x1, v10] w11 fun v12 w13 =>
  Q v12 w13

def f17_0 (x0 : Value) (x1 : Value) (x11 : Value) (Q : Value → World → Prop) (w : World) : Prop :=
  kB x11 fun b14 => kIf b14
  (keq Tryd.prog .eql 36 false false x0 x1 w fun v6 w7 =>
  Q v6 w7)
  (f17_1 x0 x1 Q w)

def f17 (x0 : Value) (x1 : Value) (Q : Value → World → Prop) (w : World) : Prop :=
  keq Tryd.prog .eql 36 false true x0 .nilIface w fun v1 w2 =>
  kB v1 fun b3 => kIf (!b3)
  (keq Tryd.prog .eql 36 false true x1 .nilIface w2 fun v4 w5 =>
  f17_0 x0 x1 v4 Q w5)
  (f17_0 x0 x1 (.bool true) Q w2)

theorem f17_eq (x0 : Value) (x1 : Value) (Q : Value → World → Prop) (w : World) : f17 x0 x1 Q w = fnVC Tryd.prog Tryd.f17 [] (Tryd.f17.body.get rfl) [x0, x1] w Q := by kernel_rfl
theorem f17_ok {x0 : Value} {x1 : Value} {Q : Value → World → Prop} {w : World} (h : f17 x0 x1 Q w) : Meets Tryd.prog 17 #[x0, x1] w Q :=
  sound (c := (Tryd.f17.body.get rfl)) [] Tryd.func17 rfl rfl (args := [x0, x1]) rfl (Eq.mp (f17_eq x0 x1 Q w) h)

/-! errors.is -/
def f45_7 (x1 : Value) (x2 : Value) (x43 : Value) (x44 : Value) (x45 : Value) (J17 : Value → World → Prop) (J1 : Value → World → Prop) (Q : Value → World → Prop) (w : World) : Prop :=
  kint .i64 .add x45 (.int .i64 1) fun v33 =>
  J17 v33 w

def f45_6 (x1 : Value) (x2 : Value) (x43 : Value) (x44 : Value) (x45 : Value) (J17 : Value → World → Prop) (J1 : Value → World → Prop) (Q : Value → World → Prop) (w : World) : Prop :=
  kix (some (.slice 36)) (some 1) x43 x45 fun v29 =>
  kld v29 w fun v30 =>
  kcall Tryd.prog 45 #[v30, x1, x2] w fun v31 w32 =>
  kB v31 fun b34 => kIf b34
  (Q (.bool true) w32)
  (f45_7 x1 x2 x43 x44 x45 J17 J1 Q w32)

def f45_8 (J1 : Value → World → Prop) (Q : Value → World → Prop) (w : World) : Prop :=
  Q (.bool false) w

def f45_5 (x45 : Value) (x1 : Value) (x2 : Value) (x43 : Value) (x44 : Value) (J17 : Value → World → Prop) (J1 : Value → World → Prop) (Q : Value → World → Prop) (w : World) : Prop :=
  kint .i64 .lss x45 x44 fun v28 =>
  kB v28 fun b35 => kIf b35
  (f45_6 x1 x2 x43 x44 x45 J17 J1 Q w)
  (f45_8 J1 Q w)

def f45_4 (x0 : Value) (x1 : Value) (x2 : Value) (J1 : Value → World → Prop) (Q : Value → World → Prop) (w : World) : Prop :=
  ksem Tryd.prog (Instr.typeAssert x0 36 148 true) w fun v11 w12 =>
  kext v11 1 fun v13 =>
  kext v11 0 fun v14 =>
  kB v13 fun b37 => kIf b37
  (kcallM Tryd.prog v14 "Unwrap" [] w12 fun v15 w16 =>
  keq Tryd.prog .eql 36 false true v15 .nilIface w16 fun v17 w18 =>
  kB v17 fun b19 => kIf b19
  (Q (.bool false) w18)
  (J1 v15 w18))
  (ksem Tryd.prog (Instr.typeAssert x0 36 149 true) w12 fun v20 w21 =>
  kext v20 1 fun v22 =>
  kext v20 0 fun v23 =>
  kB v22 fun b36 => kIf b36
  (kcallM Tryd.prog v23 "Unwrap" [] w21 fun v24 w25 =>
  klen v24 fun v26 =>
  kL fun (I : Value → World → Prop) (μ : Value → World → Nat) => I (.int .i64 0) w25 ∧ ∀ (x45 : Value) (w1 : World), I x45 w1 →
  f45_5 x45 x1 x2 v24 v26 (fun y45 w2 => I y45 w2 ∧ μ y45 w2 < μ x45 w1) J1 Q w1)
  (Q (.bool false) w21))

def f45_3 (x0 : Value) (x1 : Value) (x2 : Value) (x30 : Value) (J1 : Value → World → Prop) (Q : Value → World → Prop) (w : World) : Prop :=
  kB x30 fun b38 => kIf b38
  (Q (.bool true) w)
  (f45_4 x0 x1 x2 J1 Q w)

def f45_2 (x0 : Value) (x1 : Value) (x2 : Value) (J1 : Value → World → Prop) (Q : Value → World → Prop) (w : World) : Prop :=
  ksem Tryd.prog (Instr.typeAssert x0 36 145 true) w fun v4 w5 =>
  kext v4 0 fun v6 =>
  kext v4 1 fun v7 =>
  kB v7 fun b8 => kIf b8
  (kcallM Tryd.prog v6 "Is" [x1] w5 fun v9 w10 =>
  f45_3 x0 x1 x2 v9 J1 Q w10)
  (f45_3 x0 x1 x2 (.bool false) J1 Q w5)

def f45_1 (x0 : Value) (x1 : Value) (x2 : Value) (x19 : Value) (J1 : Value → World → Prop) (Q : Value → World → Prop) (w : World) : Prop :=
  kB x19 fun b39 => kIf b39
  (Q (.bool true) w)
  (f45_2 x0 x1 x2 J1 Q w)

def f45_0 (x0 : Value) (x1 : Value) (x2 : Value) (J1 : Value → World → Prop) (Q : Value → World → Prop) (w : World) : Prop :=
  kB x2 fun b1 => kIf b1
  (keq Tryd.prog .eql 36 false false x0 x1 w fun v2 w3 =>
  f45_1 x0 x1 x2 v2 J1 Q w3)
  (f45_1 x0 x1 x2 (.bool false) J1 Q w)

def f45 (x0 : Value) (x1 : Value) (x2 : Value) (Q : Value → World → Prop) (w : World) : Prop :=
  kL fun (I : Value → World → Prop) (μ : Value → World → Nat) => I x0 w ∧ ∀ (x0 : Value) (w1 : World), I x0 w1 →
  f45_0 x0 x1 x2 (fun y0 w2 => I y0 w2 ∧ μ y0 w2 < μ x0 w1) Q w1

theorem f45_eq (x0 : Value) (x1 : Value) (x2 : Value) (Q : Value → World → Prop) (w : World) : f45 x0 x1 x2 Q w = fnVC Tryd.prog Tryd.f45 [(1, [0]), (17, [45])] (Tryd.f45.body.get rfl) [x0, x1, x2] w Q := by kernel_rfl
theorem f45_ok {x0 : Value} {x1 : Value} {x2 : Value} {Q : Value → World → Prop} {w : World} (h : f45 x0 x1 x2 Q w) : Meets Tryd.prog 45 #[x0, x1, x2] w Q :=
  sound (c := (Tryd.f45.body.get rfl)) [(1, [0]), (17, [45])] Tryd.func45 rfl rfl (args := [x0, x1, x2]) rfl (Eq.mp (f45_eq x0 x1 x2 Q w) h)

/-! pasodoble/blame.Has -/
def f93 (x0 : Value) (x1 : Value) (Q : Value → World → Prop) (w : World) : Prop :=
  kcall Tryd.prog 105 #[x1] w fun v1 w2 =>
  keq Tryd.prog .neq 36 false true v1 .nilIface w2 fun v3 w4 =>
  kB v3 fun b5 => kIf b5
  (kcall Tryd.prog 17 #[x0, v1] w4 fun v6 w7 =>
  Q v6 w7)
  (Q (.bool false) w4)

theorem f93_eq (x0 : Value) (x1 : Value) (Q : Value → World → Prop) (w : World) : f93 x0 x1 Q w = fnVC Tryd.prog Tryd.f93 [] (Tryd.f93.body.get rfl) [x0, x1] w Q := by kernel_rfl
theorem f93_ok {x0 : Value} {x1 : Value} {Q : Value → World → Prop} {w : World} (h : f93 x0 x1 Q w) : Meets Tryd.prog 93 #[x0, x1] w Q :=
  sound (c := (Tryd.f93.body.get rfl)) [] Tryd.func93 rfl rfl (args := [x0, x1]) rfl (Eq.mp (f93_eq x0 x1 Q w) h)

/-! pasodoble/blame.Number -/
def f68_3 (x0 : Value) (x6 : Value) (J4 : Value → World → Prop) (Q : Value → World → Prop) (w : World) : Prop :=
  kint .i64 .add x6 (.int .i64 1) fun v8 =>
  J4 v8 w

def f68_2 (x0 : Value) (x6 : Value) (J4 : Value → World → Prop) (Q : Value → World → Prop) (w : World) : Prop :=
  kint .i64 .add x6 (.int .i64 1) fun v4 =>
  kcall Tryd.prog 93 #[x0, v4] w fun v5 w6 =>
  kB v5 fun b9 => kIf b9
  (kint .i64 .add x6 (.int .i64 1) fun v7 =>
  Q v7 w6)
  (f68_3 x0 x6 J4 Q w6)

def f68_4 (Q : Value → World → Prop) (w : World) : Prop :=
  Q (.int .i64 (-1)) w

def f68_1 (x6 : Value) (x0 : Value) (J4 : Value → World → Prop) (Q : Value → World → Prop) (w : World) : Prop :=
  kint .i64 .lss x6 (.int .i64 18) fun v3 =>
  kB v3 fun b10 => kIf b10
  (f68_2 x0 x6 J4 Q w)
  (f68_4 Q w)

def f68_0 (x0 : Value) (Q : Value → World → Prop) (w : World) : Prop :=
  kL fun (I : Value → World → Prop) (μ : Value → World → Nat) => I (.int .i64 0) w ∧ ∀ (x6 : Value) (w1 : World), I x6 w1 →
  f68_1 x6 x0 (fun y6 w2 => I y6 w2 ∧ μ y6 w2 < μ x6 w1) Q w1

def f68 (x0 : Value) (Q : Value → World → Prop) (w : World) : Prop :=
  keq Tryd.prog .eql 36 false true x0 .nilIface w fun v1 w2 =>
  kB v1 fun b11 => kIf b11
  (Q (.int .i64 0) w2)
  (f68_0 x0 Q w2)

theorem f68_eq (x0 : Value) (Q : Value → World → Prop) (w : World) : f68 x0 Q w = fnVC Tryd.prog Tryd.f68 [(4, [6])] (Tryd.f68.body.get rfl) [x0] w Q := by kernel_rfl
theorem f68_ok {x0 : Value} {Q : Value → World → Prop} {w : World} (h : f68 x0 Q w) : Meets Tryd.prog 68 #[x0] w Q :=
  sound (c := (Tryd.f68.body.get rfl)) [(4, [6])] Tryd.func68 rfl rfl (args := [x0]) rfl (Eq.mp (f68_eq x0 Q w) h)

/-! pasodoble/blame.At -/
def f71_0 (x0 : Value) (x1 : Value) (Q : Value → World → Prop) (w : World) : Prop :=
  kbld [(.string ⟨#[]⟩), .nilIface] [(0, 1, x0), (1, 1, x1)] fun v3 =>
  knew (Value.cells v3) 123 w fun v4 w5 =>
  Q (.iface 120 v4) w5

def f71 (x0 : Value) (x1 : Value) (Q : Value → World → Prop) (w : World) : Prop :=
  keq Tryd.prog .eql 36 false true x1 .nilIface w fun v1 w2 =>
  kB v1 fun b6 => kIf b6
  (Q .nilIface w2)
  (f71_0 x0 x1 Q w2)

theorem f71_eq (x0 : Value) (x1 : Value) (Q : Value → World → Prop) (w : World) : f71 x0 x1 Q w = fnVC Tryd.prog Tryd.f71 [] (Tryd.f71.body.get rfl) [x0, x1] w Q := by kernel_rfl
theorem f71_ok {x0 : Value} {x1 : Value} {Q : Value → World → Prop} {w : World} (h : f71 x0 x1 Q w) : Meets Tryd.prog 71 #[x0, x1] w Q :=
  sound (c := (Tryd.f71.body.get rfl)) [] Tryd.func71 rfl rfl (args := [x0, x1]) rfl (Eq.mp (f71_eq x0 x1 Q w) h)

/-! pasodoble/blame.All -/
def f30_0 (x3 : Value) (Q : Value → World → Prop) (w : World) : Prop :=
  kbld [(.slice none 0 0)] [(0, 1, x3)] fun v9 =>
  knew (Value.cells v9) 132 w fun v10 w11 =>
  Q (.iface 124 v10) w11

def f30 (x0 : Value) (Q : Value → World → Prop) (w : World) : Prop :=
  kcall Tryd.prog 70 #[x0] w fun v1 w2 =>
  klen v1 fun v3 =>
  kint .i64 .eql v3 (.int .i64 0) fun v5 =>
  kB v5 fun b13 => kIf b13
  (Q .nilIface w2)
  (kint .i64 .eql v3 (.int .i64 1) fun v6 =>
  kB v6 fun b12 => kIf b12
  (kix (some (.slice 36)) (some 1) v1 (.int .i64 0) fun v7 =>
  kld v7 w2 fun v8 =>
  Q v8 w2)
  (f30_0 v1 Q w2))

theorem f30_eq (x0 : Value) (Q : Value → World → Prop) (w : World) : f30 x0 Q w = fnVC Tryd.prog Tryd.f30 [] (Tryd.f30.body.get rfl) [x0] w Q := by kernel_rfl
theorem f30_ok {x0 : Value} {Q : Value → World → Prop} {w : World} (h : f30 x0 Q w) : Meets Tryd.prog 30 #[x0] w Q :=
  sound (c := (Tryd.f30.body.get rfl)) [] Tryd.func30 rfl rfl (args := [x0]) rfl (Eq.mp (f30_eq x0 Q w) h)

/-! pasodoble/blame.flat -/
def f70_2 (x2 : Value) (x8 : Value) (x9 : Value) (x10 : Value) (J2 : Value → Value → World → Prop) (Q : Value → World → Prop) (w : World) : Prop :=
  kint .i64 .add x10 (.int .i64 1) fun v8 =>
  J2 x2 v8 w

def f70_1 (x2 : Value) (x8 : Value) (x9 : Value) (x10 : Value) (J2 : Value → Value → World → Prop) (Q : Value → World → Prop) (w : World) : Prop :=
  kix (some (.slice 36)) (some 1) x8 x10 fun v4 =>
  kld v4 w fun v5 =>
  keq Tryd.prog .eql 36 false true v5 .nilIface w fun v6 w7 =>
  kB v6 fun b23 => kIf b23
  (f70_2 x2 x8 x9 x10 J2 Q w7)
  (kta 124 (.pointer none) true v5 fun v9 =>
  kext v9 1 fun v10 =>
  kext v9 0 fun v11 =>
  kB v10 fun b22 => kIf b22
  (kcall Tryd.prog 66 #[v11] w7 fun v12 w13 =>
  kcall Tryd.prog 70 #[v12] w13 fun v14 w15 =>
  ksem Tryd.prog (Builtin.append_ #[125, 125] 0 #[x2, v14]) w15 fun v16 w17 =>
  f70_2 v16 x8 x9 x10 J2 Q w17)
  (kbldS [.nilIface] 1 [(0, 1, v5)] 36 w7 fun v18 w19 =>
  ksem Tryd.prog (Builtin.append_ #[125, 125] 0 #[x2, v18]) w19 fun v20 w21 =>
  f70_2 v20 x8 x9 x10 J2 Q w21))

def f70_3 (x2 : Value) (Q : Value → World → Prop) (w : World) : Prop :=
  Q x2 w

def f70_0 (x2 : Value) (x10 : Value) (x8 : Value) (x9 : Value) (J2 : Value → Value → World → Prop) (Q : Value → World → Prop) (w : World) : Prop :=
  kint .i64 .lss x10 x9 fun v3 =>
  kB v3 fun b24 => kIf b24
  (f70_1 x2 x8 x9 x10 J2 Q w)
  (f70_3 x2 Q w)

def f70 (x0 : Value) (Q : Value → World → Prop) (w : World) : Prop :=
  klen x0 fun v1 =>
  kL fun (I : Value → Value → World → Prop) (μ : Value → Value → World → Nat) => I (.slice none 0 0) (.int .i64 0) w ∧ ∀ (x2 x10 : Value) (w1 : World), I x2 x10 w1 →
  f70_0 x2 x10 x0 v1 (fun y2 y10 w2 => I y2 y10 w2 ∧ μ y2 y10 w2 < μ x2 x10 w1) Q w1

theorem f70_eq (x0 : Value) (Q : Value → World → Prop) (w : World) : f70 x0 Q w = fnVC Tryd.prog Tryd.f70 [(2, [2, 10])] (Tryd.f70.body.get rfl) [x0] w Q := by kernel_rfl
theorem f70_ok {x0 : Value} {Q : Value → World → Prop} {w : World} (h : f70 x0 Q w) : Meets Tryd.prog 70 #[x0] w Q :=
  sound (c := (Tryd.f70.body.get rfl)) [(2, [2, 10])] Tryd.func70 rfl rfl (args := [x0]) rfl (Eq.mp (f70_eq x0 Q w) h)

/-! pasodoble/blame.Leaves -/
def f9 (x0 : Value) (Q : Value → World → Prop) (w : World) : Prop :=
  kcall Tryd.prog 28 #[(.slice none 0 0), x0] w fun v1 w2 =>
  Q v1 w2

theorem f9_eq (x0 : Value) (Q : Value → World → Prop) (w : World) : f9 x0 Q w = fnVC Tryd.prog Tryd.f9 [] (Tryd.f9.body.get rfl) [x0] w Q := by kernel_rfl
theorem f9_ok {x0 : Value} {Q : Value → World → Prop} {w : World} (h : f9 x0 Q w) : Meets Tryd.prog 9 #[x0] w Q :=
  sound (c := (Tryd.f9.body.get rfl)) [] Tryd.func9 rfl rfl (args := [x0]) rfl (Eq.mp (f9_eq x0 Q w) h)

/-! (*pasodoble/blame.Blame).Unwrap -/
def f65_0 (x0 : Value) (Q : Value → World → Prop) (w : World) : Prop :=
  kN x0 <|
  kfld 1 x0 fun v3 =>
  kld v3 w fun v4 =>
  Q v4 w

def f65 (x0 : Value) (Q : Value → World → Prop) (w : World) : Prop :=
  keq Tryd.prog .eql 120 false true x0 (.pointer none) w fun v1 w2 =>
  kB v1 fun b5 => kIf b5
  (Q .nilIface w2)
  (f65_0 x0 Q w2)

theorem f65_eq (x0 : Value) (Q : Value → World → Prop) (w : World) : f65 x0 Q w = fnVC Tryd.prog Tryd.f65 [] (Tryd.f65.body.get rfl) [x0] w Q := by kernel_rfl
theorem f65_ok {x0 : Value} {Q : Value → World → Prop} {w : World} (h : f65 x0 Q w) : Meets Tryd.prog 65 #[x0] w Q :=
  sound (c := (Tryd.f65.body.get rfl)) [] Tryd.func65 rfl rfl (args := [x0]) rfl (Eq.mp (f65_eq x0 Q w) h)

/-! (*pasodoble/blame.Several).Unwrap -/
def f66_0 (x0 : Value) (Q : Value → World → Prop) (w : World) : Prop :=
  kN x0 <|
  kfld 0 x0 fun v3 =>
  kld v3 w fun v4 =>
  kcall Tryd.prog 89 #[v4] w fun v5 w6 =>
  Q v5 w6

def f66 (x0 : Value) (Q : Value → World → Prop) (w : World) : Prop :=
  keq Tryd.prog .eql 124 false true x0 (.pointer none) w fun v1 w2 =>
  kB v1 fun b7 => kIf b7
  (Q (.slice none 0 0) w2)
  (f66_0 x0 Q w2)

theorem f66_eq (x0 : Value) (Q : Value → World → Prop) (w : World) : f66 x0 Q w = fnVC Tryd.prog Tryd.f66 [] (Tryd.f66.body.get rfl) [x0] w Q := by kernel_rfl
theorem f66_ok {x0 : Value} {Q : Value → World → Prop} {w : World} (h : f66 x0 Q w) : Meets Tryd.prog 66 #[x0] w Q :=
  sound (c := (Tryd.f66.body.get rfl)) [] Tryd.func66 rfl rfl (args := [x0]) rfl (Eq.mp (f66_eq x0 Q w) h)

/-! slices.Clone[[]string,string] -/
def f64_0 (x0 : Value) (Q : Value → World → Prop) (w : World) : Prop :=
  kbldS [(.string ⟨#[]⟩)] 0 [] 9 w fun v3 w4 =>
  ksem Tryd.prog (Builtin.append_ #[119, 119] 0 #[v3, x0]) w4 fun v5 w6 =>
  Q v5 w6

def f64 (x0 : Value) (Q : Value → World → Prop) (w : World) : Prop :=
  keq Tryd.prog .eql 119 false true x0 (.slice none 0 0) w fun v1 w2 =>
  kB v1 fun b7 => kIf b7
  (Q (.slice none 0 0) w2)
  (f64_0 x0 Q w2)

theorem f64_eq (x0 : Value) (Q : Value → World → Prop) (w : World) : f64 x0 Q w = fnVC Tryd.prog Tryd.f64 [] (Tryd.f64.body.get rfl) [x0] w Q := by kernel_rfl
theorem f64_ok {x0 : Value} {Q : Value → World → Prop} {w : World} (h : f64 x0 Q w) : Meets Tryd.prog 64 #[x0] w Q :=
  sound (c := (Tryd.f64.body.get rfl)) [] Tryd.func64 rfl rfl (args := [x0]) rfl (Eq.mp (f64_eq x0 Q w) h)

/-! slices.Clone[[]error,error] -/
def f89_0 (x0 : Value) (Q : Value → World → Prop) (w : World) : Prop :=
  kbldS [.nilIface] 0 [] 36 w fun v3 w4 =>
  ksem Tryd.prog (Builtin.append_ #[125, 125] 0 #[v3, x0]) w4 fun v5 w6 =>
  Q v5 w6

def f89 (x0 : Value) (Q : Value → World → Prop) (w : World) : Prop :=
  keq Tryd.prog .eql 125 false true x0 (.slice none 0 0) w fun v1 w2 =>
  kB v1 fun b7 => kIf b7
  (Q (.slice none 0 0) w2)
  (f89_0 x0 Q w2)

theorem f89_eq (x0 : Value) (Q : Value → World → Prop) (w : World) : f89 x0 Q w = fnVC Tryd.prog Tryd.f89 [] (Tryd.f89.body.get rfl) [x0] w Q := by kernel_rfl
theorem f89_ok {x0 : Value} {Q : Value → World → Prop} {w : World} (h : f89 x0 Q w) : Meets Tryd.prog 89 #[x0] w Q :=
  sound (c := (Tryd.f89.body.get rfl)) [] Tryd.func89 rfl rfl (args := [x0]) rfl (Eq.mp (f89_eq x0 Q w) h)

/-! strings.Join -/
def f67_6 (x0 : Value) (x1 : Value) (x5 : Value) (x39 : Value) (x40 : Value) (x41 : Value) (J12 : Value → Value → World → Prop) (Q : Value → World → Prop) (w : World) : Prop :=
  kint .i64 .add x41 (.int .i64 1) fun v36 =>
  J12 x5 v36 w

def f67_5 (x0 : Value) (x1 : Value) (x5 : Value) (x7 : Value) (x39 : Value) (x40 : Value) (x41 : Value) (J12 : Value → Value → World → Prop) (Q : Value → World → Prop) (w : World) : Prop :=
  klenStr x7 fun v33 =>
  kint .i64 .add x5 v33 fun v35 =>
  f67_6 x0 x1 v35 x39 x40 x41 J12 Q w

def f67_4 (x0 : Value) (x1 : Value) (x5 : Value) (x39 : Value) (x40 : Value) (x41 : Value) (J12 : Value → Value → World → Prop) (Q : Value → World → Prop) (w : World) : Prop :=
  kix (some (.slice 9)) (some 1) x39 x41 fun v27 =>
  kld v27 w fun v28 =>
  klenStr v28 fun v29 =>
  kint .i64 .sub (.int .i64 9223372036854775807) x5 fun v31 =>
  kint .i64 .gtr v29 v31 fun v32 =>
  kB v32 fun b37 => kIf b37
  (False)
  (f67_5 x0 x1 x5 v28 x39 x40 x41 J12 Q w)

def f67_10 (x1 : Value) (x8 : Value) (x63 : Value) (x64 : Value) (x65 : Value) (J22 : Value → World → Prop) (Q : Value → World → Prop) (w : World) : Prop :=
  kint .i64 .add x65 (.int .i64 1) fun v56 =>
  J22 v56 w

def f67_9 (x1 : Value) (x8 : Value) (x63 : Value) (x64 : Value) (x65 : Value) (J22 : Value → World → Prop) (Q : Value → World → Prop) (w : World) : Prop :=
  kix (some (.slice 9)) (some 1) x63 x65 fun v50 =>
  kld v50 w fun v51 =>
  kcall Tryd.prog 91 #[x8, x1] w fun v52 w53 =>
  kcall Tryd.prog 91 #[x8, v51] w53 fun v54 w55 =>
  f67_10 x1 x8 x63 x64 x65 J22 Q w55

def f67_11 (x8 : Value) (Q : Value → World → Prop) (w : World) : Prop :=
  kcall Tryd.prog 92 #[x8] w fun v57 w58 =>
  Q v57 w58

def f67_8 (x65 : Value) (x1 : Value) (x8 : Value) (x63 : Value) (x64 : Value) (J22 : Value → World → Prop) (Q : Value → World → Prop) (w : World) : Prop :=
  kint .i64 .lss x65 x64 fun v49 =>
  kB v49 fun b59 => kIf b59
  (f67_9 x1 x8 x63 x64 x65 J22 Q w)
  (f67_11 x8 Q w)

def f67_7 (x0 : Value) (x1 : Value) (x5 : Value) (Q : Value → World → Prop) (w : World) : Prop :=
  knew #[(.pointer none), (.slice none 0 0)] 163 w fun v38 w39 =>
  kcall Tryd.prog 90 #[v38, x5] w39 fun v40 w41 =>
  kix (some (.slice 9)) (some 1) x0 (.int .i64 0) fun v42 =>
  kld v42 w41 fun v43 =>
  kcall Tryd.prog 91 #[v38, v43] w41 fun v44 w45 =>
  ksl (some (.slice 9)) (some 1) x0 (some (.int .i64 1)) none fun v46 =>
  klen v46 fun v47 =>
  kL fun (I : Value → World → Prop) (μ : Value → World → Nat) => I (.int .i64 0) w45 ∧ ∀ (x65 : Value) (w1 : World), I x65 w1 →
  f67_8 x65 x1 v38 v46 v47 (fun y65 w2 => I y65 w2 ∧ μ y65 w2 < μ x65 w1) Q w1

def f67_3 (x5 : Value) (x41 : Value) (x0 : Value) (x1 : Value) (x39 : Value) (x40 : Value) (J12 : Value → Value → World → Prop) (Q : Value → World → Prop) (w : World) : Prop :=
  kint .i64 .lss x41 x40 fun v26 =>
  kB v26 fun b60 => kIf b60
  (f67_4 x0 x1 x5 x39 x40 x41 J12 Q w)
  (f67_7 x0 x1 x5 Q w)

def f67_2 (x0 : Value) (x1 : Value) (x5 : Value) (Q : Value → World → Prop) (w : World) : Prop :=
  klen x0 fun v24 =>
  kL fun (I : Value → Value → World → Prop) (μ : Value → Value → World → Nat) => I x5 (.int .i64 0) w ∧ ∀ (x5 x41 : Value) (w1 : World), I x5 x41 w1 →
  f67_3 x5 x41 x0 x1 x0 v24 (fun y5 y41 w2 => I y5 y41 w2 ∧ μ y5 y41 w2 < μ x5 x41 w1) Q w1

def f67_1 (x0 : Value) (x1 : Value) (x5 : Value) (Q : Value → World → Prop) (w : World) : Prop :=
  klenStr x1 fun v17 =>
  klen x0 fun v19 =>
  kint .i64 .sub v19 (.int .i64 1) fun v21 =>
  kint .i64 .mul v17 v21 fun v22 =>
  kint .i64 .add x5 v22 fun v23 =>
  f67_2 x0 x1 v23 Q w

def f67_0 (x0 : Value) (x1 : Value) (Q : Value → World → Prop) (w : World) : Prop :=
  klenStr x1 fun v7 =>
  kint .i64 .gtr v7 (.int .i64 0) fun v9 =>
  kB v9 fun b62 => kIf b62
  (klenStr x1 fun v10 =>
  klen x0 fun v12 =>
  kint .i64 .sub v12 (.int .i64 1) fun v14 =>
  kint .i64 .quo (.int .i64 9223372036854775807) v14 fun v15 =>
  kint .i64 .geq v10 v15 fun v16 =>
  kB v16 fun b61 => kIf b61
  (False)
  (f67_1 x0 x1 (.int .i64 0) Q w))
  (f67_2 x0 x1 (.int .i64 0) Q w)

def f67 (x0 : Value) (x1 : Value) (Q : Value → World → Prop) (w : World) : Prop :=
  klen x0 fun v1 =>
  kint .i64 .eql v1 (.int .i64 0) fun v3 =>
  kB v3 fun b64 => kIf b64
  (Q (.string ⟨#[]⟩) w)
  (kint .i64 .eql v1 (.int .i64 1) fun v4 =>
  kB v4 fun b63 => kIf b63
  (kix (some (.slice 9)) (some 1) x0 (.int .i64 0) fun v5 =>
  kld v5 w fun v6 =>
  Q v6 w)
  (f67_0 x0 x1 Q w))

theorem f67_eq (x0 : Value) (x1 : Value) (Q : Value → World → Prop) (w : World) : f67 x0 x1 Q w = fnVC Tryd.prog Tryd.f67 [(12, [5, 41]), (22, [65])] (Tryd.f67.body.get rfl) [x0, x1] w Q := by kernel_rfl
theorem f67_ok {x0 : Value} {x1 : Value} {Q : Value → World → Prop} {w : World} (h : f67 x0 x1 Q w) : Meets Tryd.prog 67 #[x0, x1] w Q :=
  sound (c := (Tryd.f67.body.get rfl)) [(12, [5, 41]), (22, [65])] Tryd.func67 rfl rfl (args := [x0, x1]) rfl (Eq.mp (f67_eq x0 x1 Q w) h)

/-! (*strings.Builder).Grow -/
def f90_0 (x0 : Value) (x1 : Value) (Q : Value → World → Prop) (w : World) : Prop :=
  kN x0 <|
  kfld 1 x0 fun v4 =>
  kld v4 w.drew fun v5 =>
  kG (w.drew = w.drew) <|
  kcap v5 fun v6 =>
  kN x0 <|
  kfld 1 x0 fun v8 =>
  kld v8 w.drew fun v9 =>
  kG (w.drew = w.drew) <|
  klen v9 fun v10 =>
  kint .i64 .sub v6 v10 fun v12 =>
  kint .i64 .lss v12 x1 fun v13 =>
  kB v13 fun b16 => kIf b16
  (kcall Tryd.prog 104 #[x0, x1] w.drew fun v14 w15 =>
  Q (.tuple #[]) w15)
  (Q (.tuple #[]) w.drew)

def f90 (x0 : Value) (x1 : Value) (Q : Value → World → Prop) (w : World) : Prop :=
  kcall Tryd.prog 103 #[x0] w fun v1 w2 =>
  kint .i64 .lss x1 (.int .i64 0) fun v3 =>
  kB v3 fun b17 => kIf b17
  (False)
  (f90_0 x0 x1 Q w2)

theorem f90_eq (x0 : Value) (x1 : Value) (Q : Value → World → Prop) (w : World) : f90 x0 x1 Q w = fnVC Tryd.prog Tryd.f90 [] (Tryd.f90.body.get rfl) [x0, x1] w Q := by kernel_rfl
theorem f90_ok {x0 : Value} {x1 : Value} {Q : Value → World → Prop} {w : World} (h : f90 x0 x1 Q w) : Meets Tryd.prog 90 #[x0, x1] w Q :=
  sound (c := (Tryd.f90.body.get rfl)) [] Tryd.func90 rfl rfl (args := [x0, x1]) rfl (Eq.mp (f90_eq x0 x1 Q w) h)

/-! (*strings.Builder).WriteString -/
def f91 (x0 : Value) (x1 : Value) (Q : Value → World → Prop) (w : World) : Prop :=
  kcall Tryd.prog 103 #[x0] w fun v1 w2 =>
  kN x0 <|
  kfld 1 x0 fun v3 =>
  kld v3 w2 fun v4 =>
  ksem Tryd.prog (Builtin.append_ #[104, 9] 0 #[v4, x1]) w2 fun v5 w6 =>
  kN x0 <|
  kfld 1 x0 fun v7 =>
  kst 1 v7 v5 w6 fun w8 =>
  klenStr x1 fun v9 =>
  Q (.tuple #[v9, .nilIface]) w8

theorem f91_eq (x0 : Value) (x1 : Value) (Q : Value → World → Prop) (w : World) : f91 x0 x1 Q w = fnVC Tryd.prog Tryd.f91 [] (Tryd.f91.body.get rfl) [x0, x1] w Q := by kernel_rfl
theorem f91_ok {x0 : Value} {x1 : Value} {Q : Value → World → Prop} {w : World} (h : f91 x0 x1 Q w) : Meets Tryd.prog 91 #[x0, x1] w Q :=
  sound (c := (Tryd.f91.body.get rfl)) [] Tryd.func91 rfl rfl (args := [x0, x1]) rfl (Eq.mp (f91_eq x0 x1 Q w) h)

/-! (*strings.Builder).String -/
def f92 (x0 : Value) (Q : Value → World → Prop) (w : World) : Prop :=
  kN x0 <|
  kfld 1 x0 fun v1 =>
  kld v1 w.drew fun v2 =>
  kG (w.drew = w.drew) <|
  ksem Tryd.prog (Builtin.unsafeSliceData_ #[104] 175 #[v2]) w.drew fun v3 w4 =>
  kN x0 <|
  kfld 1 x0 fun v5 =>
  kld v5 w4 fun v6 =>
  kG (w4 = w4) <|
  kG (kld v5 w.drew fun v11 =>
  v11 = v6 ∧ w.drew = w.drew) <|
  klen v6 fun v7 =>
  ksem Tryd.prog (Builtin.unsafeString_ #[175, 3] 9 #[v3, v7]) w4 fun v9 w10 =>
  Q v9 w10

theorem f92_eq (x0 : Value) (Q : Value → World → Prop) (w : World) : f92 x0 Q w = fnVC Tryd.prog Tryd.f92 [] (Tryd.f92.body.get rfl) [x0] w Q := by kernel_rfl
theorem f92_ok {x0 : Value} {Q : Value → World → Prop} {w : World} (h : f92 x0 Q w) : Meets Tryd.prog 92 #[x0] w Q :=
  sound (c := (Tryd.f92.body.get rfl)) [] Tryd.func92 rfl rfl (args := [x0]) rfl (Eq.mp (f92_eq x0 Q w) h)

/-! (*strings.Builder).copyCheck -/
def f103 (x0 : Value) (Q : Value → World → Prop) (w : World) : Prop :=
  kN x0 <|
  kfld 0 x0 fun v1 =>
  kld v1 w fun v2 =>
  keq Tryd.prog .eql 161 false true v2 (.pointer none) w fun v3 w4 =>
  kB v3 fun b18 => kIf b18
  (ksem Tryd.prog (convert 161 179 x0) w4 fun v5 w6 =>
  kextf Tryd.prog 107 [v5] w6 fun v7 w8 =>
  ksem Tryd.prog (convert 179 161 v7) w8 fun v9 w10 =>
  kN x0 <|
  kfld 0 x0 fun v11 =>
  kst 1 v11 v9 w10 fun w12 =>
  Q (.tuple #[]) w12)
  (kN x0 <|
  kfld 0 x0 fun v13 =>
  kld v13 w4 fun v14 =>
  keq Tryd.prog .neq 161 false false v14 x0 w4 fun v15 w16 =>
  kB v15 fun b17 => kIf b17
  (False)
  (Q (.tuple #[]) w16))

theorem f103_eq (x0 : Value) (Q : Value → World → Prop) (w : World) : f103 x0 Q w = fnVC Tryd.prog Tryd.f103 [] (Tryd.f103.body.get rfl) [x0] w Q := by kernel_rfl
theorem f103_ok {x0 : Value} {Q : Value → World → Prop} {w : World} (h : f103 x0 Q w) : Meets Tryd.prog 103 #[x0] w Q :=
  sound (c := (Tryd.f103.body.get rfl)) [] Tryd.func103 rfl rfl (args := [x0]) rfl (Eq.mp (f103_eq x0 Q w) h)

/-! (*strings.Builder).grow -/
def f104 (x0 : Value) (x1 : Value) (Q : Value → World → Prop) (w : World) : Prop :=
  kN x0 <|
  kfld 1 x0 fun v1 =>
  kld v1 w.drew fun v2 =>
  kG (w.drew = w.drew) <|
  kcap v2 fun v3 =>
  kint .i64 .mul (.int .i64 2) v3 fun v5 =>
  kint .i64 .add v5 x1 fun v6 =>
  kextf Tryd.prog 108 [v6] w.drew fun v7 w8 =>
  kN x0 <|
  kfld 1 x0 fun v9 =>
  kld v9 w8 fun v10 =>
  kG (w8 = w8) <|
  kG (kld v9 w.drew fun v20 =>
  v20 = v10 ∧ w.drew = w.drew) <|
  klen v10 fun v11 =>
  ksl (some (.slice 5)) (some 1) v7 none (some v11) fun v13 =>
  kN x0 <|
  kfld 1 x0 fun v14 =>
  kld v14 w8 fun v15 =>
  ksem Tryd.prog (Builtin.copy_ #[104, 104] 0 #[v13, v15]) w8 fun v16 w17 =>
  kN x0 <|
  kfld 1 x0 fun v18 =>
  kst 1 v18 v13 w17 fun w19 =>
  Q (.tuple #[]) w19

theorem f104_eq (x0 : Value) (x1 : Value) (Q : Value → World → Prop) (w : World) : f104 x0 x1 Q w = fnVC Tryd.prog Tryd.f104 [] (Tryd.f104.body.get rfl) [x0, x1] w Q := by kernel_rfl
theorem f104_ok {x0 : Value} {x1 : Value} {Q : Value → World → Prop} {w : World} (h : f104 x0 x1 Q w) : Meets Tryd.prog 104 #[x0, x1] w Q :=
  sound (c := (Tryd.f104.body.get rfl)) [] Tryd.func104 rfl rfl (args := [x0, x1]) rfl (Eq.mp (f104_eq x0 x1 Q w) h)

/-! pasodoble/blame.Of -/
def f105_0 (Q : Value → World → Prop) (w : World) : Prop :=
  Q .nilIface w

def f105 (x0 : Value) (Q : Value → World → Prop) (w : World) : Prop :=
  kint .i64 .eql x0 (.int .i64 1) fun v1 =>
  kB v1 fun b54 => kIf b54
  (kld (.pointer (some ⟨1, 0, none⟩)) w fun v2 =>
  Q v2 w)
  (kint .i64 .eql x0 (.int .i64 2) fun v3 =>
  kB v3 fun b53 => kIf b53
  (kld (.pointer (some ⟨4, 0, none⟩)) w fun v4 =>
  Q v4 w)
  (kint .i64 .eql x0 (.int .i64 3) fun v5 =>
  kB v5 fun b52 => kIf b52
  (kld (.pointer (some ⟨0, 0, none⟩)) w fun v6 =>
  Q v6 w)
  (kint .i64 .eql x0 (.int .i64 4) fun v7 =>
  kB v7 fun b51 => kIf b51
  (kld (.pointer (some ⟨5, 0, none⟩)) w fun v8 =>
  Q v8 w)
  (kint .i64 .eql x0 (.int .i64 5) fun v9 =>
  kB v9 fun b50 => kIf b50
  (kld (.pointer (some ⟨7, 0, none⟩)) w fun v10 =>
  Q v10 w)
  (kint .i64 .eql x0 (.int .i64 6) fun v11 =>
  kB v11 fun b49 => kIf b49
  (kld (.pointer (some ⟨8, 0, none⟩)) w fun v12 =>
  Q v12 w)
  (kint .i64 .eql x0 (.int .i64 7) fun v13 =>
  kB v13 fun b48 => kIf b48
  (kld (.pointer (some ⟨3, 0, none⟩)) w fun v14 =>
  Q v14 w)
  (kint .i64 .eql x0 (.int .i64 8) fun v15 =>
  kB v15 fun b47 => kIf b47
  (kld (.pointer (some ⟨9, 0, none⟩)) w fun v16 =>
  Q v16 w)
  (kint .i64 .eql x0 (.int .i64 9) fun v17 =>
  kB v17 fun b46 => kIf b46
  (kld (.pointer (some ⟨2, 0, none⟩)) w fun v18 =>
  Q v18 w)
  (kint .i64 .eql x0 (.int .i64 10) fun v19 =>
  kB v19 fun b45 => kIf b45
  (kld (.pointer (some ⟨10, 0, none⟩)) w fun v20 =>
  Q v20 w)
  (kint .i64 .eql x0 (.int .i64 11) fun v21 =>
  kB v21 fun b44 => kIf b44
  (kld (.pointer (some ⟨11, 0, none⟩)) w fun v22 =>
  Q v22 w)
  (kint .i64 .eql x0 (.int .i64 12) fun v23 =>
  kB v23 fun b43 => kIf b43
  (kld (.pointer (some ⟨12, 0, none⟩)) w fun v24 =>
  Q v24 w)
  (kint .i64 .eql x0 (.int .i64 13) fun v25 =>
  kB v25 fun b42 => kIf b42
  (kld (.pointer (some ⟨13, 0, none⟩)) w fun v26 =>
  Q v26 w)
  (kint .i64 .eql x0 (.int .i64 14) fun v27 =>
  kB v27 fun b41 => kIf b41
  (kld (.pointer (some ⟨14, 0, none⟩)) w fun v28 =>
  Q v28 w)
  (kint .i64 .eql x0 (.int .i64 15) fun v29 =>
  kB v29 fun b40 => kIf b40
  (kld (.pointer (some ⟨15, 0, none⟩)) w fun v30 =>
  Q v30 w)
  (kint .i64 .eql x0 (.int .i64 16) fun v31 =>
  kB v31 fun b39 => kIf b39
  (kld (.pointer (some ⟨16, 0, none⟩)) w fun v32 =>
  Q v32 w)
  (kint .i64 .eql x0 (.int .i64 17) fun v33 =>
  kB v33 fun b38 => kIf b38
  (kld (.pointer (some ⟨17, 0, none⟩)) w fun v34 =>
  Q v34 w)
  (kint .i64 .eql x0 (.int .i64 18) fun v35 =>
  kB v35 fun b37 => kIf b37
  (kld (.pointer (some ⟨18, 0, none⟩)) w fun v36 =>
  Q v36 w)
  (f105_0 Q w))))))))))))))))))

theorem f105_eq (x0 : Value) (Q : Value → World → Prop) (w : World) : f105 x0 Q w = fnVC Tryd.prog Tryd.f105 [] (Tryd.f105.body.get rfl) [x0] w Q := by kernel_rfl
theorem f105_ok {x0 : Value} {Q : Value → World → Prop} {w : World} (h : f105 x0 Q w) : Meets Tryd.prog 105 #[x0] w Q :=
  sound (c := (Tryd.f105.body.get rfl)) [] Tryd.func105 rfl rfl (args := [x0]) rfl (Eq.mp (f105_eq x0 Q w) h)

/-! pasodoble/blame.walk -/
def f28_2 (x0 : Value) (x4 : Value) (x30 : Value) (x31 : Value) (x32 : Value) (J11 : Value → Value → World → Prop) (Q : Value → World → Prop) (w : World) : Prop :=
  kint .i64 .add x32 (.int .i64 1) fun v46 =>
  J11 x4 v46 w

def f28_1 (x0 : Value) (x4 : Value) (x30 : Value) (x31 : Value) (x32 : Value) (J11 : Value → Value → World → Prop) (Q : Value → World → Prop) (w : World) : Prop :=
  kix (some (.slice 36)) (some 1) x30 x32 fun v40 =>
  kld v40 w fun v41 =>
  kcall Tryd.prog 28 #[x0, v41] w fun v42 w43 =>
  ksem Tryd.prog (Builtin.append_ #[33, 33] 0 #[x4, v42]) w43 fun v44 w45 =>
  f28_2 x0 v44 x30 x31 x32 J11 Q w45

def f28_3 (x4 : Value) (Q : Value → World → Prop) (w : World) : Prop :=
  Q x4 w

def f28_0 (x4 : Value) (x32 : Value) (x0 : Value) (x30 : Value) (x31 : Value) (J11 : Value → Value → World → Prop) (Q : Value → World → Prop) (w : World) : Prop :=
  kint .i64 .lss x32 x31 fun v39 =>
  kB v39 fun b47 => kIf b47
  (f28_1 x0 x4 x30 x31 x32 J11 Q w)
  (f28_3 x4 Q w)

def f28_4 (x0 : Value) (x1 : Value) (Q : Value → World → Prop) (w : World) : Prop :=
  kcall Tryd.prog 67 #[x0, (.string ⟨#[47]⟩)] w fun v48 w49 =>
  kcall Tryd.prog 68 #[x1] w49 fun v50 w51 =>
  kbld [(.string ⟨#[]⟩), (.int .i64 0)] [(0, 1, v48), (1, 1, v50)] fun v52 =>
  kbldS [(.string ⟨#[]⟩), (.int .i64 0)] 1 [(0, 2, v52)] 41 w51 fun v53 w54 =>
  Q v53 w54

def f28 (x0 : Value) (x1 : Value) (Q : Value → World → Prop) (w : World) : Prop :=
  keq Tryd.prog .eql 36 false true x1 .nilIface w fun v1 w2 =>
  kB v1 fun b57 => kIf b57
  (Q (.slice none 0 0) w2)
  (kta 120 (.pointer none) true x1 fun v3 =>
  kext v3 1 fun v4 =>
  kext v3 0 fun v5 =>
  kB v4 fun b56 => kIf b56
  ((kcall Tryd.prog 64 #[x0] w2.drew fun v6 w7 =>
  kN v5 <|
  kfld 0 v5 fun v8 =>
  kld v8 w7 fun v9 =>
  kG (w7 = w7) <|
  kG (kld v8 w2.drew fun v18 =>
  v18 = v9 ∧ w2.drew = w2.drew) <|
  kbldS [(.string ⟨#[]⟩)] 1 [(0, 1, v9)] 9 w7 fun v10 w11 =>
  ksem Tryd.prog (Builtin.append_ #[119, 119] 0 #[v6, v10]) w11 fun v12 w13 =>
  kcall Tryd.prog 65 #[v5] w13 fun v14 w15 =>
  kcall Tryd.prog 28 #[v12, v14] w15 fun v16 w17 =>
  Q v16 w17) ∧
  (kN v5 <|
  kfld 0 v5 fun v19 =>
  kld v19 w2.drew fun v20 =>
  kG (w2.drew = w2.drew) <|
  kbldS [(.string ⟨#[]⟩)] 1 [(0, 1, v20)] 9 w2.drew fun v21 w22 =>
  kcall Tryd.prog 64 #[x0] w22 fun v23 w24 =>
  kG (kld v19 w24 fun v31 =>
  v31 = v20 ∧ w24 = w24) <|
  ksem Tryd.prog (Builtin.append_ #[119, 119] 0 #[v23, v21]) w24 fun v25 w26 =>
  kcall Tryd.prog 65 #[v5] w26 fun v27 w28 =>
  kcall Tryd.prog 28 #[v25, v27] w28 fun v29 w30 =>
  Q v29 w30))
  (kta 124 (.pointer none) true x1 fun v32 =>
  kext v32 1 fun v33 =>
  kext v32 0 fun v34 =>
  kB v33 fun b55 => kIf b55
  (kcall Tryd.prog 66 #[v34] w2 fun v35 w36 =>
  klen v35 fun v37 =>
  kL fun (I : Value → Value → World → Prop) (μ : Value → Value → World → Nat) => I (.slice none 0 0) (.int .i64 0) w36 ∧ ∀ (x4 x32 : Value) (w1 : World), I x4 x32 w1 →
  f28_0 x4 x32 x0 v35 v37 (fun y4 y32 w2 => I y4 y32 w2 ∧ μ y4 y32 w2 < μ x4 x32 w1) Q w1)
  (f28_4 x0 x1 Q w2)))

theorem f28_eq (x0 : Value) (x1 : Value) (Q : Value → World → Prop) (w : World) : f28 x0 x1 Q w = fnVC Tryd.prog Tryd.f28 [(11, [4, 32])] (Tryd.f28.body.get rfl) [x0, x1] w Q := by kernel_rfl
theorem f28_ok {x0 : Value} {x1 : Value} {Q : Value → World → Prop} {w : World} (h : f28 x0 x1 Q w) : Meets Tryd.prog 28 #[x0, x1] w Q :=
  sound (c := (Tryd.f28.body.get rfl)) [(11, [4, 32])] Tryd.func28 rfl rfl (args := [x0, x1]) rfl (Eq.mp (f28_eq x0 x1 Q w) h)

end Go.Proofs.YtcabkicjboedaaaDoor
