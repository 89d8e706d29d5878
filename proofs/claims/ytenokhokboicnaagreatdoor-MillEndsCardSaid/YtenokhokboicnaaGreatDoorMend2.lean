/-
Lemmas for the statements of this seat: no statement of the seat is proved in this part (2 of 7); the conditions stand in each theorem.
-/
import Derived.Test.YtenokhokboicnaaGreatDoorMend1
import Derived.Test.YtenokhokboicnaaGreatDoorProg
import Derived.ChangeArms
import Derived.OpenShut
import Derived.Stop.LaidErr
import Derived.MakeChecks
import Derived.Test.YtenokhokboicnaaGreatDoorRows
import Derived.ProofKit
import Derived.Stop.Joined
import Derived.LaidMore
import Derived.LaidHandle
import Derived.LaidSub
import Derived.Laws.IdiomCopy
import Derived.Maps.RangeRun
set_option linter.unusedSimpArgs false
set_option linter.unusedVariables false
set_option maxRecDepth 100000
namespace Go.Proofs.YtenokhokboicnaaGreatDoor
open Go Go.Ev
section
def f17_1 (x0 x1 : Value) (Q : PQ) (w : World) : Prop :=
 kextf Tryz.prog 49 [x1] w fun v8 w9 =>
 kcallM Tryz.prog v8 "Comparable" [] w9 fun v10 w11 =>
 kcall Tryz.prog 50 #[x0, x1, v10] w11 fun v12 w13 =>
 Q v12 w13
def f17_0 (x0 x1 x11 : Value) (Q : PQ) (w : World) : Prop :=
 kB x11 fun b14 => kIf b14
 (keq Tryz.prog .eql 33 false false x0 x1 w fun v6 w7 =>
 Q v6 w7)
 (f17_1 x0 x1 Q w)
def f17 (x0 x1 : Value) (Q : PQ) (w : World) : Prop :=
 keq Tryz.prog .eql 33 false true x0 .nilIface w fun v1 w2 =>
 kB v1 fun b3 => kIf (!b3)
 (keq Tryz.prog .eql 33 false true x1 .nilIface w2 fun v4 w5 =>
 f17_0 x0 x1 v4 Q w5)
 (f17_0 x0 x1 (.bool true) Q w2)
theorem f17_ok {x0 x1 : Value} {Q : PQ} {w : World} (h : f17 x0 x1 Q w) : Meets Tryz.prog 17 #[x0, x1] w Q :=
 sound' (c := Tryz.f17.body.get rfl) [] Tryz.func17 rfl rfl (args := [x0, x1]) rfl (by kernel_rfl) h
def f50_7 (x1 x2 x43 x44 x45 : Value) (J17 : Value → World → Prop) (J1 : Value → World → Prop) (Q : PQ) (w : World) : Prop :=
 kint .i64 .add x45 (.int .i64 1) fun v33 =>
 J17 v33 w
def f50_6 (x1 x2 x43 x44 x45 : Value) (J17 : Value → World → Prop) (J1 : Value → World → Prop) (Q : PQ) (w : World) : Prop :=
 kix (some (.slice 33)) (some 1) x43 x45 fun v29 =>
 kld v29 w fun v30 =>
 kcall Tryz.prog 50 #[v30, x1, x2] w fun v31 w32 =>
 kB v31 fun b34 => kIf b34
 (Q (.bool true) w32)
 (f50_7 x1 x2 x43 x44 x45 J17 J1 Q w32)
def f50_8 (J1 : Value → World → Prop) (Q : PQ) (w : World) : Prop :=
 Q (.bool false) w
def f50_5 (x45 x1 x2 x43 x44 : Value) (J17 : Value → World → Prop) (J1 : Value → World → Prop) (Q : PQ) (w : World) : Prop :=
 kint .i64 .lss x45 x44 fun v28 =>
 kB v28 fun b35 => kIf b35
 (f50_6 x1 x2 x43 x44 x45 J17 J1 Q w)
 (f50_8 J1 Q w)
def f50_4 (x0 x1 x2 : Value) (J1 : Value → World → Prop) (Q : PQ) (w : World) : Prop :=
 ksem Tryz.prog (Instr.typeAssert x0 33 211 true) w fun v11 w12 =>
 kext v11 1 fun v13 =>
 kext v11 0 fun v14 =>
 kB v13 fun b37 => kIf b37
 (kcallM Tryz.prog v14 "Unwrap" [] w12 fun v15 w16 =>
 keq Tryz.prog .eql 33 false true v15 .nilIface w16 fun v17 w18 =>
 kB v17 fun b19 => kIf b19
 (Q (.bool false) w18)
 (J1 v15 w18))
 (ksem Tryz.prog (Instr.typeAssert x0 33 212 true) w12 fun v20 w21 =>
 kext v20 1 fun v22 =>
 kext v20 0 fun v23 =>
 kB v22 fun b36 => kIf b36
 (kcallM Tryz.prog v23 "Unwrap" [] w21 fun v24 w25 =>
 klen v24 fun v26 =>
 kL fun (I : Value → World → Prop) (μ : Value → World → Nat) => I (.int .i64 0) w25 ∧ ∀ (x45 : Value) (w1 : World), I x45 w1 →
 f50_5 x45 x1 x2 v24 v26 (fun y45 w2 => I y45 w2 ∧ μ y45 w2 < μ x45 w1) J1 Q w1)
 (Q (.bool false) w21))
def f50_3 (x0 x1 x2 x30 : Value) (J1 : Value → World → Prop) (Q : PQ) (w : World) : Prop :=
 kB x30 fun b38 => kIf b38
 (Q (.bool true) w)
 (f50_4 x0 x1 x2 J1 Q w)
def f50_2 (x0 x1 x2 : Value) (J1 : Value → World → Prop) (Q : PQ) (w : World) : Prop :=
 ksem Tryz.prog (Instr.typeAssert x0 33 208 true) w fun v4 w5 =>
 kext v4 0 fun v6 =>
 kext v4 1 fun v7 =>
 kB v7 fun b8 => kIf b8
 (kcallM Tryz.prog v6 "Is" [x1] w5 fun v9 w10 =>
 f50_3 x0 x1 x2 v9 J1 Q w10)
 (f50_3 x0 x1 x2 (.bool false) J1 Q w5)
def f50_1 (x0 x1 x2 x19 : Value) (J1 : Value → World → Prop) (Q : PQ) (w : World) : Prop :=
 kB x19 fun b39 => kIf b39
 (Q (.bool true) w)
 (f50_2 x0 x1 x2 J1 Q w)
def f50_0 (x0 x1 x2 : Value) (J1 : Value → World → Prop) (Q : PQ) (w : World) : Prop :=
 kB x2 fun b1 => kIf b1
 (keq Tryz.prog .eql 33 false false x0 x1 w fun v2 w3 =>
 f50_1 x0 x1 x2 v2 J1 Q w3)
 (f50_1 x0 x1 x2 (.bool false) J1 Q w)
def f50 (x0 x1 x2 : Value) (Q : PQ) (w : World) : Prop :=
 kL fun (I : Value → World → Prop) (μ : Value → World → Nat) => I x0 w ∧ ∀ (x0 : Value) (w1 : World), I x0 w1 →
 f50_0 x0 x1 x2 (fun y0 w2 => I y0 w2 ∧ μ y0 w2 < μ x0 w1) Q w1
theorem f50_ok {x0 x1 x2 : Value} {Q : PQ} {w : World} (h : f50 x0 x1 x2 Q w) : Meets Tryz.prog 50 #[x0, x1, x2] w Q :=
 sound' (c := Tryz.f50.body.get rfl) [(1, [0]), (17, [45])] Tryz.func50 rfl rfl (args := [x0, x1, x2]) rfl (by kernel_rfl) h
def f25_0 (x0 x1 : Value) (Q : PQ) (w : World) : Prop :=
 kbld [(.string ⟨#[]⟩), .nilIface] [(0, 1, x0), (1, 1, x1)] fun v3 =>
 knew (Value.cells v3) 143 w fun v4 w5 =>
 Q (.iface 141 v4) w5
def f25 (x0 x1 : Value) (Q : PQ) (w : World) : Prop :=
 keq Tryz.prog .eql 33 false true x1 .nilIface w fun v1 w2 =>
 kB v1 fun b6 => kIf b6
 (Q .nilIface w2)
 (f25_0 x0 x1 Q w2)
theorem f25_ok {x0 x1 : Value} {Q : PQ} {w : World} (h : f25 x0 x1 Q w) : Meets Tryz.prog 25 #[x0, x1] w Q :=
 sound' (c := Tryz.f25.body.get rfl) [] Tryz.func25 rfl rfl (args := [x0, x1]) rfl (by kernel_rfl) h
def f24_0 (x3 : Value) (Q : PQ) (w : World) : Prop :=
 kbld [.slice none 0 0] [(0, 1, x3)] fun v9 =>
 knew (Value.cells v9) 140 w fun v10 w11 =>
 Q (.iface 138 v10) w11
def f24 (x0 : Value) (Q : PQ) (w : World) : Prop :=
 kcall Tryz.prog 58 #[x0] w fun v1 w2 =>
 klen v1 fun v3 =>
 kint .i64 .eql v3 (.int .i64 0) fun v5 =>
 kB v5 fun b13 => kIf b13
 (Q .nilIface w2)
 (kint .i64 .eql v3 (.int .i64 1) fun v6 =>
 kB v6 fun b12 => kIf b12
 (kix (some (.slice 33)) (some 1) v1 (.int .i64 0) fun v7 =>
 kld v7 w2 fun v8 =>
 Q v8 w2)
 (f24_0 v1 Q w2))
theorem f24_ok {x0 : Value} {Q : PQ} {w : World} (h : f24 x0 Q w) : Meets Tryz.prog 24 #[x0] w Q :=
 sound' (c := Tryz.f24.body.get rfl) [] Tryz.func24 rfl rfl (args := [x0]) rfl (by kernel_rfl) h
def f58_2 (x2 x8 x9 x10 : Value) (J2 : Value → Value → World → Prop) (Q : PQ) (w : World) : Prop :=
 kint .i64 .add x10 (.int .i64 1) fun v8 =>
 J2 x2 v8 w
def f58_1 (x2 x8 x9 x10 : Value) (J2 : Value → Value → World → Prop) (Q : PQ) (w : World) : Prop :=
 kix (some (.slice 33)) (some 1) x8 x10 fun v4 =>
 kld v4 w fun v5 =>
 keq Tryz.prog .eql 33 false true v5 .nilIface w fun v6 w7 =>
 kB v6 fun b23 => kIf b23
 (f58_2 x2 x8 x9 x10 J2 Q w7)
 (kta 138 (.pointer none) true v5 fun v9 =>
 kext v9 1 fun v10 =>
 kext v9 0 fun v11 =>
 kB v10 fun b22 => kIf b22
 (kcall Tryz.prog 101 #[v11] w7 fun v12 w13 =>
 kcall Tryz.prog 58 #[v12] w13 fun v14 w15 =>
 ksem Tryz.prog (Builtin.append_ #[115, 115] 0 #[x2, v14]) w15 fun v16 w17 =>
 f58_2 v16 x8 x9 x10 J2 Q w17)
 (kbldS [.nilIface] 1 [(0, 1, v5)] 33 w7 fun v18 w19 =>
 ksem Tryz.prog (Builtin.append_ #[115, 115] 0 #[x2, v18]) w19 fun v20 w21 =>
 f58_2 v20 x8 x9 x10 J2 Q w21))
def f58_3 (x2 : Value) (Q : PQ) (w : World) : Prop :=
 Q x2 w
def f58_0 (x2 x10 x8 x9 : Value) (J2 : Value → Value → World → Prop) (Q : PQ) (w : World) : Prop :=
 kint .i64 .lss x10 x9 fun v3 =>
 kB v3 fun b24 => kIf b24
 (f58_1 x2 x8 x9 x10 J2 Q w)
 (f58_3 x2 Q w)
def f58 (x0 : Value) (Q : PQ) (w : World) : Prop :=
 klen x0 fun v1 =>
 kL fun (I : Value → Value → World → Prop) (μ : Value → Value → World → Nat) => I (.slice none 0 0) (.int .i64 0) w ∧ ∀ (x2 x10 : Value) (w1 : World), I x2 x10 w1 →
 f58_0 x2 x10 x0 v1 (fun y2 y10 w2 => I y2 y10 w2 ∧ μ y2 y10 w2 < μ x2 x10 w1) Q w1
theorem f58_ok {x0 : Value} {Q : PQ} {w : World} (h : f58 x0 Q w) : Meets Tryz.prog 58 #[x0] w Q :=
 sound' (c := Tryz.f58.body.get rfl) [(2, [2, 10])] Tryz.func58 rfl rfl (args := [x0]) rfl (by kernel_rfl) h
def f100_0 (x0 : Value) (Q : PQ) (w : World) : Prop :=
 kN x0 <|
 kfld 1 x0 fun v3 =>
 kld v3 w fun v4 =>
 Q v4 w
def f100 (x0 : Value) (Q : PQ) (w : World) : Prop :=
 keq Tryz.prog .eql 141 false true x0 (.pointer none) w fun v1 w2 =>
 kB v1 fun b5 => kIf b5
 (Q .nilIface w2)
 (f100_0 x0 Q w2)
theorem f100_ok {x0 : Value} {Q : PQ} {w : World} (h : f100 x0 Q w) : Meets Tryz.prog 100 #[x0] w Q :=
 sound' (c := Tryz.f100.body.get rfl) [] Tryz.func100 rfl rfl (args := [x0]) rfl (by kernel_rfl) h
def f101_0 (x0 : Value) (Q : PQ) (w : World) : Prop :=
 kN x0 <|
 kfld 0 x0 fun v3 =>
 kld v3 w fun v4 =>
 kcall Tryz.prog 152 #[v4] w fun v5 w6 =>
 Q v5 w6
def f101 (x0 : Value) (Q : PQ) (w : World) : Prop :=
 keq Tryz.prog .eql 138 false true x0 (.pointer none) w fun v1 w2 =>
 kB v1 fun b7 => kIf b7
 (Q (.slice none 0 0) w2)
 (f101_0 x0 Q w2)
theorem f101_ok {x0 : Value} {Q : PQ} {w : World} (h : f101 x0 Q w) : Meets Tryz.prog 101 #[x0] w Q :=
 sound' (c := Tryz.f101.body.get rfl) [] Tryz.func101 rfl rfl (args := [x0]) rfl (by kernel_rfl) h
def f152_0 (x0 : Value) (Q : PQ) (w : World) : Prop :=
 kbldS [.nilIface] 0 [] 33 w fun v3 w4 =>
 ksem Tryz.prog (Builtin.append_ #[115, 115] 0 #[v3, x0]) w4 fun v5 w6 =>
 Q v5 w6
def f152 (x0 : Value) (Q : PQ) (w : World) : Prop :=
 keq Tryz.prog .eql 115 false true x0 (.slice none 0 0) w fun v1 w2 =>
 kB v1 fun b7 => kIf b7
 (Q (.slice none 0 0) w2)
 (f152_0 x0 Q w2)
theorem f152_ok {x0 : Value} {Q : PQ} {w : World} (h : f152 x0 Q w) : Meets Tryz.prog 152 #[x0] w Q :=
 sound' (c := Tryz.f152.body.get rfl) [] Tryz.func152 rfl rfl (args := [x0]) rfl (by kernel_rfl) h
def f57_0 (Q : PQ) (w : World) : Prop :=
 Q .nilIface w
def f57 (x0 : Value) (Q : PQ) (w : World) : Prop :=
 kint .i64 .eql x0 (.int .i64 1) fun v1 =>
 kB v1 fun b54 => kIf b54
 (kld (.pointer (some ⟨2, 0, none⟩)) w fun v2 =>
 Q v2 w)
 (kint .i64 .eql x0 (.int .i64 2) fun v3 =>
 kB v3 fun b53 => kIf b53
 (kld (.pointer (some ⟨4, 0, none⟩)) w fun v4 =>
 Q v4 w)
 (kint .i64 .eql x0 (.int .i64 3) fun v5 =>
 kB v5 fun b52 => kIf b52
 (kld (.pointer (some ⟨10, 0, none⟩)) w fun v6 =>
 Q v6 w)
 (kint .i64 .eql x0 (.int .i64 4) fun v7 =>
 kB v7 fun b51 => kIf b51
 (kld (.pointer (some ⟨5, 0, none⟩)) w fun v8 =>
 Q v8 w)
 (kint .i64 .eql x0 (.int .i64 5) fun v9 =>
 kB v9 fun b50 => kIf b50
 (kld (.pointer (some ⟨11, 0, none⟩)) w fun v10 =>
 Q v10 w)
 (kint .i64 .eql x0 (.int .i64 6) fun v11 =>
 kB v11 fun b49 => kIf b49
 (kld (.pointer (some ⟨7, 0, none⟩)) w fun v12 =>
 Q v12 w)
 (kint .i64 .eql x0 (.int .i64 7) fun v13 =>
 kB v13 fun b48 => kIf b48
 (kld (.pointer (some ⟨12, 0, none⟩)) w fun v14 =>
 Q v14 w)
 (kint .i64 .eql x0 (.int .i64 8) fun v15 =>
 kB v15 fun b47 => kIf b47
 (kld (.pointer (some ⟨13, 0, none⟩)) w fun v16 =>
 Q v16 w)
 (kint .i64 .eql x0 (.int .i64 9) fun v17 =>
 kB v17 fun b46 => kIf b46
 (kld (.pointer (some ⟨1, 0, none⟩)) w fun v18 =>
 Q v18 w)
 (kint .i64 .eql x0 (.int .i64 10) fun v19 =>
 kB v19 fun b45 => kIf b45
 (kld (.pointer (some ⟨14, 0, none⟩)) w fun v20 =>
 Q v20 w)
 (kint .i64 .eql x0 (.int .i64 11) fun v21 =>
 kB v21 fun b44 => kIf b44
 (kld (.pointer (some ⟨6, 0, none⟩)) w fun v22 =>
 Q v22 w)
 (kint .i64 .eql x0 (.int .i64 12) fun v23 =>
 kB v23 fun b43 => kIf b43
 (kld (.pointer (some ⟨3, 0, none⟩)) w fun v24 =>
 Q v24 w)
 (kint .i64 .eql x0 (.int .i64 13) fun v25 =>
 kB v25 fun b42 => kIf b42
 (kld (.pointer (some ⟨9, 0, none⟩)) w fun v26 =>
 Q v26 w)
 (kint .i64 .eql x0 (.int .i64 14) fun v27 =>
 kB v27 fun b41 => kIf b41
 (kld (.pointer (some ⟨8, 0, none⟩)) w fun v28 =>
 Q v28 w)
 (kint .i64 .eql x0 (.int .i64 15) fun v29 =>
 kB v29 fun b40 => kIf b40
 (kld (.pointer (some ⟨0, 0, none⟩)) w fun v30 =>
 Q v30 w)
 (kint .i64 .eql x0 (.int .i64 16) fun v31 =>
 kB v31 fun b39 => kIf b39
 (kld (.pointer (some ⟨15, 0, none⟩)) w fun v32 =>
 Q v32 w)
 (kint .i64 .eql x0 (.int .i64 17) fun v33 =>
 kB v33 fun b38 => kIf b38
 (kld (.pointer (some ⟨16, 0, none⟩)) w fun v34 =>
 Q v34 w)
 (kint .i64 .eql x0 (.int .i64 18) fun v35 =>
 kB v35 fun b37 => kIf b37
 (kld (.pointer (some ⟨17, 0, none⟩)) w fun v36 =>
 Q v36 w)
 (f57_0 Q w))))))))))))))))))
end
section
theorem ifErr : isIfT Tryz.prog 33 = true := by kernel_rfl
theorem cmpSen : cmpT Tryz.prog 423 = true := by kernel_rfl
theorem taIs : taB Tryz.prog 423 208 = some false := by kernel_rfl
theorem taUn : taB Tryz.prog 423 211 = some false := by kernel_rfl
theorem taUs : taB Tryz.prog 423 212 = some false := by kernel_rfl
theorem zIs : (Tryz.prog.info? 208).map (·.zero) = some (some .nilIface) := by kernel_rfl
theorem zUn : (Tryz.prog.info? 211).map (·.zero) = some (some .nilIface) := by kernel_rfl
theorem zUs : (Tryz.prog.info? 212).map (·.zero) = some (some .nilIface) := by kernel_rfl
theorem ptBla : isPtrT Tryz.prog 141 = true := by kernel_rfl
theorem ptSev : isPtrT Tryz.prog 138 = true := by kernel_rfl
theorem slErr : isSlT Tryz.prog 115 = true := by kernel_rfl
theorem apErr : appT Tryz.prog 115 1 16 = true := by kernel_rfl
def gErr : Nat → Nat
 | 1 => 2 | 2 => 4 | 3 => 10 | 4 => 5 | 5 => 11 | 6 => 7 | 7 => 12 | 8 => 13 | 9 => 1
 | 10 => 14 | 11 => 6 | 12 => 3 | 13 => 9 | 14 => 8 | 15 => 0 | 16 => 15 | 17 => 16 | _ => 17
def errV (S : Nat → Addr) (k : Nat) : Value := .iface 423 (.pointer (some (S k)))
structure LaidN (N : Nat) (S : Nat → Addr) (w : World) : Prop where
 glob : ∀ k, 1 ≤ k → k ≤ N → ∃ c t f, blk w (gErr k) = some (.cells c t f) ∧ c[0]? = some (errV S k)
 ne : ∀ j k, 1 ≤ j → j ≤ N → 1 ≤ k → k ≤ N → j ≠ k → S j ≠ S k
 live : ∀ k, 1 ≤ k → k ≤ N → ∃ c t, blk w (S k).block = some (.cells c t (0, 0))
structure LaidP (p : Nat → Prop) (S : Nat → Addr) (w : World) : Prop where
 glob : ∀ k, p k → ∃ c t f, blk w (gErr k) = some (.cells c t f) ∧ c[0]? = some (errV S k)
 ne : ∀ j k, p j → p k → j ≠ k → S j ≠ S k
 live : ∀ k, p k → ∃ c t, blk w (S k).block = some (.cells c t (0, 0))
theorem LaidP.mod {p : Nat → Prop} {fp : Nat → Prop} {S : Nat → Addr} {w w' : World} (h : LaidP p S w) (hm : Mod fp w w') (hf : ∀ k, p k → ¬ fp (gErr k) ∧ ¬ fp (S k).block) : LaidP p S w' where
 glob k h1 := by
  obtain ⟨c, t, f, hb, hc⟩ := h.glob k h1
  exact ⟨c, t, f, hm.get hb (hf k h1).1, hc⟩
 ne := h.ne
 live k h1 := by
  obtain ⟨c, t, hb⟩ := h.live k h1
  exact ⟨c, t, hm.get hb (hf k h1).2⟩
theorem LaidP.same {p : Nat → Prop} {S : Nat → Addr} {w w' : World} (h : LaidP p S w) (hm : Same w w') : LaidP p S w' := h.mod hm fun _ _ => ⟨fun h => h, fun h => h⟩
theorem LaidP.lt {p : Nat → Prop} {S : Nat → Addr} {w : World} (h : LaidP p S w) {k : Nat} (h1 : p k) : gErr k < w.heap.size ∧ (S k).block < w.heap.size := by
 obtain ⟨c, t, f, hb, _⟩ := h.glob k h1
 obtain ⟨c', t', hb'⟩ := h.live k h1
 exact ⟨lt_of_blk hb, lt_of_blk hb'⟩
theorem LaidP.new {p : Nat → Prop} {S : Nat → Addr} {w0 w w' : World} (h0 : LaidP p S w0) (h : LaidP p S w) (hm : Mod (fun k => w0.heap.size ≤ k) w w') : LaidP p S w' :=
 h.mod hm fun k hk => by have := h0.lt hk; omega
theorem LaidN.mod {N : Nat} {fp : Nat → Prop} {S : Nat → Addr} {w w' : World} (h : LaidN N S w) (hm : Mod fp w w') (hf : ∀ k, 1 ≤ k → k ≤ N → ¬ fp (gErr k) ∧ ¬ fp (S k).block) : LaidN N S w' where
 glob k h1 h2 := by
  obtain ⟨c, t, f, hb, hc⟩ := h.glob k h1 h2
  exact ⟨c, t, f, hm.get hb (hf k h1 h2).1, hc⟩
 ne := h.ne
 live k h1 h2 := by
  obtain ⟨c, t, hb⟩ := h.live k h1 h2
  exact ⟨c, t, hm.get hb (hf k h1 h2).2⟩
theorem LaidN.same {N : Nat} {S : Nat → Addr} {w w' : World} (h : LaidN N S w) (hm : Same w w') : LaidN N S w' := h.mod hm fun _ _ _ => ⟨fun h => h, fun h => h⟩
theorem LaidN.lt {N : Nat} {S : Nat → Addr} {w : World} (h : LaidN N S w) {k : Nat} (h1 : 1 ≤ k) (h2 : k ≤ N) : gErr k < w.heap.size ∧ (S k).block < w.heap.size := by
 obtain ⟨c, t, f, hb, _⟩ := h.glob k h1 h2
 obtain ⟨c', t', hb'⟩ := h.live k h1 h2
 exact ⟨lt_of_blk hb, lt_of_blk hb'⟩
theorem LaidN.read {N : Nat} {S : Nat → Addr} {w : World} (h : LaidN N S w) {k g : Nat} (h1 : 1 ≤ k) (h2 : k ≤ N) (hg : gErr k = g) : cellO (blk w g) 0 = some (errV S k) := by
 obtain ⟨c, t, f, hb, hc⟩ := h.glob k h1 h2
 rw [← hg, hb]; exact hc
theorem Is_cmp (x0 v : Value) (Q : Value → World → Prop) (w : World) : f17_1 x0 (.iface 423 v) Q w = kcall Tryz.prog 50 #[x0, .iface 423 v, .bool true] w (fun v12 w13 => Q v12 w13) := by kernel_rfl
end
end Go.Proofs.YtenokhokboicnaaGreatDoor
namespace Go.Ev
open Go Go.RowKit
section
theorem knew_of {cs : Array Value} {t : TypeId} {w : World} {K : Value → World → Prop} (h : ∀ w2, Same w w2 → w2.heap.size = w.heap.size + 1 → blk w2 w.heap.size = some (.cells cs t) → K (.pointer (some ⟨w.heap.size, 0, none⟩)) w2) : knew cs t w K :=
 h _ ((Mod.refl _ _).alloc _) (by simp) (alloc_heap_new _ _)
theorem kbldS_of {z : List Value} {n : Nat} {qs : List (Nat × Nat × Value)} {ty : TypeId} {w : World} {K : Value → World → Prop} {cs : List Value} (hf : fillL (zrow z n) qs = some cs)
  (h : ∀ w2, Same w w2 → w2.heap.size = w.heap.size + 1 → blk w2 w.heap.size = some (.cells cs.toArray ty) → K (.slice (some ⟨w.heap.size, 0, none⟩) n n) w2) : kbldS z n qs ty w K := by
 rw [kbldS_eq, hf]
 exact h _ ((Mod.refl _ _).alloc _) (by simp) (alloc_heap_new _ _)
theorem kbld_of {z : List Value} {qs : List (Nat × Nat × Value)} {K : Value → Prop} {cs : List Value} (hf : fillL z qs = some cs) (h : K (.agg cs.toArray)) : kbld z qs K := by
 rw [kbld_eq, hf]
 exact h
theorem SlIs.blk {w : World} {b : Nat} {arr : Array Value} {t : TypeId} {f : Nat × Nat} (hb : blk w b = some (.cells arr t f)) {n sz : Nat} (h : arr.size = n * sz) : SlIs w (some ⟨b, 0, none⟩) n sz arr.toList :=
 ⟨by simpa using h, .inr ⟨_, 0, arr, t, f, rfl, hb, by rw [List.drop_zero, ← h, ← Array.length_toList, List.take_length]⟩⟩
theorem Own.blk {w : World} {b : Nat} {arr : Array Value} {t : TypeId} (hb : blk w b = some (.cells arr t)) {n sz : Nat} (h : arr.size = n * sz) (hn : n ≤ maxLen) : Own w (.slice (some ⟨b, 0, none⟩) n n) sz arr.toList :=
 ⟨_, n, n, rfl, by simpa using h, Nat.le_refl _, hn, .inr ⟨_, arr, t, rfl, hb, h, by rw [← h, ← Array.length_toList, List.take_length]⟩⟩
theorem kfld_of {b o n : Nat} {K : Value → Prop} (h : K (.pointer (some ⟨b, o + n, none⟩))) : kfld n (.pointer (some ⟨b, o, none⟩)) K := by
 rw [kfld_ptr, add_mk]; exact h
theorem kld_of {b o : Nat} {w : World} {K : Value → Prop} {c : Array Value} {t : TypeId} {f : Nat × Nat} {v : Value} (hb : Ev.blk w b = some (.cells c t f)) (hc : c[o]? = some v) (h : K v) : kld (.pointer (some ⟨b, o, none⟩)) w K := by
 rw [kld_ptr, cell_mk, hb, cellO_some, hc]; exact h
theorem kldN_of {n b o : Nat} {w : World} {K : Value → Prop} {c : Array Value} {t : TypeId} {f : Nat × Nat} {cs : List Value} (hb : Ev.blk w b = some (.cells c t f)) (hle : o + n ≤ c.size) (hc : (c.toList.drop o).take n = cs) (hn : 0 < n) (h : K (.agg cs.toArray)) : kldN n (.pointer (some ⟨b, o, none⟩)) w K := by
 rw [kldN_ptr, cellsAt_pos _ _ _ _ hn, hb, cellsO_some hle, hc]; exact h
theorem kst_of {n b o : Nat} {v : Value} {w : World} {K : World → Prop} {c : Array Value} {t : TypeId} {vs : List Value} (hb : Ev.blk w b = some (.cells c t)) (hv : v.cells.toList = vs) (hn : vs.length = n) (h1 : oneCells vs = true) (hle : o + n ≤ c.size) (hne : vs ≠ [])
  (h : ∀ w2, Mod (fun k => k = b) w w2 → w2.heap.size = w.heap.size → Ev.blk w2 b = some (.cells (setAll vs c o) t) → K w2) : kst n (.pointer (some ⟨b, o, none⟩)) v w K := by
 have hst := stores_blk (b := b) (o := o) (t := t) vs 0 w c hb h1 (by simpa [hn] using hle) hne
 have hsz : v.cells.size = n := by rw [← hn, ← hv, Array.length_toList]
 rw [kst_ptr, hv, hst, kO_some]
 refine kG_of hsz (h _ ((Mod.refl _ _).setBlk _ (.inl rfl)) (setBlk_size _ _ _) ?_)
 rw [setBlk_heap, if_pos rfl, hb]; rfl
end
end Go.Ev
namespace Go.Ev
open Go Go.RowKit Go.ChangeShapes
section
def Rd (P : Program) (w : World) : Nat → TypeId → List Value → Prop
 | 0, _, _ => True
 | n + 1, t, cs => match P.underlying t with
  | some (.int k) => ∃ i, cs = [.int k i] ∧ (Lit.int k i).wf = true
  | some .bool => ∃ b, cs = [.bool b]
  | some .string => ∃ s, cs = [.string s] ∧ s.size ≤ maxLen
  | some (.slice e) => cs = [.slice none 0 0] ∨ ∃ a len cap, cs = [.slice (some a) len cap] ∧ len ≤ cap ∧ cap ≤ maxLen ∧
    ∀ i, i < len → ∃ ec, w.cells? 0 (a.add (i * P.cellsOf e)) (P.cellsOf e) = some ec ∧ Rd P w n e ec
  | some (.struct fs) => cs.length = P.cellsOf t ∧ ∀ f, f ∈ fs.toList → Rd P w n f.type ((cs.drop f.offset).take (P.cellsOf f.type))
  | some (.array m e) => cs.length = P.cellsOf t ∧ ∀ i, i < m → Rd P w n e ((cs.drop (i * P.cellsOf e)).take (P.cellsOf e))
  | _ => True
theorem rd_of_trod {H : Type} {enc : TypeId × Value → H} {P : Program} {w : World} {sp : Nat → Bool} {held : Bool} :
  ∀ (fuel : Nat) (t : TypeId) (cs : List Value) (x : DataW H × List MemPlace), DataW.trod enc P w 0 sp held fuel t cs = some x → ∀ n, Rd P w n t cs := by
 intro fuel
 induction fuel with
 | zero => intro t cs x h; simp [DataW.trod] at h
 | succ m ih =>
  intro t cs x h n
  cases n with
  | zero => trivial
  | succ n =>
   unfold Rd
   split
   ·rename_i k hu
    obtain ⟨i, h1, _, h2⟩ := DataW.trod_int hu h
    exact ⟨i, h1, h2⟩
   ·rename_i hu
    obtain ⟨b, h1, _⟩ := DataW.trod_bool hu h
    exact ⟨b, h1⟩
   ·rename_i hu
    obtain ⟨s, h1, _, h2⟩ := DataW.trod_string hu h
    exact ⟨s, h1, h2⟩
   ·rename_i e hu
    rcases DataW.trod_slice hu h with ⟨h1, _⟩ | ⟨a, len, cap, elems, rest, m', e1, h1, _, _, h2, h3, h4, h5, _⟩
    ·exact Or.inl h1
    ·refine Or.inr ⟨a, len, cap, h1, h2, h3, fun i hi => ?_⟩
     have h5 := h5 i hi
     have hi' : i < elems.length := by omega
     rw [List.getElem?_eq_getElem hi'] at h5
     obtain ⟨ec, h6, h7⟩ := Option.bind_eq_some_iff.1 h5
     obtain rfl : m' = m := by omega
     exact ⟨ec, h6, ih _ _ _ h7 n⟩
   ·rename_i fs hu
    obtain ⟨xs, m', e1, _, h2, h3, h4⟩ := DataW.trod_struct hu h
    obtain rfl : m' = m := by omega
    refine ⟨h2, fun f hf => ?_⟩
    obtain ⟨i, hi, rfl⟩ := List.mem_iff_getElem.1 hf
    have hi' : i < fs.size := by simpa using hi
    have := h4 i (fs.toList[i]) (by simp [hi'])
    rw [List.getElem?_eq_getElem (show i < xs.length by omega)] at this
    exact ih _ _ _ this n
   ·rename_i k e hu
    obtain ⟨xs, m', e1, _, h2, h3, h4⟩ := DataW.trod_array hu h
    obtain rfl : m' = m := by omega
    refine ⟨h2, fun i hi => ?_⟩
    have := h4 i hi
    rw [List.getElem?_eq_getElem (show i < xs.length by omega)] at this
    exact ih _ _ _ this n
   ·trivial
theorem rd_of_Trod {H : Type} {enc : TypeId × Value → H} {P : Program} {w : World} {sp : Nat → Bool} {held : Bool} {t : TypeId} {v : Value} {d : DataW H} {ps : List MemPlace} (h : DataW.Trod enc P w 0 sp held t v d ps) (n : Nat) : Rd P w n t v.cells.toList := by
 obtain ⟨fuel, h⟩ := h
 exact rd_of_trod _ _ _ _ h n
def RdF (P : Program) (w : World) (n : Nat) (cs : List Value) : List Field → Prop
 | [] => True
 | f :: l => Rd P w n f.type ((cs.drop f.offset).take (P.cellsOf f.type)) ∧ RdF P w n cs l
section
variable {P : Program} {w : World} {n : Nat} {t : TypeId} {cs : List Value}
theorem rd_struct {l : List Field} (hu : P.underlying t = some (.struct l.toArray)) (h : Rd P w (n + 1) t cs) : cs.length = P.cellsOf t ∧ RdF P w n cs l := by
 unfold Rd at h
 rw [hu] at h
 refine ⟨h.1, ?_⟩
 have h2 := h.2
 clear hu h
 simp only at h2
 induction l with
 | nil => trivial
 | cons f l ih => exact ⟨h2 f (by simp), ih fun g hg => h2 g (by simp at hg ⊢; exact .inr hg)⟩
theorem rd_array {m : Nat} {e : TypeId} (hu : P.underlying t = some (.array m e)) (h : Rd P w (n + 1) t cs) : cs.length = P.cellsOf t ∧ ∀ i, i < m → Rd P w n e ((cs.drop (i * P.cellsOf e)).take (P.cellsOf e)) := by
 unfold Rd at h
 rw [hu] at h
 exact h
theorem rd_int {k : IntKind} (hu : P.underlying t = some (.int k)) (h : Rd P w (n + 1) t cs) : ∃ i, cs = [.int k i] ∧ (Lit.int k i).wf = true := by
 unfold Rd at h
 rw [hu] at h
 exact h
theorem rd_bool (hu : P.underlying t = some .bool) (h : Rd P w (n + 1) t cs) : ∃ b, cs = [.bool b] := by
 unfold Rd at h
 rw [hu] at h
 exact h
theorem rd_slice {e : TypeId} (hu : P.underlying t = some (.slice e)) (h : Rd P w (n + 1) t cs) : cs = [.slice none 0 0] ∨ ∃ a len cap, cs = [.slice (some a) len cap] ∧ len ≤ cap ∧ cap ≤ maxLen ∧
    ∀ i, i < len → ∃ ec, w.cells? 0 (a.add (i * P.cellsOf e)) (P.cellsOf e) = some ec ∧ Rd P w n e ec := by
 unfold Rd at h
 rw [hu] at h
 exact h
end
def sentD (nm : String) (x : String × List UInt8) : String × DataW Unit := (x.1, .iface nm (.ptr (.agg [.lit (.string x.2)])))
theorem sent_list {P : Program} {W : World} {nm : String} {ti tp te ts : TypeId} {ms : Array (String × TypeId)} {f : Field}
  (hi : P.underlying ti = some (.interface ms)) (hrow : ∀ u, P.typeName? 3 u = some nm → u = tp)
  (hp : P.underlying tp = some (.pointer te)) (he : P.underlying te = some (.struct #[f])) (hft : f.type = ts) (hfo : f.offset = 0) (hs : P.underlying ts = some .string) (hc : P.cellsOf te = 1) (hcs : P.cellsOf ts = 1) :
  ∀ (l : List (String × List UInt8)) (ps : List MemPlace), DataW.LaidVars P W (l.map (sentD nm)) ps →
   (∀ x ∈ l, ∃ g, P.globalNamed x.1 = some g ∧ (P.globals[g]?).map (·.type) = some ti) →
   (∀ b off, MemPlace.cell b off ∈ ps → (∃ c t, W.heap[b]? = some (.cells c t (0, 0))) ∧ ∀ u v, W.cell? ⟨b, off, none⟩ = some (.iface u v) → Value.okWide P W .any 0 u v) →
   ∃ zs : List Addr, zs.length = l.length ∧ (zs.map fun a => MemPlace.cell a.block a.off).Sublist ps ∧
    ∀ (i : Nat) (x : String × List UInt8), l[i]? = some x → ∃ a s, zs[i]? = some a ∧ W.var? P x.1 = some #[.iface tp (.pointer (some a))] ∧ W.cell? a = some (.string s) ∧ s.data.toList = x.2 ∧ s.size ≤ maxLen ∧
     ∃ c t, W.heap[a.block]? = some (.cells c t (0, 0)) := by
 intro l
 induction l with
 | nil => intro ps _ _ _; exact ⟨[], rfl, by simp, by simp⟩
 | cons y l ih =>
  intro ps hv hg hrows
  obtain ⟨g0', t0', cs0, f0, p0, q0, hg0', ht0', hv0, hd0, hq, e0⟩ := hv
  subst e0
  obtain ⟨g, hg1, hg2⟩ := hg y (by simp)
  obtain rfl := Option.some.inj (hg1.symm.trans hg0')
  obtain rfl := Option.some.inj (hg2.symm.trans ht0')
  obtain ⟨l0⟩ := cs0
  have ok0 : ∀ u v, l0 = [.iface u v] → Value.okWide P W .any 0 u v := fun u v e => by
   subst e
   exact (hrows g 0 (by simp [MemPlace.row])).2 u v (by simpa using World.var?_cell hg0' hv0 0)
  obtain ⟨a0, s0, rfl, hc0, hs0, hz0, rfl⟩ := errorString_of_trod hi hrow hp he hft hfo hs hc hcs hd0 ok0
  obtain ⟨zs, h1, h2, h3⟩ := ih q0 hq (fun x hx => hg x (by simp [hx])) (fun b off hm => hrows b off (List.mem_append_right _ hm))
  refine ⟨a0 :: zs, by simp [h1], ?_, ?_⟩
  ·have e : MemPlace.row a0 1 = [.cell a0.block a0.off] := by simp [MemPlace.row]
   rw [e, List.map_cons, List.append_assoc]
   exact (h2.cons_cons _).trans (List.sublist_append_right _ _)
  ·intro i x hx
   cases i with
   | zero =>
    simp only [List.getElem?_cons_zero, Option.some.injEq] at hx
    subst hx
    exact ⟨a0, s0, rfl, hv0, hc0, hs0, hz0, (hrows a0.block a0.off (by simp [MemPlace.row])).1⟩
   | succ i => exact h3 i x (by simpa using hx)
theorem sent_ne {zs : List Addr} {ps : List MemPlace} (h : (zs.map fun a => MemPlace.cell a.block a.off).Sublist ps) (hn : ps.Nodup) {i j : Nat} {a b : Addr} (hi : zs[i]? = some a) (hj : zs[j]? = some b) (hne : i ≠ j) : a ≠ b := by
 have hd := List.pairwise_iff_getElem.1 (List.Nodup.sublist h hn)
 rintro rfl
 obtain ⟨hi1, hi2⟩ := List.getElem?_eq_some_iff.1 hi
 obtain ⟨hj1, hj2⟩ := List.getElem?_eq_some_iff.1 hj
 rcases Nat.lt_or_gt_of_ne hne with hlt | hlt
 ·exact hd i j (by simpa using hi1) (by simpa using hj1) hlt (by simp [hi2, hj2])
 ·exact hd j i (by simpa using hj1) (by simpa using hi1) hlt (by simp [hi2, hj2])
theorem blk_of_var {P : Program} {W : World} {n : String} {g : Nat} {cs : Array Value} (hg : P.globalNamed n = some g) (h : W.var? P n = some cs) : ∃ t f, blk W g = some (.cells cs t f) := by
 unfold World.var? at h
 rw [hg] at h
 simp only [Option.bind_some] at h
 unfold blk
 split at h
 ·rename_i c t f hb
  simp only [Option.some.injEq] at h
  subst h
  exact ⟨t, f, hb⟩
 ·cases h
end
end Go.Ev
namespace Go.Ev
open Go Go.RowKit
section
theorem SlIs.cell {w : World} {a : Option Addr} {n sz : Nat} {vs : List Value} (h : SlIs w a n sz vs) {i j : Nat} (hi : i < n) (hj : j < sz) :
  ∃ b o c t f, a = some ⟨b, o, none⟩ ∧ Ev.blk w b = some (.cells c t f) ∧ c[o + i * sz + j]? = vs[i * sz + j]? := by
 obtain ⟨b, o, c, t, f, ha, hb, hle, hc⟩ := h.at hi (by omega)
 refine ⟨b, o, c, t, f, ha, hb, ?_⟩
 have e := congrArg (fun l : List Value => l[j]?) hc
 simp only [List.getElem?_take_of_lt hj, List.getElem?_drop] at e
 simpa using e
theorem flat_cell {α : Type} {F : α → List Value} {sz : Nat} (hF : ∀ x, (F x).length = sz) {l : List α} {i j : Nat} (hi : i < l.length) (hj : j < sz) : (l.flatMap F)[i * sz + j]? = (F l[i])[j]? := by
 have e := congrArg (fun l : List Value => l[j]?) (flat_get F sz hF l i hi)
 simp only [List.getElem?_take_of_lt hj, List.getElem?_drop] at e
 exact e
theorem kixfld_of {α : Type} {F : α → List Value} {sz : Nat} (hF : ∀ x, (F x).length = sz) {w w' : World} {a : Option Addr} {l : List α} {c : Nat} {e : TypeId} {k : IntKind} {i j : Nat} {K : Value → Prop} {v : Value}
  (h : SlIs w a l.length sz (l.flatMap F)) (hi : i < l.length) (hv : (F l[i])[j]? = some v) (hw : w'.heap = w.heap) (hK : K v) :
  kix (some (.slice e)) (some sz) (.slice a l.length c) (.int k i) fun v1 => kfld j v1 fun v2 => kld v2 w' K := by
 have hj : j < sz := by rw [← hF l[i]]; exact (List.getElem?_eq_some_iff.1 hv).1
 obtain ⟨b, o, cs, t, f, rfl, hb, hc⟩ := h.cell hi hj
 rw [flat_cell hF hi hj, hv] at hc
 rw [kix_slice]
 refine kG_of (by omega) ?_
 rw [add_mk]
 refine kfld_of ?_
 refine kld_of (c := cs) (t := t) (f := f) (v := v) (by unfold blk at *; rw [hw]; exact hb) ?_ hK
 simpa using hc
theorem kixld_of {α : Type} {F : α → Value} {w w' : World} {a : Option Addr} {l : List α} {c : Nat} {e : TypeId} {k : IntKind} {i : Nat} {K : Value → Prop}
  (h : SlIs w a l.length 1 (l.map F)) (hi : i < l.length) (hw : w'.heap = w.heap) (hK : K (F l[i])) :
  kix (some (.slice e)) (some 1) (.slice a l.length c) (.int k i) fun v1 => kld v1 w' K := by
 obtain ⟨b, o, cs, t, f, rfl, hb, hc⟩ := h.cell (j := 0) hi (by omega)
 rw [kix_slice]
 refine kG_of (by omega) ?_
 rw [add_mk]
 refine kld_of (c := cs) (t := t) (f := f) (v := F l[i]) (by unfold blk at *; rw [hw]; exact hb) ?_ hK
 have : (l.map F)[i * 1 + 0]? = some (F l[i]) := by simp [hi]
 rw [this] at hc
 simpa using hc
theorem kixldN_of {α : Type} {F : α → List Value} {sz : Nat} (hF : ∀ x, (F x).length = sz) (hs : 0 < sz) {w w' : World} {a : Option Addr} {l : List α} {c : Nat} {e : TypeId} {k : IntKind} {i : Nat} {K : Value → Prop}
  (h : SlIs w a l.length sz (l.flatMap F)) (hi : i < l.length) (hw : w'.heap = w.heap) (hK : K (.agg (F l[i]).toArray)) :
  kix (some (.slice e)) (some sz) (.slice a l.length c) (.int k i) fun v1 => kldN sz v1 w' K := by
 obtain ⟨b, o, cs, t, f, rfl, hb, hle, hc⟩ := h.at hi hs
 rw [flat_get F sz hF l i hi] at hc
 rw [kix_slice]
 refine kG_of (by omega) ?_
 rw [add_mk]
 exact kldN_of (c := cs) (t := t) (f := f) (by unfold blk at *; rw [hw]; exact hb) (by simpa using hle) (by simpa using hc) hs hK
theorem kext_of {vs : Array Value} {i : Nat} {v : Value} {K : Value → Prop} (h : vs[i]? = some v) (hk : K v) : kext (.tuple vs) i K := by
 rw [kext_tuple, h]; exact hk
theorem kO_of {α : Type} {o : Option α} {a : α} {K : α → Prop} (h : o = some a) (hk : K a) : kO o K := by
 rw [h]; exact hk
theorem ksl_arr_hi {b o l n sz : Nat} {e : TypeId} {k : IntKind} {K : Value → Prop} (h : n ≤ l) (hK : K (.slice (some ⟨b, o, none⟩) n l)) : ksl (some (.array l e)) (some sz) (.pointer (some ⟨b, o, none⟩)) none (some (.int k n)) K := by
 rw [ksl_array rfl rfl]
 refine kG_of (by simp only [loV_none, hiV_int]; omega) ?_
 have e1 : (if l = (loV none).toNat then (⟨b, o, none⟩ : Addr) else Addr.add ⟨b, o, none⟩ ((loV none).toNat * sz)) = ⟨b, o, none⟩ := by
  split
  ·rfl
  ·simp
 have e2 : ((hiV l (some (Value.int k (n : Int)))).toNat - (loV none).toNat) = n := by simp
 have e3 : l - (loV none).toNat = l := by simp
 rw [e1, e2, e3]
 exact hK
end
end Go.Ev
namespace Go.Ev
open Go Go.RowKit Go.ChangeShapes
section
theorem slIs_of_rd {α : Type} {F : α → List Value} {sz : Nat} (hF : ∀ x, (F x).length = sz) (hsz : 0 < sz) {ok : α → Prop} {P : Program} {w : World} {n : Nat} {t e : TypeId} {cs : List Value}
  (hu : P.underlying t = some (.slice e)) (he : P.cellsOf e = sz) (hel : ∀ ec, Rd P w n e ec → ∃ x, ok x ∧ F x = ec) (h : Rd P w (n + 1) t cs) :
  ∃ (a : Option Addr) (l : List α) (c : Nat), cs = [.slice a l.length c] ∧ (∀ x ∈ l, ok x) ∧ l.length ≤ c ∧ c ≤ maxLen ∧ SlIs w a l.length sz (l.flatMap F) := by
 rcases rd_slice hu h with rfl | ⟨a, len, cap, rfl, h1, h2, h3⟩
 ·exact ⟨none, [], 0, rfl, by simp, by simp, by simp, SlIs.nil _ _ _⟩
 rw [he] at h3
 have key : ∀ m, m ≤ len → ∃ l : List α, l.length = m ∧ (∀ x ∈ l, ok x) ∧ ∀ i (hi : i < l.length), ∀ j, j < sz → w.cell? ((a.add (i * sz)).add j) = (F l[i])[j]? := by
  intro m
  induction m with
  | zero => intro _; exact ⟨[], rfl, by simp, by simp⟩
  | succ m ih =>
   intro hm
   obtain ⟨l, hl, hok, hc⟩ := ih (by omega)
   obtain ⟨ec, g1, g2⟩ := h3 m (by omega)
   obtain ⟨x, hx, rfl⟩ := hel ec g2
   refine ⟨l ++ [x], by simp [hl], ?_, ?_⟩
   ·intro y hy
    rcases List.mem_append.1 hy with hy | hy
    ·exact hok y hy
    ·rw [List.mem_singleton.1 hy]; exact hx
   ·intro i hi j hj
    by_cases hlt : i < l.length
    ·rw [List.getElem_append_left hlt]; exact hc i hlt j hj
    ·have : i = m := by simp at hi; omega
     subst this
     have e : (l ++ [x])[i]'hi = x := by rw [List.getElem_append_right (by omega)]; simp
     rw [e]
     unfold World.cells? at g1
     rw [if_pos (Nat.zero_le _)] at g1
     exact mapM_some_get g1 j j (by simp [hj])
 obtain ⟨l, hl, hok, hc⟩ := key len (Nat.le_refl _)
 refine ⟨some a, l, cap, by rw [hl], hok, by omega, h2, ?_⟩
 by_cases h0 : l.length = 0
 ·have : l = [] := List.length_eq_zero_iff.1 h0
  subst this
  exact SlIs.nil _ _ _
 have hlen := flat_len F sz hF l
 refine ⟨hlen, .inr ?_⟩
 obtain ⟨b, o, s⟩ := a
 have hc0 := hc 0 (by omega) 0 hsz
 have hF0 : (F l[0])[0]? = some ((F (l[0]'(by omega)))[0]'(by rw [hF]; exact hsz)) := by rw [List.getElem?_eq_getElem]
 rw [hF0] at hc0
 have ea : Addr.add ⟨b, o, s⟩ 0 = ⟨b, o, s⟩ := rfl
 rw [Nat.zero_mul, ea, ea] at hc0
 have hb : ∃ c t f, Ev.blk w b = some (.cells c t f) ∧ s = none := by
  unfold World.cell? at hc0
  split at hc0
  ·rename_i c t f hh
   refine ⟨c, t, f, hh, ?_⟩
   split at hc0
   ·cases hc0
   ·rename_i hs
    cases s with
    | none => rfl
    | some s => exact absurd (show (some s).isSome = true from rfl) hs
  ·cases hc0
 obtain ⟨c, t', f, hb, rfl⟩ := hb
 refine ⟨b, o, c, t', f, rfl, hb, ?_⟩
 apply List.ext_getElem?
 intro k
 by_cases hk : k < l.length * sz
 ·have hi : k / sz < l.length := Nat.div_lt_of_lt_mul (by rw [Nat.mul_comm]; exact hk)
  have hj : k % sz < sz := Nat.mod_lt _ hsz
  have e : k / sz * sz + k % sz = k := by rw [Nat.mul_comm]; exact Nat.div_add_mod k sz
  have h4 := hc (k / sz) hi (k % sz) hj
  rw [add_mk, add_mk, cell_mk, hb, cellO_some, Nat.add_assoc, e] at h4
  have h5 := flat_cell hF hi hj
  rw [e] at h5
  rw [List.getElem?_take_of_lt hk, List.getElem?_drop, h5, ← h4]
  simp
 ·rw [List.getElem?_eq_none (by rw [List.length_take]; omega), List.getElem?_eq_none (by rw [hlen]; omega)]
end
end Go.Ev
namespace Go.Ev
open Go Go.RowKit
section
def nth {α : Type} : List α → Nat → Option α
 | [], _ => none
 | x :: _, 0 => some x
 | _ :: l, n + 1 => nth l n
theorem nth_eq {α : Type} : ∀ (l : List α) (n : Nat), nth l n = l[n]?
 | [], _ => by simp [nth]
 | _ :: _, 0 => by simp [nth]
 | _ :: l, n + 1 => by simp [nth, nth_eq l n]
def segL {α : Type} : List α → Nat → Nat → Option (List α)
 | _, 0, 0 => some []
 | [], 0, _ + 1 => none
 | x :: l, 0, n + 1 => match segL l 0 n with
  | some r => some (x :: r)
  | none => none
 | [], _ + 1, _ => none
 | _ :: l, o + 1, n => segL l o n
theorem segL_spec {α : Type} : ∀ (l : List α) (o n : Nat) (r : List α), segL l o n = some r → o + n ≤ l.length ∧ (l.drop o).take n = r
 | l, 0, 0, r, h => by cases l <;> (simp [segL] at h; subst h; simp)
 | [], 0, _ + 1, _, h => by simp [segL] at h
 | x :: l, 0, n + 1, r, h => by
  simp only [segL] at h
  split at h
  ·rename_i r' hr
   cases h
   obtain ⟨h1, h2⟩ := segL_spec l 0 n r' hr
   refine ⟨by simp only [List.length_cons]; omega, ?_⟩
   simp only [List.drop_zero] at h2 ⊢
   simp [h2]
  ·cases h
 | [], _ + 1, _, _, h => by simp [segL] at h
 | _ :: l, o + 1, n, r, h => by
  obtain ⟨h1, h2⟩ := segL_spec l o n r (by simpa [segL] using h)
  exact ⟨by simp only [List.length_cons]; omega, by simpa using h2⟩
section
variable {P : Program} {w : World}
theorem kN_at {a : Addr} {K : Prop} (h : K) : kN (.pointer (some a)) K := h
theorem kN_fat {f : FuncId} {x y : Array Value} {K : Prop} (h : K) : kN (.func (.func f) x y) K := h
theorem kN_iat {t : TypeId} {x : Value} {K : Prop} (h : K) : kN (.iface t x) K := h
theorem kO_at {α : Type} {a : α} {K : α → Prop} (h : K a) : kO (some a) K := h
theorem kB_at {b : Bool} {K : Bool → Prop} (h : K b) : kB (.bool b) K := h
theorem kld_at {b o : Nat} {K : Value → Prop} {c : Array Value} {t : TypeId} {f : Nat × Nat} {v : Value} (hb : Ev.blk w b = some (.cells c t f)) (hc : nth c.toList o = some v) (h : K v) : kld (.pointer (some ⟨b, o, none⟩)) w K :=
 kld_of hb (by rw [nth_eq] at hc; simpa using hc) h
theorem kldN_at {n b o : Nat} {K : Value → Prop} {c : Array Value} {t : TypeId} {f : Nat × Nat} {cs : List Value} (hb : Ev.blk w b = some (.cells c t f)) (hc : segL c.toList o n = some cs) (hn : 0 < n) (h : K (.agg cs.toArray)) : kldN n (.pointer (some ⟨b, o, none⟩)) w K := by
 obtain ⟨h1, h2⟩ := segL_spec _ _ _ _ hc
 exact kldN_of hb (by simpa using h1) h2 hn h
theorem kext_at {vs : Array Value} {i : Nat} {v : Value} {K : Value → Prop} (h : nth vs.toList i = some v) (hk : K v) : kext (.tuple vs) i K :=
 kext_of (by rw [nth_eq] at h; simpa using h) hk
theorem kprt_at {vs : Array Value} {i : Nat} {v : Value} {K : Value → Prop} (h : nth vs.toList i = some v) (hk : K v) : kprt (.agg vs) i K := by
 rw [kprt_agg]
 exact kO_of (by rw [nth_eq] at h; simpa using h) hk
theorem kprtN_at {vs : Array Value} {i n : Nat} {cs : List Value} {K : Value → Prop} (h : segL vs.toList i n = some cs) (hk : K (.agg cs.toArray)) : kprtN (.agg vs) i n K := by
 rw [kprtN_agg]
 obtain ⟨h1, h2⟩ := segL_spec _ _ _ _ h
 have : vs.extract i (i + n) = cs.toArray := by
  apply Array.ext'
  rw [← h2]
  simp [List.take_drop]
 rw [this]; exact hk
theorem klen_at {a : Option Addr} {n c : Nat} {K : Value → Prop} (h : K (.int .i64 n)) : klen (.slice a n c) K := h
theorem kcap_at {a : Option Addr} {n c : Nat} {K : Value → Prop} (h : K (.int .i64 c)) : kcap (.slice a n c) K := h
theorem klenStr_at {s : ByteArray} {K : Value → Prop} (h : K (.int .i64 s.size)) : klenStr (.string s) K := h
theorem kIf_T {b : Bool} {X Y : Prop} (h : b = true) (x : X) : kIf b X Y := by subst h; exact x
theorem kIf_F {b : Bool} {X Y : Prop} (h : b = false) (y : Y) : kIf b X Y := by subst h; exact y
theorem decT {p : Prop} [Decidable p] (h : p) : decide p = true := decide_eq_true h
theorem decF {p : Prop} [Decidable p] (h : ¬ p) : decide p = false := decide_eq_false h
theorem notT {b : Bool} (h : b = false) : (!b) = true := by rw [h]; rfl
theorem notF {b : Bool} (h : b = true) : (!b) = false := by rw [h]; rfl
section
variable {k : IntKind} {a b : Int} {K : Value → Prop}
theorem add_at {K : Value → Prop} {a b : Int} (h1 : -9223372036854775808 ≤ a + b) (h2 : a + b ≤ 9223372036854775807) (h : K (.int .i64 (a + b))) : kint .i64 .add (.int .i64 a) (.int .i64 b) K := by
 rw [kint_add, wrap_i64 h1 h2]; exact h
theorem sub_at {K : Value → Prop} {a b : Int} (h1 : -9223372036854775808 ≤ a - b) (h2 : a - b ≤ 9223372036854775807) (h : K (.int .i64 (a - b))) : kint .i64 .sub (.int .i64 a) (.int .i64 b) K := by
 rw [kint_sub, wrap_i64 h1 h2]; exact h
theorem eql_at (h : K (.bool (decide (a = b)))) : kint k .eql (.int k a) (.int k b) K := by rw [kint_eql]; exact h
theorem neq_at (h : K (.bool (decide (a ≠ b)))) : kint k .neq (.int k a) (.int k b) K := by rw [kint_neq]; exact h
theorem lss_at (h : K (.bool (decide (a < b)))) : kint k .lss (.int k a) (.int k b) K := by rw [kint_lss]; exact h
theorem leq_at (h : K (.bool (decide (a ≤ b)))) : kint k .leq (.int k a) (.int k b) K := by rw [kint_leq]; exact h
theorem gtr_at (h : K (.bool (decide (b < a)))) : kint k .gtr (.int k a) (.int k b) K := by rw [kint_gtr]; exact h
theorem geq_at (h : K (.bool (decide (b ≤ a)))) : kint k .geq (.int k a) (.int k b) K := by rw [kint_geq]; exact h
theorem not_at {d : Option TypeDesc} {b : Bool} (h : K (.bool (!b))) : kun .not d (.bool b) K := by rw [kun_not]; exact h
theorem kstr_eql_at {x y : ByteArray} (h : K (.bool (decide (x = y)))) : kstr .eql (.string x) (.string y) K := by rw [kstr_eql]; exact h
end
end
theorem kst1_of {b o : Nat} {v : Value} {w : World} {K : World → Prop} {c : Array Value} {t : TypeId} (hb : Ev.blk w b = some (.cells c t)) (hv : v.cells = #[v]) (h1 : v.oneCell' = true) (hle : o < c.size)
  (h : ∀ w2, Mod (fun k => k = b) w w2 → w2.heap.size = w.heap.size → Ev.blk w2 b = some (.cells (c.setIfInBounds o v) t) → K w2) : kst 1 (.pointer (some ⟨b, o, none⟩)) v w K :=
 kst_of (vs := [v]) hb (congrArg Array.toList hv) rfl (by unfold oneCells; rw [h1]; rfl) hle (by simp) h
open Classical in
noncomputable def maxI (p : Nat → Prop) : Nat → Nat
 | 0 => 0
 | n + 1 => if p (n + 1) then n + 1 else maxI p n
theorem maxI_spec (p : Nat → Prop) : ∀ n, (∃ i, i ≤ n ∧ p i) → p (maxI p n) ∧ maxI p n ≤ n ∧ ∀ i, i ≤ n → p i → i ≤ maxI p n
 | 0, ⟨i, hi, h⟩ => by
  obtain rfl : i = 0 := by omega
  exact ⟨h, Nat.le_refl _, fun j hj _ => hj⟩
 | n + 1, ⟨i, hi, h⟩ => by
  unfold maxI
  by_cases hp : p (n + 1)
  ·rw [if_pos hp]; exact ⟨hp, Nat.le_refl _, fun j hj _ => hj⟩
  ·rw [if_neg hp]
   have hin : i ≤ n := by
    rcases Nat.lt_or_ge i (n + 1) with h1 | h1
    ·omega
    ·have e : i = n + 1 := by omega
     exact absurd (e ▸ h) hp
   obtain ⟨h1, h2, h3⟩ := maxI_spec p n ⟨i, hin, h⟩
   refine ⟨h1, by omega, fun j hj hpj => ?_⟩
   rcases Nat.lt_or_ge j (n + 1) with h4 | h4
   ·exact h3 j (by omega) hpj
   ·have : j = n + 1 := by omega
    subst this; exact absurd hpj hp
noncomputable def lI {σ : Type} (n : Nat) (Inv : Nat → σ → Prop) (s : σ) : Prop := ∃ i, i ≤ n ∧ Inv i s
noncomputable def lM {σ : Type} (n : Nat) (Inv : Nat → σ → Prop) (s : σ) : Nat := n - maxI (fun i => Inv i s) n
theorem lI_0 {σ : Type} {n : Nat} {Inv : Nat → σ → Prop} {s : σ} (h : Inv 0 s) : lI n Inv s := ⟨0, by omega, h⟩
theorem lI_step {σ : Type} {n : Nat} {Inv : Nat → σ → Prop} {s : σ} (hs : lI n Inv s) : ∃ i, i ≤ n ∧ Inv i s ∧ ∀ s', i < n → Inv (i + 1) s' → lI n Inv s' ∧ lM n Inv s' < lM n Inv s := by
 obtain ⟨h1, h2, h3⟩ := maxI_spec (fun i => Inv i s) n hs
 refine ⟨_, h2, h1, fun s' hlt hs' => ?_⟩
 have hex : ∃ i, i ≤ n ∧ Inv i s' := ⟨_, hlt, hs'⟩
 obtain ⟨g1, g2, g3⟩ := maxI_spec (fun i => Inv i s') n hex
 have := g3 _ hlt hs'
 exact ⟨hex, by
  show n - maxI (fun i => Inv i s') n < n - maxI (fun i => Inv i s) n
  omega⟩
def inv1 (Inv : Nat → Value → World → Prop) : Nat → Value × World → Prop := fun i s => Inv i s.1 s.2
def inv2 (Inv : Nat → Value → Value → World → Prop) : Nat → Value × Value × World → Prop := fun i s => Inv i s.1 s.2.1 s.2.2
def inv3 (Inv : Nat → Value → Value → Value → World → Prop) : Nat → Value × Value × Value × World → Prop := fun i s => Inv i s.1 s.2.1 s.2.2.1 s.2.2.2
theorem kL0_of (n : Nat) (Inv : Nat → World → Prop) {F : (World → Prop) → (World → Nat) → Prop} (h : F (lI n Inv) (lM n Inv)) : kL F := ⟨_, _, h⟩
theorem kL1_of (n : Nat) (Inv : Nat → Value → World → Prop) {F : (Value → World → Prop) → (Value → World → Nat) → Prop} (h : F (fun x w => lI n (inv1 Inv) (x, w)) (fun x w => lM n (inv1 Inv) (x, w))) : kL F := ⟨_, _, h⟩
theorem kL2_of (n : Nat) (Inv : Nat → Value → Value → World → Prop) {F : (Value → Value → World → Prop) → (Value → Value → World → Nat) → Prop} (h : F (fun x y w => lI n (inv2 Inv) (x, y, w)) (fun x y w => lM n (inv2 Inv) (x, y, w))) : kL F := ⟨_, _, h⟩
theorem kL3_of (n : Nat) (Inv : Nat → Value → Value → Value → World → Prop) {F : (Value → Value → Value → World → Prop) → (Value → Value → Value → World → Nat) → Prop} (h : F (fun x y z w => lI n (inv3 Inv) (x, y, z, w)) (fun x y z w => lM n (inv3 Inv) (x, y, z, w))) : kL F := ⟨_, _, h⟩
theorem lI1_0 {n : Nat} {Inv : Nat → Value → World → Prop} {x : Value} {w : World} (h : Inv 0 x w) : lI n (inv1 Inv) (x, w) := lI_0 (Inv := inv1 Inv) h
theorem lI2_0 {n : Nat} {Inv : Nat → Value → Value → World → Prop} {x y : Value} {w : World} (h : Inv 0 x y w) : lI n (inv2 Inv) (x, y, w) := lI_0 (Inv := inv2 Inv) h
theorem lI3_0 {n : Nat} {Inv : Nat → Value → Value → Value → World → Prop} {x y z : Value} {w : World} (h : Inv 0 x y z w) : lI n (inv3 Inv) (x, y, z, w) := lI_0 (Inv := inv3 Inv) h
theorem lI1_step {n : Nat} {Inv : Nat → Value → World → Prop} {x : Value} {w : World} (hs : lI n (inv1 Inv) (x, w)) : ∃ i, i ≤ n ∧ Inv i x w ∧ ∀ x' w', i < n → Inv (i + 1) x' w' → lI n (inv1 Inv) (x', w') ∧ lM n (inv1 Inv) (x', w') < lM n (inv1 Inv) (x, w) := by
 obtain ⟨i, h1, h2, h3⟩ := lI_step hs
 exact ⟨i, h1, h2, fun x' w' hlt h => h3 (x', w') hlt h⟩
theorem lI2_step {n : Nat} {Inv : Nat → Value → Value → World → Prop} {x y : Value} {w : World} (hs : lI n (inv2 Inv) (x, y, w)) : ∃ i, i ≤ n ∧ Inv i x y w ∧ ∀ x' y' w', i < n → Inv (i + 1) x' y' w' → lI n (inv2 Inv) (x', y', w') ∧ lM n (inv2 Inv) (x', y', w') < lM n (inv2 Inv) (x, y, w) := by
 obtain ⟨i, h1, h2, h3⟩ := lI_step hs
 exact ⟨i, h1, h2, fun x' y' w' hlt h => h3 (x', y', w') hlt h⟩
theorem lI3_step {n : Nat} {Inv : Nat → Value → Value → Value → World → Prop} {x y z : Value} {w : World} (hs : lI n (inv3 Inv) (x, y, z, w)) : ∃ i, i ≤ n ∧ Inv i x y z w ∧ ∀ x' y' z' w', i < n → Inv (i + 1) x' y' z' w' → lI n (inv3 Inv) (x', y', z', w') ∧ lM n (inv3 Inv) (x', y', z', w') < lM n (inv3 Inv) (x, y, z, w) := by
 obtain ⟨i, h1, h2, h3⟩ := lI_step hs
 exact ⟨i, h1, h2, fun x' y' z' w' hlt h => h3 (x', y', z', w') hlt h⟩
theorem cast_succ (i : Nat) : (i : Int) + 1 = ((i + 1 : Nat) : Int) := by omega
end
end Go.Ev
namespace Go.Proofs.YtenokhokboicnaaGreatDoor
open Go Go.Ev Go.RowKit Go.ChangeShapes
section
theorem own : ownKnob Tryz.prog.godebug = none := by kernel_rfl
theorem laidOut : laidOutB Tryz.prog = true := by kernel_rfl
theorem star : "*" ++ "errors.errorString" = "*errors.errorString" := by decide
theorem rowSen (u : TypeId) (h : Tryz.prog.typeName? 3 u = some "*errors.errorString") : u = 423 :=
 typeName_ptr_named (nm := "errors.errorString") (by rw [star]; kernel_rfl) (by kernel_rfl) (by decide) u (by rw [star]; exact h)
theorem cSen : Tryz.prog.cellsOf 446 = 1 := by kernel_rfl
theorem cStr : Tryz.prog.cellsOf 9 = 1 := by kernel_rfl
theorem c3 : Tryz.prog.cellsOf 3 = 1 := by kernel_rfl
theorem i64_wf {n : Int} (h : (Lit.int .i64 n).wf = true) : -9223372036854775808 ≤ n ∧ n ≤ 9223372036854775807 := by
 simp [Lit.wf, IntKind.min, IntKind.max, IntKind.signed, IntKind.bits] at h
 exact h
theorem u32_wf {n : Int} (h : (Lit.int .u32 n).wf = true) : 0 ≤ n ∧ n < 4294967296 := by
 simp [Lit.wf, IntKind.min, IntKind.max, IntKind.signed, IntKind.bits] at h
 omega
def sentOf : String × DataW Unit → String × List UInt8
 | (n, .iface _ (.ptr (.agg [.lit (.string s)]))) => (n, s)
 | (n, _) => (n, [])
def isSent : String × DataW Unit → Bool
 | (_, .iface _ (.ptr (.agg [.lit (.string _)]))) => true
 | _ => false
def errG : Nat → String
 | 1 => "pasodoble/api.ErrArg" | 2 => "pasodoble/api.ErrNil" | 3 => "pasodoble/api.ErrForm" | 4 => "pasodoble/api.ErrLong" | 5 => "pasodoble/api.ErrSum" | 6 => "pasodoble/api.ErrFull" | 7 => "pasodoble/api.ErrNone" | 8 => "pasodoble/api.ErrState" | 9 => "pasodoble/api.ErrTwice"
 | 10 => "pasodoble/api.ErrName" | 11 => "pasodoble/api.ErrCycle" | 12 => "pasodoble/api.ErrStack" | 13 => "pasodoble/api.ErrJump" | 14 => "pasodoble/api.ErrOp" | 15 => "pasodoble/api.ErrFuel" | 16 => "pasodoble/api.ErrRange" | 17 => "pasodoble/api.ErrDead" | _ => "pasodoble/api.ErrWord"
theorem laidP_ofG {W : World} {L : List (String × DataW Unit)} (ks : List Nat) (sl : List (String × List UInt8)) (hpl : (L.all fun x => x.2.handleName?.isNone) = true) (hs : L.filter isSent = sl.map (sentD "*errors.errorString")) (hn : sl.map (·.1) = ks.map errG)
  (hk : ∀ k ∈ ks, Tryz.prog.globalNamed (errG k) = some (gErr k) ∧ (Tryz.prog.globals[gErr k]?).map (·.type) = some 33) (hnd : ks.Nodup) (h : laidMetH Tryz.prog L W) : ∃ S, LaidP (· ∈ ks) S W := by
 rw [MakeChecks.laidMetH_plain _ _ _ hpl] at h
 obtain ⟨ps, hv, hps, hrows⟩ := laidMet.filter isSent h
 rw [hs] at hv
 have hlen : sl.length = ks.length := by
  have := congrArg List.length hn
  simpa using this
 have hat : ∀ i (hi : i < ks.length), ∃ t, sl[i]? = some (errG ks[i], t) := by
  intro i hi
  have hi' : i < sl.length := by omega
  have e := congrArg (fun l : List String => l[i]?) hn
  simp only [List.getElem?_map, List.getElem?_eq_getElem hi, List.getElem?_eq_getElem hi', Option.map_some, Option.some.injEq] at e
  exact ⟨sl[i].2, by rw [List.getElem?_eq_getElem hi', ← e]⟩
 obtain ⟨zs, h1, h2, h3⟩ := sent_list Tryz.underlying33 rowSen Tryz.underlying423 Tryz.underlying446 rfl rfl Tryz.underlying9 cSen cStr sl ps hv
  (fun x hx => by
   obtain ⟨i, hi, rfl⟩ := List.mem_iff_getElem.1 hx
   obtain ⟨t, e1⟩ := hat i (by omega)
   rw [List.getElem?_eq_getElem hi, Option.some.injEq] at e1
   rw [e1]
   exact ⟨_, hk _ (List.getElem_mem (show i < ks.length by omega))⟩) hrows
 have key : ∀ k ∈ ks, ∃ i a, i < ks.length ∧ ks[i]? = some k ∧ ks.idxOf k = i ∧ zs[i]? = some a ∧ W.var? Tryz.prog (errG k) = some #[.iface 423 (.pointer (some a))] ∧ ∃ c t, W.heap[a.block]? = some (.cells c t (0, 0)) := by
  intro k hkm
  have hi : ks.idxOf k < ks.length := List.idxOf_lt_length_of_mem hkm
  obtain ⟨t, e1⟩ := hat _ hi
  rw [List.getElem_idxOf hi] at e1
  obtain ⟨a, s, g1, g2, _, _, _, g3⟩ := h3 _ _ e1
  exact ⟨_, a, hi, by rw [List.getElem?_eq_getElem hi, List.getElem_idxOf hi], rfl, g1, g2, g3⟩
 refine ⟨fun k => (zs[ks.idxOf k]?).getD ⟨0, 0, none⟩, ?_, ?_, ?_⟩
 ·intro k hkm
  obtain ⟨i, a, hi, hik, e, g1, g2, _⟩ := key k hkm
  obtain ⟨t, f, hb⟩ := blk_of_var (hk k hkm).1 g2
  refine ⟨_, t, f, hb, ?_⟩
  simp [errV, e, g1]
 ·intro j k hj hkm hne
  obtain ⟨i, a, hi, hik, e, g1, _⟩ := key j hj
  obtain ⟨i', b, hi', hik', e', g1', _⟩ := key k hkm
  simp only [e, e', g1, g1', Option.getD_some]
  refine sent_ne h2 hps g1 g1' ?_
  rintro rfl
  rw [hik] at hik'
  exact hne (Option.some.inj hik')
 ·intro k hkm
  obtain ⟨i, a, hi, hik, e, g1, _, c, t, g2⟩ := key k hkm
  simp only [e, g1, Option.getD_some]
  exact ⟨c, t, g2⟩
theorem laidD_of {W : World} {L : List (String × DataW Unit)} (hpl : (L.all fun x => x.2.handleName?.isNone) = true) (keep : String × DataW Unit → Bool) (n : String) (d : DataW Unit) (hs : L.filter keep = [(n, d)]) (h : laidMetH Tryz.prog L W) :
  ∃ g t cs f p, Tryz.prog.globalNamed n = some g ∧ (Tryz.prog.globals[g]?).map (·.type) = some t ∧ W.var? Tryz.prog n = some cs ∧ DataW.trod (fun _ => ()) Tryz.prog W 0 (fun _ => true) false f t cs.toList = some (d, p) := by
 rw [MakeChecks.laidMetH_plain _ _ _ hpl] at h
 obtain ⟨ps, hv, _, _⟩ := laidMet.filter keep h
 rw [hs] at hv
 obtain ⟨g, t, cs, f, p, q, h1, h2, h3, h4, _⟩ := hv
 exact ⟨g, t, cs, f, p, h1, h2, h3, h4⟩
end
end Go.Proofs.YtenokhokboicnaaGreatDoor
namespace Go.Ev
open Go Go.RowKit
section
def sl1 (P : Program) (t : TypeId) : Bool := match P.underlying t with
 | some (.slice e) => (P.info? e).map (·.size) == some 1
 | _ => false
theorem mem_take_ones {us : List Value} {n : Nat} (h1 : oneCells us = true) : ∀ v ∈ us.take n, v.oneCell' = true := by
 intro v hv
 replace hv := List.mem_of_mem_take hv
 clear n
 induction us with
 | nil => cases hv
 | cons u r ih =>
  simp only [oneCells, Bool.and_eq_true] at h1
  rcases List.mem_cons.1 hv with rfl | hv
  ·exact h1.1
  ·exact ih h1.2 hv
theorem ksem_copy {P : Program} {w : World} {t tx ty : TypeId} {K : Value → World → Prop} (ht : sl1 P t = true) {b o nd cd : Nat} {c : Array Value} {tt : TypeId} (hb : blk w b = some (.cells c tt)) {a : Option Addr} {n cs : Nat} {us : List Value} (hs : SlIs w a n 1 us) (h1 : oneCells us = true)
  (hle : o + min n nd ≤ c.size)
  (h : ∀ w2, Mod (fun k => k = b) w w2 → w2.heap.size = w.heap.size → blk w2 b = some (.cells (setAll (us.take (min n nd)) c o) tt) → K (.int .i64 ((min n nd : Nat) : Int)) w2) :
  ksem P (Builtin.copy_ #[t, tx] ty #[.slice (some ⟨b, o, none⟩) nd cd, .slice a n cs]) w K := by
 unfold sl1 at ht
 split at ht <;> try cases ht
 rename_i e hu
 have hsz : (P.info? e).map (·.size) = some 1 := by simpa using ht
 have hlen : us.length = n := by simpa using hs.1
 by_cases h0 : min n nd = 0
 ·have hr : (Builtin.copy_ #[t, tx] ty #[.slice (some ⟨b, o, none⟩) nd cd, .slice a n cs]).run P w = .ok (goInt 0) w := run_copy_none w t tx ty e (some ⟨b, o, none⟩) a nd cd n cs hu hsz h0
  rw [ksem_ok hr]
  have := h w (Mod.refl _ _) rfl (by rw [h0, List.take_zero]; exact hb)
  rw [h0] at this
  exact this
 ·rcases hs.2 with hn | ⟨b2, o2, c2, t2, f2, rfl, hb2, hc2⟩
  ·subst hn; simp at h0
  ·have hr := run_copy_cells (P := P) w t tx ty e b o nd cd ⟨b2, o2, none⟩ n cs (us.take (min n nd)) hu hsz (by rw [List.length_take, hlen]; exact Nat.min_eq_left (Nat.min_le_left _ _))
    (fun j v hj => by
     have hjl : j < min n nd := by
      have := (List.getElem?_eq_some_iff.1 hj).1
      simp only [List.length_take] at this; omega
     rw [add_mk, cell_mk, hb2, cellO_some]
     rw [List.getElem?_take_of_lt hjl, ← hc2] at hj
     have hjn : j < n * 1 := by omega
     rw [List.getElem?_take_of_lt hjn, List.getElem?_drop] at hj
     simpa using hj)
    (fun j hj => by
     have : j < min n nd := by simp only [List.length_take] at hj; omega
     rw [cell_mk, hb, cellO_some]; simp; omega)
    (fun j hj => by simp [World.frozen?, show w.heap[b]? = _ from hb]) (mem_take_ones h1)
   rw [ksem_ok hr, setCells_blk _ _ _ _ hb]
   have e1 : (us.take (min n nd)).length = min n nd := by rw [List.length_take, hlen]; exact Nat.min_eq_left (Nat.min_le_left _ _)
   rw [e1]
   exact h _ ((Mod.refl _ _).setBlk _ (.inl rfl)) (setBlk_size _ _ _) (by rw [setBlk_heap, if_pos rfl, hb]; rfl)
def ents (k : IntKind) : Nat → List (Int × Value) → List MapEntry
 | _, [] => []
 | i, (n, v) :: r => { key := .int k n, val := v, born := i } :: ents k (i + 1) r
def lkI (n : Int) : List (Int × Value) → Option (Nat × Value)
 | [] => none
 | (m, v) :: r => if n = m then some (0, v) else (lkI n r).map fun x => (x.1 + 1, x.2)
def MapIs (w : World) (b : Nat) (k : IntKind) (kv : List (Int × Value)) : Prop := blk w b = some (.map (ents k 0 kv).toArray kv.length)
theorem ents_append (k : IntKind) : ∀ (i : Nat) (kv : List (Int × Value)) (x : Int × Value), ents k i (kv ++ [x]) = ents k i kv ++ [{ key := .int k x.1, val := x.2, born := i + kv.length }]
 | i, [], x => by simp [ents]
 | i, (n, v) :: r, x => by simp [ents, ents_append k (i + 1) r x]; omega
theorem findNow_ents (k : IntKind) (n : Int) : ∀ (i j : Nat) (kv : List (Int × Value)), Instr.findNow (.int k) (.int k n) (ents k i kv) j = some ((lkI n kv).map fun x => (j + x.1, x.2))
 | _, _, [] => by simp [ents, Instr.findNow, lkI]
 | i, j, (m, v) :: r => by
  simp only [ents, Instr.findNow, Instr.sameNow, if_true, lkI]
  by_cases h : n = m
  ·subst h; simp
  ·have hb : (n == m) = false := by simpa using h
   rw [hb]
   simp only [h, if_false]
   rw [findNow_ents k n (i + 1) (j + 1) r]
   cases lkI n r with
   | none => simp
   | some x => simp; omega
theorem run_checkKey_int {P : Program} {w : World} {t : TypeId} {k : IntKind} (hk : P.underlying t = some (.int k)) (e : Bool) (n : Int) : (Instr.checkKey e 10000 t (.int k n)).run P w = .ok () w := by
 rw [Instr.checkKey]
 simp [run_underlying hk]
theorem run_lookup_int {P : Program} {w : World} {t kt vt : TypeId} {k : IntKind} {z : Value} (ht : P.underlying t = some (.map kt vt)) (hk : P.underlying kt = some (.int k)) (hz : zeroO P vt = some z) {b : Nat} {kv : List (Int × Value)} (hm : MapIs w b k kv) (n : Int) (ok : Bool) :
  (Instr.lookup t (.map (some b)) (.int k n) ok).run P w = .ok (match lkI n kv with | some (_, v) => if ok then .tuple #[v, .bool true] else v | none => if ok then .tuple #[z, .bool false] else z) w := by
 have hh : w.heap[b]? = some (.map (ents k 0 kv).toArray kv.length) := hm
 simp only [Instr.lookup, Sem.run_bind, run_underlying ht, Result.andThen_ok, getObj, Sem.run, hh, Result.andThen, run_checkKey_int hk, Instr.findKey, run_underlying hk, Sem.run_pure, findNow_ents]
 cases lkI n kv with
 | none => cases ok <;> simp [Sem.run, run_zero' hz]
 | some x => cases ok <;> simp [Sem.run]
theorem run_mapUpdate_new {P : Program} {w : World} {t kt vt : TypeId} {k : IntKind} (ht : P.underlying t = some (.map kt vt)) (hk : P.underlying kt = some (.int k)) {b : Nat} {kv : List (Int × Value)} (hm : MapIs w b k kv) (n : Int) (v : Value) (hn : lkI n kv = none) :
  (Instr.mapUpdate t (.map (some b)) (.int k n) v).run P w = .ok () (World.setBlk w b (.map (ents k 0 (kv ++ [(n, v)])).toArray (kv ++ [(n, v)]).length)) := by
 have hh : w.heap[b]? = some (.map (ents k 0 kv).toArray kv.length) := hm
 simp only [Instr.mapUpdate, Sem.run_bind, run_underlying ht, Result.andThen_ok, getObj, Sem.run, hh, Result.andThen, run_checkKey_int hk, Instr.findKey, run_underlying hk, Sem.run_pure, findNow_ents, hn, Option.map_none, setObj]
 rw [ents_append]
 simp [World.setBlk]
theorem MapIs.mod {fp : Nat → Prop} {w w' : World} {b : Nat} {k : IntKind} {kv : List (Int × Value)} (h : MapIs w b k kv) (hm : Mod fp w w') (hf : ¬ fp b) : MapIs w' b k kv := hm.get h hf
theorem MapIs.same {w w' : World} {b : Nat} {k : IntKind} {kv : List (Int × Value)} (h : MapIs w b k kv) (hm : Same w w') : MapIs w' b k kv := hm.get h fun h => h
section
variable {P : Program} {w : World} {K : Value → World → Prop}
theorem kmap_of (h : ∀ w2, Same w w2 → w2.heap.size = w.heap.size + 1 → (∀ k, MapIs w2 w.heap.size k []) → K (.map (some w.heap.size)) w2) : kmap w K :=
 h _ ((Mod.refl _ _).alloc _) (by simp) (fun k => alloc_heap_new _ _)
theorem klook_of {t kt vt : TypeId} {k : IntKind} {z : Value} (ht : P.underlying t = some (.map kt vt)) (hk : P.underlying kt = some (.int k)) (hz : zeroO P vt = some z) {b : Nat} {kv : List (Int × Value)} (hm : MapIs w b k kv) {n : Int} {r : Option (Nat × Value)} (hr : lkI n kv = r)
  (h : K (match r with | some (_, v) => v | none => z) w) : ksem P (Instr.lookup t (.map (some b)) (.int k n) false) w K := by
 rw [ksem_ok (run_lookup_int ht hk hz hm n false), hr]
 cases r with
 | none => exact h
 | some x => exact h
theorem klookOk_of {t kt vt : TypeId} {k : IntKind} {z : Value} (ht : P.underlying t = some (.map kt vt)) (hk : P.underlying kt = some (.int k)) (hz : zeroO P vt = some z) {b : Nat} {kv : List (Int × Value)} (hm : MapIs w b k kv) {n : Int} {r : Option (Nat × Value)} (hr : lkI n kv = r)
  (h : K (match r with | some (_, v) => .tuple #[v, .bool true] | none => .tuple #[z, .bool false]) w) : ksem P (Instr.lookup t (.map (some b)) (.int k n) true) w K := by
 rw [ksem_ok (run_lookup_int ht hk hz hm n true), hr]
 cases r with
 | none => exact h
 | some x => exact h
theorem kmapUp_of {K : Value → World → Prop} {t kt vt : TypeId} {k : IntKind} (ht : P.underlying t = some (.map kt vt)) (hk : P.underlying kt = some (.int k)) {b : Nat} {kv : List (Int × Value)} (hm : MapIs w b k kv) {n : Int} {v : Value} (hn : lkI n kv = none)
  (h : ∀ w2, Mod (fun j => j = b) w w2 → w2.heap.size = w.heap.size → MapIs w2 b k (kv ++ [(n, v)]) → K undef w2) : ksemU P (Instr.mapUpdate t (.map (some b)) (.int k n) v) w K := by
 rw [ksemU_ok (run_mapUpdate_new ht hk hm n v hn)]
 refine h _ ((Mod.refl _ _).setBlk _ (.inl rfl)) (setBlk_size _ _ _) ?_
 unfold MapIs
 rw [setBlk_heap, if_pos rfl, show blk w b = _ from hm]; rfl
end
theorem Own.view {w : World} {v : Value} {sz : Nat} {vs : List Value} (h : Own w v sz vs) (hne : vs ≠ []) : ∃ bc n cp arr t, v = .slice (some ⟨bc, 0, none⟩) n cp ∧ Ev.blk w bc = some (.cells arr t) ∧ vs.length = n * sz ∧ arr.size = cp * sz ∧ n ≤ cp ∧ cp ≤ maxLen ∧ arr.toList.take (n * sz) = vs := by
 obtain ⟨a, n, c, rfl, h1, h2, h3, h4⟩ := h
 rcases h4 with ⟨rfl, h4⟩ | ⟨b, arr, t, rfl, hb, hs, h5⟩
 ·obtain rfl : n = 0 := by omega
  rw [Nat.zero_mul] at h1
  exact absurd (List.eq_nil_of_length_eq_zero h1) hne
 ·exact ⟨b, n, c, arr, t, rfl, hb, h1, hs, h2, h3, h5⟩
theorem Own.put {w w' : World} {bc n cp : Nat} {vs us : List Value} {arr : Array Value} {t : TypeId} {sz j : Nat} (h : Own w (.slice (some ⟨bc, 0, none⟩) n cp) sz vs) (hb : Ev.blk w bc = some (.cells arr t)) (hb' : Ev.blk w' bc = some (.cells (setAll us arr j) t)) (hj : j + us.length ≤ vs.length) :
  Own w' (.slice (some ⟨bc, 0, none⟩) n cp) sz (vs.take j ++ us ++ vs.drop (j + us.length)) := by
 obtain ⟨a, n', c', e, h1, h2, h3, h4⟩ := h
 cases e
 rcases h4 with ⟨h4, _⟩ | ⟨b, arr0, t0, e, hb0, hs, h5⟩
 ·cases h4
 ·cases e
  rw [hb] at hb0
  cases hb0
  have hN : n * sz ≤ arr.toList.length := by
   have := congrArg List.length h5
   rw [List.length_take, h1] at this
   omega
  refine ⟨_, n, cp, rfl, ?_, h2, h3, .inr ⟨_, _, t, rfl, hb', by rw [setAll_size]; exact hs, ?_⟩⟩
  ·simp only [List.length_append, List.length_take, List.length_drop]; omega
  ·rw [setAll_list _ _ _ (by simp at hN ⊢; omega)]
   have e1 : vs.take j = arr.toList.take j := by rw [← h5, List.take_take, Nat.min_eq_left (by omega)]
   have e2 : vs.drop (j + us.length) = (arr.toList.drop (j + us.length)).take (n * sz - (j + us.length)) := by rw [← h5, List.drop_take]
   rw [e1, e2, List.append_assoc, List.append_assoc, List.take_append, List.take_append]
   have l1 : (arr.toList.take j).length = j := by rw [List.length_take]; omega
   rw [l1, List.take_of_length_le (by omega : (arr.toList.take j).length ≤ n * sz), List.take_of_length_le (by omega : us.length ≤ n * sz - j)]
   rw [show n * sz - j - us.length = n * sz - (j + us.length) by omega]
theorem Own.cutN {w : World} {a : Option Addr} {n c sz : Nat} {vs : List Value} (h : Own w (.slice a n c) sz vs) {k : Nat} (hk : k ≤ n) : Own w (.slice a k c) sz (vs.take (k * sz)) := by
 obtain ⟨a', n', c', e, h1, h2, h3, h4⟩ := h
 cases e
 have hle : k * sz ≤ n * sz := Nat.mul_le_mul_right _ hk
 refine ⟨a, k, c, rfl, by rw [List.length_take, h1]; omega, by omega, h3, h4.imp id ?_⟩
 rintro ⟨b, arr, t, ha, hb, hs, ht⟩
 refine ⟨b, arr, t, ha, hb, hs, ?_⟩
 rw [← ht, List.take_take, Nat.min_eq_left hle]
theorem flat_set {α : Type} {F : α → List Value} {sz : Nat} (hF : ∀ x, (F x).length = sz) : ∀ (l : List α) (i : Nat) (x : α), i < l.length → (l.set i x).flatMap F = (l.flatMap F).take (i * sz) ++ F x ++ (l.flatMap F).drop (i * sz + sz)
 | y :: l, 0, x, _ => by
  simp only [List.set_cons_zero, List.flatMap_cons, Nat.zero_mul, List.take_zero, List.nil_append, Nat.zero_add]
  rw [← hF y, List.drop_left]
 | y :: l, i + 1, x, h => by
  have ih := flat_set hF l i x (by simpa using h)
  have e1 : (i + 1) * sz = (F y).length + i * sz := by rw [hF, Nat.add_mul]; omega
  rw [List.set_cons_succ, List.flatMap_cons, ih, List.flatMap_cons, e1, List.take_length_add_append, Nat.add_assoc, List.drop_length_add_append]
  simp
theorem ksl_arr_all {b o l sz : Nat} {e : TypeId} {K : Value → Prop} (hK : K (.slice (some ⟨b, o, none⟩) l l)) : ksl (some (.array l e)) (some sz) (.pointer (some ⟨b, o, none⟩)) none none K := by
 rw [ksl_array rfl rfl]
 refine kG_of (by simp only [loV_none, hiV_none]; omega) ?_
 have e1 : (if l = (loV none).toNat then (⟨b, o, none⟩ : Addr) else Addr.add ⟨b, o, none⟩ ((loV none).toNat * sz)) = ⟨b, o, none⟩ := by
  split
  ·rfl
  ·simp
 rw [e1]
 simpa using hK
theorem ksl_arr_lo {b o l n sz : Nat} {e : TypeId} {k : IntKind} {K : Value → Prop} (h : n ≤ l) (hK : K (.slice (some ⟨b, if l = n then o else o + n * sz, none⟩) (l - n) (l - n))) : ksl (some (.array l e)) (some sz) (.pointer (some ⟨b, o, none⟩)) (some (.int k n)) none K := by
 rw [ksl_array rfl rfl]
 refine kG_of (by simp only [loV_int, hiV_none]; omega) ?_
 have e1 : (if l = (loV (some (.int k n))).toNat then (⟨b, o, none⟩ : Addr) else Addr.add ⟨b, o, none⟩ ((loV (some (.int k n))).toNat * sz)) = ⟨b, if l = n then o else o + n * sz, none⟩ := by
  have e0 : (loV (some (Value.int k (n : Int)))).toNat = n := by simp
  by_cases h0 : l = n
  ·rw [if_pos (by rw [e0]; exact h0), if_pos h0]
  ·rw [if_neg (by rw [e0]; exact h0), if_neg h0, add_mk, e0]
 rw [e1]
 simpa using hK
theorem ksl_sl_hi {b o l c m sz : Nat} {e : TypeId} {k : IntKind} {K : Value → Prop} (h : m ≤ c) (hK : K (.slice (some ⟨b, o, none⟩) m c)) : ksl (some (.slice e)) (some sz) (.slice (some ⟨b, o, none⟩) l c) none (some (.int k m)) K := by
 rw [ksl_slice rfl rfl]
 refine kG_of (by simp only [loV_none, hiV_int]; omega) ?_
 have e1 : (if c = (loV none).toNat then (some ⟨b, o, none⟩ : Option Addr) else (some ⟨b, o, none⟩ : Option Addr).map (·.add ((loV none).toNat * sz))) = some ⟨b, o, none⟩ := by
  split
  ·rfl
  ·simp
 rw [e1]
 simpa using hK
theorem Own.set1 {w w' : World} {bc n cp : Nat} {vs : List Value} {v : Value} {arr : Array Value} {t : TypeId} {sz j : Nat} (h : Own w (.slice (some ⟨bc, 0, none⟩) n cp) sz vs) (hb : Ev.blk w bc = some (.cells arr t)) (hb' : Ev.blk w' bc = some (.cells (setAll [v] arr j) t)) (hj : j < vs.length) :
  Own w' (.slice (some ⟨bc, 0, none⟩) n cp) sz (vs.set j v) := by
 have := h.put hb hb' (by simp; omega)
 rw [List.set_eq_take_append_cons_drop, if_pos hj]
 rw [List.append_assoc] at this
 exact this
theorem Own.setF {α : Type} {F : α → List Value} {sz : Nat} (hF : ∀ x, (F x).length = sz) {w w' : World} {bc n cp : Nat} {l : List α} {x : α} {arr : Array Value} {t : TypeId} {i : Nat} (h : Own w (.slice (some ⟨bc, 0, none⟩) n cp) sz (l.flatMap F)) (hb : Ev.blk w bc = some (.cells arr t)) (hb' : Ev.blk w' bc = some (.cells (setAll (F x) arr (i * sz)) t)) (hi : i < l.length) :
  Own w' (.slice (some ⟨bc, 0, none⟩) n cp) sz ((l.set i x).flatMap F) := by
 have h1 : (i + 1) * sz ≤ l.length * sz := Nat.mul_le_mul_right _ hi
 rw [Nat.add_mul, Nat.one_mul] at h1
 have := h.put hb hb' (by rw [flat_len F sz hF, hF]; exact h1)
 rw [flat_set hF l i x hi]
 rw [hF] at this
 exact this
theorem Own.viewF {α : Type} {F : α → List Value} {sz : Nat} (hF : ∀ x, (F x).length = sz) (hs : 0 < sz) {w : World} {v : Value} {l : List α} (h : Own w v sz (l.flatMap F)) (hne : 0 < l.length) :
  ∃ bc cp arr t, v = .slice (some ⟨bc, 0, none⟩) l.length cp ∧ Ev.blk w bc = some (.cells arr t) ∧ l.length ≤ cp ∧ l.length * sz ≤ arr.size ∧ ∀ i (hi : i < l.length), segL arr.toList (i * sz) sz = some (F l[i]) := by
 have hl := flat_len F sz hF l
 have hp : 1 * 1 ≤ l.length * sz := Nat.mul_le_mul hne hs
 obtain ⟨bc, n, cp, arr, t, rfl, hb, h1, h2, h3, _, h5⟩ := h.view (by intro e; rw [e] at hl; simp at hl; omega)
 have hn : n = l.length := Nat.eq_of_mul_eq_mul_right hs (by omega)
 subst hn
 refine ⟨bc, cp, arr, t, rfl, hb, h3, by rw [h2]; exact Nat.mul_le_mul_right _ h3, fun i hi => ?_⟩
 have hg := flat_get F sz hF l i hi
 have h6 : (i + 1) * sz ≤ l.length * sz := Nat.mul_le_mul_right _ hi
 rw [Nat.add_mul, Nat.one_mul] at h6
 rw [← h5, List.drop_take, List.take_take, Nat.min_eq_left (by omega)] at hg
 have hsz : l.length * sz ≤ arr.toList.length := by
  have := congrArg List.length h5
  rw [List.length_take, hl] at this; omega
 rw [← hg]
 generalize arr.toList = L at *
 clear hg h5 hb h h2
 have : ∀ (o n : Nat) (L : List Value), o + n ≤ L.length → segL L o n = some ((L.drop o).take n) := by
  intro o
  induction o with
  | zero =>
   intro n
   induction n with
   | zero => intro L _; cases L <;> simp [segL]
   | succ n ih =>
    intro L h
    cases L with
    | nil => simp at h
    | cons x L =>
     have := ih L (by simp at h; omega)
     simp only [List.drop_zero] at this
     simp [segL, this]
  | succ o ih =>
   intro n L h
   cases L with
   | nil => simp at h
   | cons x L =>
    rw [segL]
    exact ih n L (by simp at h; omega)
 exact this _ _ _ (by omega)
theorem flat_one {α : Type} (f : α → Value) : ∀ l : List α, l.map f = l.flatMap fun x => [f x]
 | [] => rfl
 | x :: l => by rw [List.map_cons, List.flatMap_cons, flat_one f l]; rfl
theorem Own.viewM {α : Type} {f : α → Value} {w : World} {v : Value} {l : List α} (h : Own w v 1 (l.map f)) (hne : 0 < l.length) :
  ∃ bc cp arr t, v = .slice (some ⟨bc, 0, none⟩) l.length cp ∧ Ev.blk w bc = some (.cells arr t) ∧ l.length ≤ cp ∧ l.length ≤ arr.size ∧ ∀ i (hi : i < l.length), arr[i]? = some (f l[i]) := by
 have e := flat_one f l
 obtain ⟨bc, cp, arr, t, h1, h2, h3, h4, h5⟩ := Own.viewF (F := fun x => [f x]) (sz := 1) (fun _ => rfl) (by omega) (e ▸ h) hne
 refine ⟨bc, cp, arr, t, h1, h2, h3, by omega, fun i hi => ?_⟩
 obtain ⟨g1, g2⟩ := segL_spec _ _ _ _ (h5 i hi)
 have := congrArg (fun l : List Value => l[0]?) g2
 simpa [List.getElem?_take, List.getElem?_drop] using this
end
end Go.Ev
namespace Go.Proofs.YtenokhokboicnaaGreatDoor
open Go Go.Ev
section
abbrev Leaf := List ByteArray × Nat
def ErrIs (S : Nat → Addr) (w : World) : Nat → Value → List Leaf → Prop
 | 0, v, ls => ∃ k, 1 ≤ k ∧ k ≤ 18 ∧ v = errV S k ∧ ls = [([], k)]
 | d + 1, v, ls => ErrIs S w d v ls ∨
   (∃ b wh u ls' t f, v = .iface 141 (.pointer (some ⟨b, 0, none⟩)) ∧ blk w b = some (.cells #[.string wh, u] t f) ∧ ErrIs S w d u ls' ∧ ls = ls'.map (fun l => (wh :: l.1, l.2))) ∨
   (∃ (b : Nat) (a : Option Addr) (n c : Nat) (zs : List (Value × List Leaf)) (t : TypeId) (f : Nat × Nat), v = .iface 138 (.pointer (some ⟨b, 0, none⟩)) ∧ blk w b = some (.cells #[.slice a n c] t f) ∧ SlIs w a n 1 (zs.map (·.1)) ∧ zs ≠ [] ∧
    (∀ p ∈ zs, ErrIs S w d p.1 p.2) ∧ ls = zs.flatMap (·.2))
theorem ErrIs.same {S : Nat → Addr} {w w' : World} (hm : Same w w') : ∀ {d : Nat} {v : Value} {ls : List Leaf}, ErrIs S w d v ls → ErrIs S w' d v ls
 | 0, _, _, h => h
 | d + 1, v, ls, h => by
  rcases h with h | ⟨b, wh, u, ls', t, f, h1, h2, h3, h4⟩ | ⟨b, a, n, c, zs, t, f, h1, h2, h3, h4, h5, h6⟩
  ·exact .inl (h.same hm)
  ·exact .inr (.inl ⟨b, wh, u, ls', t, f, h1, hm.get h2 (fun h => h), h3.same hm, h4⟩)
  ·exact .inr (.inr ⟨b, a, n, c, zs, t, f, h1, hm.get h2 (fun h => h), h3.same hm, h4, fun p hp => (h5 p hp).same hm, h6⟩)
theorem ErrIs.up {S : Nat → Addr} {w : World} {d d' : Nat} {v : Value} {ls : List Leaf} (h : ErrIs S w d v ls) (hd : d ≤ d') : ErrIs S w d' v ls := by
 induction hd with
 | refl => exact h
 | step _ ih => exact .inl ih
theorem ErrIs.pos {S : Nat → Addr} {w : World} : ∀ {d : Nat} {v : Value} {ls : List Leaf}, ErrIs S w d v ls → 1 ≤ ls.length
 | 0, v, ls, ⟨k, _, _, _, e⟩ => by simp [e]
 | d + 1, v, ls, h => by
  rcases h with h | ⟨b, wh, u, ls', t, f, h1, h2, h3, h4⟩ | ⟨b, a, n, c, zs, t, f, h1, h2, h3, h4, h5, h6⟩
  ·exact h.pos
  ·have := h3.pos; simp [h4]; omega
  ·cases zs with
   | nil => exact absurd rfl h4
   | cons x zs =>
    have := (h5 x (by simp)).pos
    simp [h6, List.flatMap_cons]; omega
theorem ErrIs.cases {S : Nat → Addr} {w : World} : ∀ {d : Nat} {v : Value} {ls : List Leaf}, ErrIs S w d v ls →
  (∃ k, 1 ≤ k ∧ k ≤ 18 ∧ v = errV S k ∧ ls = [([], k)]) ∨
   (∃ d', d' < d ∧ ∃ b wh u ls' t f, v = .iface 141 (.pointer (some ⟨b, 0, none⟩)) ∧ blk w b = some (.cells #[.string wh, u] t f) ∧ ErrIs S w d' u ls' ∧ ls = ls'.map (fun l => (wh :: l.1, l.2))) ∨
   (∃ d', d' < d ∧ ∃ (b : Nat) (a : Option Addr) (n c : Nat) (zs : List (Value × List Leaf)) (t : TypeId) (f : Nat × Nat), v = .iface 138 (.pointer (some ⟨b, 0, none⟩)) ∧ blk w b = some (.cells #[.slice a n c] t f) ∧ SlIs w a n 1 (zs.map (·.1)) ∧ zs ≠ [] ∧
    (∀ p ∈ zs, ErrIs S w d' p.1 p.2) ∧ ls = zs.flatMap (·.2))
 | 0, v, ls, h => .inl h
 | d + 1, v, ls, h => by
  rcases h with h | h | h
  ·rcases h.cases with h | ⟨d', hd, h⟩ | ⟨d', hd, h⟩
   ·exact .inl h
   ·exact .inr (.inl ⟨d', by omega, h⟩)
   ·exact .inr (.inr ⟨d', by omega, h⟩)
  ·exact .inr (.inl ⟨d, by omega, h⟩)
  ·exact .inr (.inr ⟨d, by omega, h⟩)
theorem ErrIs.one {S : Nat → Addr} {w : World} {d : Nat} {v : Value} {ls : List Leaf} (h : ErrIs S w d v ls) : ∃ t u, v = .iface t u := by
 rcases h.cases with ⟨k, _, _, rfl, _⟩ | ⟨d', _, b, wh, u, ls', t, f, rfl, _⟩ | ⟨d', _, b, a, n, c, zs, t, f, rfl, _⟩ <;> exact ⟨_, _, rfl⟩
def ErrO (S : Nat → Addr) (w : World) (d : Nat) (v : Value) (ls : List Leaf) : Prop := (v = .nilIface ∧ ls = []) ∨ ErrIs S w d v ls
theorem ErrO.same {S : Nat → Addr} {w w' : World} {d : Nat} {v : Value} {ls : List Leaf} (h : ErrO S w d v ls) (hm : Same w w') : ErrO S w' d v ls := h.imp id fun h => h.same hm
theorem ErrO.up {S : Nat → Addr} {w : World} {d d' : Nat} {v : Value} {ls : List Leaf} (h : ErrO S w d v ls) (hd : d ≤ d') : ErrO S w d' v ls := h.imp id fun h => h.up hd
theorem ErrO.nil_iff {S : Nat → Addr} {w : World} {d : Nat} {v : Value} {ls : List Leaf} (h : ErrO S w d v ls) : (ls = [] ∧ v = .nilIface) ∨ (ls ≠ [] ∧ ∃ t u, v = .iface t u) := by
 rcases h with ⟨h1, h2⟩ | h
 ·exact .inl ⟨h2, h1⟩
 ·exact .inr ⟨fun e => by have := h.pos; simp [e] at this, h.one⟩
end
section
theorem Mod.after {fp : Nat → Prop} {a b c : World} (h : Same a b) (k : Mod fp b c) (hf : ∀ b, fp b → a.heap.size ≤ b) : Same a c := h.trans' (k.mono fun i _ hi => .inr (hf i hi))
theorem vblk_new {B o n c b : Nat} (h : vblk (.slice (some ⟨B, o, none⟩) n c) b) : b = B := by
 obtain ⟨_, _, _, e⟩ := h; cases e; rfl
theorem same_alloc (w : World) (o : Obj) : Same w (w.alloc o) := (Mod.refl _ _).alloc o
theorem cloneE_spec {w : World} {a : Option Addr} {n c : Nat} {us : List Value} (hs : SlIs w a n 1 us) (h1 : oneCells us = true) (hn : us.length ≤ 1099511627776) :
  Meets Tryz.prog 152 #[.slice a n c] w fun v w' => Own w' v 1 us ∧ Same w w' ∧ (∀ b, vblk v b → w.heap.size ≤ b) := by
 refine f152_ok ?_
 unfold f152
 rw [keq_sl_nil slErr]
 simp -dsimp
 cases a with
 | none =>
  have : n = 0 := by rcases hs.2 with h | ⟨_, _, _, _, _, h, _⟩; exact h; cases h
  subst this
  have : us = [] := by simpa using hs.1
  subst this
  simp -dsimp
  exact ⟨Own.nil _ _, Mod.refl _ _, fun b hb => by obtain ⟨_, _, _, h⟩ := hb; cases h⟩
 | some a =>
  simp -dsimp
  unfold f152_0
  simp -dsimp
  refine ksem_append apErr (by omega) (vs := []) (Own.new (arr := #[]) (n := 0) (by simp) (by simp [maxLen])) (Src.ofSlIs (hk := (slT_of (P := Tryz.prog) (t := 115) (by kernel_rfl)).choose_spec) c (hs.same (same_alloc _ _)) h1) (by simpa using by omega) (by simpa using by omega) ?_
  intro v' w' ho hm hf
  refine ⟨by simpa using ho, Mod.after (same_alloc _ _) hm (fun b hb => by rw [vblk_new hb]; exact Nat.le_refl _), fun b hb => ?_⟩
  rcases hf b hb with h | h
  ·rw [vblk_new h]; exact Nat.le_refl _
  ·simp at h; omega
theorem unwrapS_spec {w : World} {b : Nat} {t : TypeId} {f : Nat × Nat} {a : Option Addr} {n c : Nat} {us : List Value} (hb : blk w b = some (.cells #[.slice a n c] t f)) (hs : SlIs w a n 1 us) (h1 : oneCells us = true) (hn : us.length ≤ 1099511627776) :
  Meets Tryz.prog 101 #[.pointer (some ⟨b, 0, none⟩)] w fun v w' => Own w' v 1 us ∧ Same w w' ∧ (∀ b, vblk v b → w.heap.size ≤ b) := by
 refine f101_ok ?_
 unfold f101
 rw [keq_ptr_nil ptSev]
 simp -dsimp
 unfold f101_0
 simp -dsimp [hb]
 refine kcall_of (cloneE_spec hs h1 hn) ?_
 rintro v w' h
 simpa using h
end
section
theorem SlIs.new {w : World} {t : TypeId} {arr : Array Value} {n sz : Nat} (h : arr.size = n * sz) : SlIs (w.alloc (.cells arr t)) (some ⟨w.heap.size, 0, none⟩) n sz arr.toList :=
 ⟨by simpa using h, .inr ⟨_, 0, arr, t, _, rfl, alloc_heap_new _ _, by rw [List.drop_zero, ← h, ← Array.length_toList, List.take_length]⟩⟩
theorem slErr_is : ∃ e, Tryz.prog.underlying 115 = some (.slice e) := slT_of (by kernel_rfl)
theorem errs_one {S : Nat → Addr} {w : World} {d : Nat} : ∀ {zs : List (Value × List Leaf)}, (∀ p ∈ zs, ErrIs S w d p.1 p.2) → oneCells (zs.map (·.1)) = true
 | [], _ => rfl
 | p :: zs, h => by
  obtain ⟨t, u, e⟩ := (h p (by simp)).one
  have := errs_one (zs := zs) fun q hq => h q (by simp [hq])
  simp [oneCells, e, Value.oneCell', this]
theorem errs_len {S : Nat → Addr} {w : World} {d : Nat} : ∀ {zs : List (Value × List Leaf)}, (∀ p ∈ zs, ErrIs S w d p.1 p.2) → zs.length ≤ (zs.flatMap (·.2)).length
 | [], _ => by simp
 | p :: zs, h => by
  have h1 := (h p (by simp)).pos
  have := errs_len (zs := zs) fun q hq => h q (by simp [hq])
  rw [List.flatMap_cons, List.length_append, List.length_cons]; omega
theorem i64_succ {i : Nat} (h : i < 4611686018427387904) : IntKind.i64.wrap ((i : Int) + 1) = ((i + 1 : Nat) : Int) := by rw [wrap_i64 (by omega) (by omega)]; simp
def FlatInv (S : Nat → Addr) (w0 w : World) (d : Nat) (zs : List (Value × List Leaf)) (x y : Value) (wr : World) : Prop := ∃ (i : Nat) (zs' : List (Value × List Leaf)), i ≤ zs.length ∧ y = .int .i64 i ∧ Own wr x 1 (zs'.map (·.1)) ∧ (∀ p ∈ zs', ErrIs S w0 d p.1 p.2) ∧ zs'.flatMap (·.2) = (zs.take i).flatMap (·.2) ∧ Same w wr ∧ ∀ b, vblk x b → w.heap.size ≤ b
theorem flat_spec {S : Nat → Addr} {w0 : World} (d : Nat) : ∀ (w : World) (zs : List (Value × List Leaf)) (a : Option Addr) (n c : Nat), Same w0 w → SlIs w a n 1 (zs.map (·.1)) → (∀ p ∈ zs, ErrO S w0 d p.1 p.2) →
  (zs.flatMap (·.2)).length ≤ 1099511627776 → zs.length ≤ 1099511627776 →
  Meets Tryz.prog 58 #[.slice a n c] w fun v w' => ∃ zs' : List (Value × List Leaf), Own w' v 1 (zs'.map (·.1)) ∧ (∀ p ∈ zs', ErrIs S w0 d p.1 p.2) ∧ zs'.flatMap (·.2) = zs.flatMap (·.2) ∧ Same w w' ∧ ∀ b, vblk v b → w.heap.size ≤ b := by
 induction d using Nat.strongRecOn with
 | ind d ih =>
 intro w zs a n c h0 hs hz hlen hlen2
 have hn : n = zs.length := by have := hs.1; simpa using this.symm
 subst hn
 refine f58_ok ?_
 unfold f58
 simp -dsimp
 refine kL_of (FlatInv S w0 w d zs)
  (fun _ y _ => zs.length - (RowKit.intOf y).toNat) ⟨⟨0, [], by omega, rfl, Own.nil _ _, by simp, by simp, Mod.refl _ _, fun b hb => by obtain ⟨_, _, _, h⟩ := hb; cases h⟩, ?_⟩
 rintro x y wr ⟨i, zs', hi, rfl, hown, hzs', hfl, hm, hf⟩
 unfold f58_0
 simp -dsimp
 refine kIf_dec (fun hlt => ?_) (fun hge => ?_)
 ·have hlt : i < zs.length := by omega
  obtain ⟨b, o, c', t', f', rfl, hb, hcell⟩ := (hs.same hm).at1 hlt (by simpa using hlt)
  have hp := hz zs[i] (List.getElem_mem hlt)
  simp only [List.getElem_map] at hcell
  have htk : (zs.take (i + 1)).flatMap (·.2) = (zs.take i).flatMap (·.2) ++ zs[i].2 := by rw [List.take_succ_eq_append_getElem hlt, List.flatMap_append]; simp
  have hfle : ((zs.take (i + 1)).flatMap (·.2)).length ≤ 1099511627776 := by
   have : zs = zs.take (i + 1) ++ zs.drop (i + 1) := (List.take_append_drop _ _).symm
   rw [this, List.flatMap_append, List.length_append] at hlen
   omega
  rw [htk, List.length_append] at hfle
  have hl1 := errs_len hzs'
  rw [hfl] at hl1
  have hos : o + i < c'.size := (Array.getElem?_eq_some_iff.1 hcell).1
  have hadd := i64_succ (i := i) (by omega)
  generalize zs[i] = p at *
  obtain ⟨pv, pl⟩ := p
  simp only at hp hcell htk hfle
  unfold f58_1
  simp -dsimp [hlt, hb, hcell]
  rcases hp with ⟨rfl, rfl⟩ | hp
  ·rw [keq_nil_nil ifErr]
   simp -dsimp
   unfold f58_2
   simp -dsimp [hadd]
   exact ⟨⟨i + 1, zs', by omega, rfl, hown, hzs', by rw [htk, hfl]; simp, hm, hf⟩, by simp [RowKit.intOf]; omega⟩
  ·have hap : ∀ (x2 : Value) (w2 : World) (zq : List (Value × List Leaf)), Own w2 x2 1 ((zs' ++ zq).map (·.1)) → (∀ p ∈ zq, ErrIs S w0 d p.1 p.2) → zq.flatMap (·.2) = pl → Same w w2 → (∀ b, vblk x2 b → w.heap.size ≤ b) →
     FlatInv S w0 w d zs x2 (.int .i64 ((i + 1 : Nat) : Int)) w2 := by
    intro x2 w2 zq h1 h2 h3 h4 h5
    refine ⟨i + 1, zs' ++ zq, by omega, rfl, h1, fun p hp => ?_, ?_, h4, h5⟩
    ·rcases List.mem_append.1 hp with hp | hp
     ·exact hzs' p hp
     ·exact h2 p hp
    ·rw [List.flatMap_append, hfl, htk, h3]
   have plain : ∀ t u, pv = .iface t u → t ≠ 138 → ksem Tryz.prog (Builtin.append_ #[115, 115] 0 #[x, .slice (some ⟨wr.heap.size, 0, none⟩) 1 1]) (wr.alloc (.cells #[pv] 33)) fun v20 w21 =>
     f58_2 v20 (.slice (some ⟨b, o, none⟩) zs.length c) (.int .i64 zs.length) (.int .i64 i) (fun y2 y10 w2 => FlatInv S w0 w d zs y2 y10 w2 ∧ zs.length - (RowKit.intOf y10).toNat < zs.length - (RowKit.intOf (.int .i64 i)).toNat) (fun v w' => ∃ zs' : List (Value × List Leaf), Own w' v 1 (zs'.map (·.1)) ∧ (∀ p ∈ zs', ErrIs S w0 d p.1 p.2) ∧ zs'.flatMap (·.2) = zs.flatMap (·.2) ∧ Same w w' ∧ ∀ b, vblk v b → w.heap.size ≤ b) w21 := by
    intro t u e _
    refine ksem_append apErr (by omega) (hown.same (same_alloc _ _)) (Src.ofSlIs (hk := slErr_is.choose_spec) 1 (vs := [pv]) (SlIs.new (arr := #[pv]) (by simp)) (by simp [oneCells, e, Value.oneCell'])) (by simp; omega) (by simp; omega) ?_
    intro v' w' ho hm' hf'
    unfold f58_2
    simp -dsimp [hadd]
    have hsz : wr.heap.size ≤ (wr.alloc (.cells #[pv] 33)).heap.size := (same_alloc _ _).size
    refine ⟨hap v' w' [(pv, pl)] (by simpa using ho) (by simpa using hp) (by simp) (Mod.after (hm.trans (same_alloc _ _)) hm' hf) (fun b hb => ?_), by simp [RowKit.intOf]; omega⟩
    rcases hf' b hb with h | h
    ·exact hf b h
    ·exact Nat.le_trans hm.size (Nat.le_trans hsz h)
   rcases hp.cases with ⟨k, k1, k2, rfl, rfl⟩ | ⟨d', hd', b', wh, u, ls', t'', f'', rfl, hb', hu, rfl⟩ | ⟨d', hd', b', a', n', c'', zs2, t'', f'', rfl, hb', hs', hne, hz', rfl⟩
   ·rw [errV, keq_if_nil ifErr]
    simp -dsimp
    rw [kta_other (by decide)]
    simp -dsimp
    exact plain _ _ rfl (by decide)
   ·rw [keq_if_nil ifErr]
    simp -dsimp
    rw [kta_other (by decide)]
    simp -dsimp
    exact plain _ _ rfl (by decide)
   ·rw [keq_if_nil ifErr]
    simp -dsimp
    have hl2 := errs_len hz'
    have hm0 : Same w0 wr := h0.trans hm
    refine kcall_of (unwrapS_spec (hm0.get hb' (fun h => h)) (hs'.same hm0) (errs_one hz') (by simp; omega)) ?_
    rintro v12 w13 ⟨ho, hm1, hf1⟩
    obtain ⟨a3, n3, c3, rfl, hs3, hn3⟩ := ho.is
    refine kcall_of (ih d' hd' w13 zs2 a3 n3 c3 (hm0.trans hm1) hs3 (fun p hp => .inr (hz' p hp)) (by omega) (by omega)) ?_
    rintro v14 w15 ⟨zq, ho2, hzq, hfl2, hm2, hf2⟩
    obtain ⟨a4, n4, c4, rfl, hs4, hn4⟩ := ho2.is
    have hl4 := errs_len hzq
    rw [hfl2] at hl4
    refine ksem_append apErr (by omega) (hown.same (hm1.trans hm2)) (Src.ofSlIs (hk := slErr_is.choose_spec) c4 hs4 (errs_one hzq)) (by simp; omega) (by simp; omega) ?_
    intro v' w' ho hm' hf'
    unfold f58_2
    simp -dsimp [hadd]
    refine ⟨hap v' w' zq (by simpa using ho) (fun p hp => (hzq p hp).up (by omega)) hfl2 (Mod.after (hm.trans (hm1.trans hm2)) hm' hf) (fun b hb => ?_), by simp [RowKit.intOf]; omega⟩
    rcases hf' b hb with h | h
    ·exact hf b h
    ·exact Nat.le_trans (hm.trans (hm1.trans hm2)).size h
 ·have : i = zs.length := by omega
  subst this
  unfold f58_3
  exact ⟨zs', hown, hzs', by rw [hfl, List.take_length], hm, hf⟩
theorem All_spec {S : Nat → Addr} {w : World} {d : Nat} {zs : List (Value × List Leaf)} {a : Option Addr} {n c : Nat} (hs : SlIs w a n 1 (zs.map (·.1))) (hz : ∀ p ∈ zs, ErrO S w d p.1 p.2) (hlen : (zs.flatMap (·.2)).length ≤ 1099511627776) (hlen2 : zs.length ≤ 1099511627776) :
  Meets Tryz.prog 24 #[.slice a n c] w fun v w' => ErrO S w' (d + 1) v (zs.flatMap (·.2)) ∧ Same w w' := by
 refine f24_ok ?_
 unfold f24
 refine kcall_of (flat_spec (w0 := w) d w zs a n c (Mod.refl _ _) hs hz hlen hlen2) ?_
 rintro v w' ⟨zs', ho, hz', hfl, hm, hf⟩
 obtain ⟨a1, n1, c1, rfl, hs1, hn1⟩ := ho.is
 have hn1 : n1 = zs'.length := by rw [hn1 rfl, List.length_map]
 subst hn1
 simp -dsimp
 refine kIf_dec (fun h => ?_) (fun h => ?_)
 ·have : zs' = [] := by simpa using h
  subst this
  exact ⟨.inl ⟨rfl, by rw [← hfl]; rfl⟩, hm⟩
 ·simp -dsimp
  refine kIf_dec (fun h1 => ?_) (fun h1 => ?_)
  ·obtain ⟨p, rfl⟩ : ∃ p, zs' = [p] := List.length_eq_one_iff.1 (by omega)
   obtain ⟨b, o, c', t', f', rfl, hb, hcell⟩ := hs1.at1 (i := 0) (by simp) (by simp)
   simp at hcell
   simp -dsimp [hb, hcell]
   have := hz' p (by simp)
   rw [← hfl]
   have e : [p].flatMap (·.2) = p.2 := by simp
   rw [e]
   exact ⟨.inr ((this.same hm).up (by omega)), hm⟩
  ·unfold f24_0
   simp -dsimp
   have hs' : ∀ o, Same w' (w'.alloc o) := fun o => same_alloc _ _
   refine ⟨.inr (.inr (.inr ⟨_, a1, _, c1, zs', _, _, rfl, alloc_heap_new _ _, hs1.same (hs' _), fun e => h (by simp [e]), fun p hp => (hz' p hp).same (hm.trans (hs' _)), hfl.symm⟩)), hm.trans (hs' _)⟩
end
section
attribute [local irreducible] kO kB kStr kInt kN kG kIf kfld kld kldN kst knew kmap kbld kbldS kext kcnv klenStr klen kcap kprt kprtN kbool kint kstr keq kun ksl kix kiv kta kmk kmm ksem ksemU kextf kcallV kcallM kcall kL
def ErrC (S : Nat → Addr) (k lo : Nat) : Nat → Value → World → Prop
 | 0, x, _ => x = errV S k
 | n + 1, x, w => ∃ bE wh y, x = .iface 141 (.pointer (some ⟨bE, 0, none⟩)) ∧ lo ≤ bE ∧ blk w bE = some (.cells #[.string wh, y] 143) ∧ ErrC S k lo n y w
def ErrX (S : Nat → Addr) (k lo : Nat) (x : Value) (w : World) : Prop := ∃ n, ErrC S k lo n x w
theorem ErrC.mod {S : Nat → Addr} {k lo : Nat} {fp : Nat → Prop} : ∀ {n : Nat} {x : Value} {w w' : World}, ErrC S k lo n x w → Mod fp w w' → (∀ b, lo ≤ b → b < w.heap.size → ¬ fp b) → ErrC S k lo n x w'
 | 0, _, _, _, h, _, _ => h
 | _ + 1, _, _, _, ⟨bE, wh, y, rfl, hl, hb, h⟩, hm, hf => ⟨bE, wh, y, rfl, hl, hm.get hb (hf bE hl (lt_of_blk hb)), ErrC.mod h hm hf⟩
theorem ErrC.mono {S : Nat → Addr} {k lo lo' : Nat} (hlo : lo' ≤ lo) : ∀ {n : Nat} {x : Value} {w : World}, ErrC S k lo n x w → ErrC S k lo' n x w
 | 0, _, _, h => h
 | _ + 1, _, _, ⟨bE, wh, y, rfl, hl, hb, h⟩ => ⟨bE, wh, y, rfl, by omega, hb, ErrC.mono hlo h⟩
theorem ErrX.mod {S : Nat → Addr} {k lo : Nat} {fp : Nat → Prop} {x : Value} {w w' : World} (h : ErrX S k lo x w) (hm : Mod fp w w') (hf : ∀ b, lo ≤ b → b < w.heap.size → ¬ fp b) : ErrX S k lo x w' := by
 obtain ⟨n, h⟩ := h
 exact ⟨n, h.mod hm hf⟩
theorem ErrX.same {S : Nat → Addr} {k lo : Nat} {x : Value} {w w' : World} (h : ErrX S k lo x w) (hm : Same w w') : ErrX S k lo x w' := h.mod hm fun _ _ _ h => h
theorem ErrX.mono {S : Nat → Addr} {k lo lo' : Nat} {x : Value} {w : World} (h : ErrX S k lo x w) (hlo : lo' ≤ lo) : ErrX S k lo' x w := by
 obtain ⟨n, h⟩ := h
 exact ⟨n, h.mono hlo⟩
theorem ErrX.sent (S : Nat → Addr) (k lo : Nat) (w : World) : ErrX S k lo (errV S k) w := ⟨0, rfl⟩
theorem ErrX.if {S : Nat → Addr} {k lo : Nat} {x : Value} {w : World} (h : ErrX S k lo x w) : ∃ t y, x = .iface t y := by
 obtain ⟨n, h⟩ := h
 cases n with
 | zero => exact ⟨_, _, h⟩
 | succ n => obtain ⟨bE, wh, y, rfl, _⟩ := h; exact ⟨_, _, rfl⟩
theorem kld_err {p : Nat → Prop} {S : Nat → Addr} {w w' : World} (h : LaidP p S w) {k g : Nat} (h1 : p k) (hg : gErr k = g) (hw : w'.heap = w.heap) {K : Value → Prop} (hK : K (errV S k)) : kld (.pointer (some ⟨g, 0, none⟩)) w' K := by
 obtain ⟨c, t, f, hb, hc⟩ := h.glob k h1
 rw [hg] at hb
 exact kld_of (w := w') (by unfold blk at *; rw [hw]; exact hb) hc hK
theorem atX_spec (wh : ByteArray) {S : Nat → Addr} {k lo : Nat} {x : Value} {w : World} (h : ErrX S k lo x w) (hlo : lo ≤ w.heap.size) : Meets Tryz.prog 25 #[.string wh, x] w fun v w' => ErrX S k lo v w' ∧ Same w w' := by
 obtain ⟨t, y, rfl⟩ := h.if
 obtain ⟨n, h⟩ := h
 refine f25_ok ?_
 unfold f25
 rw [keq_if_nil ifErr]
 refine kB_at ?_
 refine kIf_F rfl ?_
 refine kbld_of (cs := [.string wh, .iface t y]) rfl ?_
 refine knew_of fun w2 h2 hs2 hb2 => ?_
 exact ⟨⟨n + 1, _, wh, _, rfl, hlo, hb2, h.mod h2 fun _ _ _ h => h⟩, h2⟩
theorem taIsB : taB Tryz.prog 141 208 = some false := by kernel_rfl
theorem taUnB : taB Tryz.prog 141 211 = some true := by kernel_rfl
theorem unwrapM (v : Value) (w : World) (K : Value → World → Prop) : kcallM Tryz.prog (.iface 141 v) "Unwrap" [] w K = kcall Tryz.prog 100 #[v] w K := by kernel_rfl
theorem unwrap_spec {b : Nat} {wh : ByteArray} {y : Value} {t : TypeId} {w : World} (hb : blk w b = some (.cells #[.string wh, y] t)) : Meets Tryz.prog 100 #[.pointer (some ⟨b, 0, none⟩)] w fun v w' => v = y ∧ w' = w := by
 refine f100_ok ?_
 unfold f100
 rw [keq_ptr_nil ptBla]
 refine kB_at ?_
 refine kIf_F rfl ?_
 refine kN_at ?_
 refine kfld_of ?_
 refine kld_at hb rfl ?_
 exact ⟨rfl, rfl⟩
theorem isC_spec {p : Nat → Prop} {S : Nat → Addr} {w : World} (hL : LaidP p S w) {k lo j : Nat} (hk : p k) (hj : p j) {n : Nat} {x : Value} (h : ErrC S k lo n x w) : Meets Tryz.prog 50 #[x, errV S j, .bool true] w fun v w' => v = .bool (decide (k = j)) ∧ w' = w := by
 refine f50_ok ?_
 unfold f50
 refine kL1_of n (fun i x wr => wr = w ∧ ErrC S k lo (n - i) x w) ⟨lI1_0 ⟨rfl, h⟩, fun x wr hx => ?_⟩
 obtain ⟨i, hi, ⟨rfl, hC⟩, hJ⟩ := lI1_step hx
 unfold f50_0
 refine kB_at ?_
 refine kIf_T rfl ?_
 rcases Nat.lt_or_ge i n with hlt | hge
 ·rw [show n - i = (n - (i + 1)) + 1 by omega] at hC
  obtain ⟨bE, wh, y, rfl, _, hb, hC⟩ := hC
  rw [errV, keq_if_kind ifErr (by decide)]
  refine kB_at ?_
  refine kIf_F rfl ?_
  unfold f50_2
  rw [ksem_ta_no taIsB zIs]
  refine kext_at rfl ?_
  refine kext_at rfl ?_
  refine kB_at ?_
  refine kIf_F rfl ?_
  refine kB_at ?_
  refine kIf_F rfl ?_
  unfold f50_4
  rw [ksem_ta_yes taUnB]
  refine kext_at rfl ?_
  refine kext_at rfl ?_
  refine kB_at ?_
  refine kIf_T rfl ?_
  rw [unwrapM]
  refine kcall_of (unwrap_spec hb) ?_
  rintro v w' ⟨rfl, rfl⟩
  have hy : ∃ t z, v = .iface t z := ErrX.if (S := S) (k := k) (lo := lo) (w := w') ⟨_, hC⟩
  obtain ⟨t, z, rfl⟩ := hy
  rw [keq_if_nil ifErr]
  refine kB_at ?_
  refine kIf_F rfl ?_
  exact hJ _ _ hlt ⟨rfl, hC⟩
 ·rw [show n - i = 0 by omega] at hC
  obtain rfl : x = errV S k := hC
  by_cases hkj : k = j
  ·subst hkj
   rw [errV, keq_if_same ifErr cmpSen]
   refine kB_at ?_
   refine kIf_T rfl ?_
   simp
  ·obtain ⟨ck, tk, hbk⟩ := hL.live k hk
   obtain ⟨cj, tj, hbj⟩ := hL.live j hj
   rw [errV, errV, keq_if_other ifErr cmpSen (hL.ne k j hk hj hkj) hbk hbj]
   refine kB_at ?_
   refine kIf_F rfl ?_
   unfold f50_2
   rw [ksem_ta_no taIs zIs]
   refine kext_at rfl ?_
   refine kext_at rfl ?_
   refine kB_at ?_
   refine kIf_F rfl ?_
   refine kB_at ?_
   refine kIf_F rfl ?_
   unfold f50_4
   rw [ksem_ta_no taUn zUn]
   refine kext_at rfl ?_
   refine kext_at rfl ?_
   refine kB_at ?_
   refine kIf_F rfl ?_
   rw [ksem_ta_no taUs zUs]
   refine kext_at rfl ?_
   refine kext_at rfl ?_
   refine kB_at ?_
   refine kIf_F rfl ?_
   simp [hkj]
theorem isX_spec {p : Nat → Prop} {S : Nat → Addr} {w : World} (hL : LaidP p S w) {k lo j : Nat} (hk : p k) (hj : p j) {x : Value} (h : ErrX S k lo x w) : Meets Tryz.prog 17 #[x, errV S j] w fun v w' => v = .bool (decide (k = j)) ∧ w' = w := by
 obtain ⟨t, y, rfl⟩ := h.if
 obtain ⟨n, h⟩ := h
 refine f17_ok ?_
 unfold f17
 rw [keq_if_nil ifErr]
 refine kB_at ?_
 refine kIf_T rfl ?_
 rw [errV, keq_if_nil ifErr]
 unfold f17_0
 refine kB_at ?_
 refine kIf_F rfl ?_
 rw [Is_cmp]
 refine kcall_of (isC_spec hL hk hj h) ?_
 rintro v w' h
 exact h
end
section
def f211_0 (x0 : Value) (Q : PQ) (w : World) : Prop :=
 kun .neg (some (.int .u32)) x0 fun v2 =>
 kint .u32 .and x0 v2 fun v3 =>
 kint .u32 .mul v3 (.int .u32 125613361) fun v4 =>
 kint .u32 .shr v4 (.int .u64 27) fun v5 =>
 kix (some (.array 32 5)) (some 1) (.pointer (some ⟨20, 0, none⟩)) v5 fun v6 =>
 kld v6 w fun v7 =>
 kcnv .i64 v7 fun v8 =>
 Q v8 w
def f211 (x0 : Value) (Q : PQ) (w : World) : Prop :=
 kint .u32 .eql x0 (.int .u32 0) fun v1 =>
 kB v1 fun b9 => kIf b9
 (Q (.int .i64 32) w)
 (f211_0 x0 Q w)
theorem f211_ok {x0 : Value} {Q : PQ} {w : World} (h : f211 x0 Q w) : Meets Tryz.prog 211 #[x0] w Q :=
 sound' (c := Tryz.f211.body.get rfl) [] Tryz.func211 rfl rfl (args := [x0]) rfl (by kernel_rfl) h
def f176_1 (x0 x2 : Value) (J1 : Value → Value → World → Prop) (Q : PQ) (w : World) : Prop :=
 kcall Tryz.prog 211 #[x0] w fun v2 w3 =>
 kbldS [.int .i64 0] 1 [(0, 1, v2)] 3 w3 fun v4 w5 =>
 ksem Tryz.prog (Builtin.append_ #[57, 57] 0 #[x2, v4]) w5 fun v6 w7 =>
 kcall Tryz.prog 212 #[x0, v2] w7 fun v8 w9 =>
 J1 v8 v6 w9
def f176_2 (x2 : Value) (Q : PQ) (w : World) : Prop :=
 Q x2 w
def f176_0 (x0 x2 : Value) (J1 : Value → Value → World → Prop) (Q : PQ) (w : World) : Prop :=
 kint .u32 .neq x0 (.int .u32 0) fun v1 =>
 kB v1 fun b10 => kIf b10
 (f176_1 x0 x2 J1 Q w)
 (f176_2 x2 Q w)
def f176 (x0 : Value) (Q : PQ) (w : World) : Prop :=
 kL fun (I : Value → Value → World → Prop) (μ : Value → Value → World → Nat) => I x0 (.slice none 0 0) w ∧ ∀ (x0 x2 : Value) (w1 : World), I x0 x2 w1 →
 f176_0 x0 x2 (fun y0 y2 w2 => I y0 y2 w2 ∧ μ y0 y2 w2 < μ x0 x2 w1) Q w1
theorem f176_ok {x0 : Value} {Q : PQ} {w : World} (h : f176 x0 Q w) : Meets Tryz.prog 176 #[x0] w Q :=
 sound' (c := Tryz.f176.body.get rfl) [(1, [0, 2])] Tryz.func176 rfl rfl (args := [x0]) rfl (by kernel_rfl) h
def f212 (x0 x1 : Value) (Q : PQ) (w : World) : Prop :=
 kcall Tryz.prog 169 #[x1] w fun v1 w2 =>
 kint .u32 .andNot x0 v1 fun v3 =>
 Q v3 w2
theorem f212_ok {x0 x1 : Value} {Q : PQ} {w : World} (h : f212 x0 x1 Q w) : Meets Tryz.prog 212 #[x0, x1] w Q :=
 sound' (c := Tryz.f212.body.get rfl) [] Tryz.func212 rfl rfl (args := [x0, x1]) rfl (by kernel_rfl) h
def f169_1 (x0 : Value) (Q : PQ) (w : World) : Prop :=
 kint .u32 .shl (.int .u32 1) x0 fun v4 =>
 Q v4 w
def f169_0 (x0 x8 : Value) (Q : PQ) (w : World) : Prop :=
 kB x8 fun b5 => kIf b5
 (Q (.int .u32 0) w)
 (f169_1 x0 Q w)
def f169 (x0 : Value) (Q : PQ) (w : World) : Prop :=
 kint .i64 .lss x0 (.int .i64 0) fun v1 =>
 kB v1 fun b2 => kIf (!b2)
 (kint .i64 .geq x0 (.int .i64 32) fun v3 =>
 f169_0 x0 v3 Q w)
 (f169_0 x0 (.bool true) Q w)
theorem f169_ok {x0 : Value} {Q : PQ} {w : World} (h : f169 x0 Q w) : Meets Tryz.prog 169 #[x0] w Q :=
 sound' (c := Tryz.f169.body.get rfl) [] Tryz.func169 rfl rfl (args := [x0]) rfl (by kernel_rfl) h
def f113 (x0 x1 : Value) (Q : PQ) (w : World) : Prop :=
 kcall Tryz.prog 169 #[x1] w fun v1 w2 =>
 kint .u32 .or x0 v1 fun v3 =>
 Q v3 w2
theorem f113_ok {x0 x1 : Value} {Q : PQ} {w : World} (h : f113 x0 x1 Q w) : Meets Tryz.prog 113 #[x0, x1] w Q :=
 sound' (c := Tryz.f113.body.get rfl) [] Tryz.func113 rfl rfl (args := [x0, x1]) rfl (by kernel_rfl) h
def f184 (x0 x1 : Value) (Q : PQ) (w : World) : Prop :=
 kcall Tryz.prog 169 #[x1] w fun v1 w2 =>
 kint .u32 .and x0 v1 fun v3 =>
 kint .u32 .neq v3 (.int .u32 0) fun v4 =>
 Q v4 w2
theorem f184_ok {x0 x1 : Value} {Q : PQ} {w : World} (h : f184 x0 x1 Q w) : Meets Tryz.prog 184 #[x0, x1] w Q :=
 sound' (c := Tryz.f184.body.get rfl) [] Tryz.func184 rfl rfl (args := [x0, x1]) rfl (by kernel_rfl) h
end
section
def bitF (n : Int) : Nat := if n < 0 then 0 else if 32 ≤ n then 0 else 2 ^ n.toNat
theorem bitF_lt (n : Int) : bitF n < 4294967296 := by
 unfold bitF; split
 ·omega
 ·split
  ·omega
  ·have : n.toNat ≤ 31 := by omega
   have := Nat.pow_le_pow_right (n := 2) (by omega) this
   omega
theorem u32_of {a : Nat} (h : a < 4294967296) : (BitVec.ofInt 32 (a : Int)).toNat = a := by
 simp [BitVec.ofInt_natCast]; omega
theorem u32_or {a b : Nat} (ha : a < 4294967296) (hb : b < 4294967296) : ior .u32 (a : Int) (b : Int) = ((a ||| b : Nat) : Int) := by
 have h : a ||| b < 2 ^ 32 := Nat.or_lt_two_pow (by omega) (by omega)
 show IntKind.u32.wrap ((BitVec.ofInt 32 (a : Int) ||| BitVec.ofInt 32 (b : Int)).toNat) = _
 rw [BitVec.toNat_or, u32_of ha, u32_of hb, wrap_u32 (by omega) (by omega)]
theorem u32_and {a b : Nat} (ha : a < 4294967296) (hb : b < 4294967296) : iand .u32 (a : Int) (b : Int) = ((a &&& b : Nat) : Int) := by
 have h : a &&& b < 2 ^ 32 := Nat.and_lt_two_pow a (by omega)
 show IntKind.u32.wrap ((BitVec.ofInt 32 (a : Int) &&& BitVec.ofInt 32 (b : Int)).toNat) = _
 rw [BitVec.toNat_and, u32_of ha, u32_of hb, wrap_u32 (by omega) (by omega)]
def andN (a b : Nat) : Nat := a &&& (4294967295 - b)
theorem andN_lt {a b : Nat} (ha : a < 4294967296) : andN a b < 4294967296 := by
 unfold andN; have := Nat.and_le_left (n := a) (m := 4294967295 - b); omega
theorem u32_andN {a b : Nat} (ha : a < 4294967296) (hb : b < 4294967296) : iandn .u32 (a : Int) (b : Int) = ((andN a b : Nat) : Int) := by
 have h := andN_lt (b := b) ha
 show IntKind.u32.wrap ((BitVec.ofInt 32 (a : Int) &&& ~~~(BitVec.ofInt 32 (b : Int))).toNat) = _
 rw [BitVec.toNat_and, BitVec.toNat_not, u32_of ha, u32_of hb]
 have e : 2 ^ 32 - 1 - b = 4294967295 - b := by omega
 rw [e]; unfold andN at *
 rw [wrap_u32 (by omega) (by omega)]
def msk (m : Nat) : Value := .int .u32 (m : Int)
theorem bit_spec (n : Int) (h1 : -9223372036854775808 ≤ n) (h2 : n ≤ 9223372036854775807) (w : World) : Meets Tryz.prog 169 #[.int .i64 n] w fun v w' => v = msk (bitF n) ∧ w' = w := by
 refine f169_ok ?_
 unfold f169
 simp -dsimp
 by_cases hn : n < 0
 ·simp -dsimp [hn, f169_0, bitF, msk]
 ·simp -dsimp [hn, f169_0]
  by_cases hm : 32 ≤ n
  ·simp -dsimp [hm, bitF, hn, msk]
  ·have e : min n.toNat 32 = n.toNat := by omega
   have hb := bitF_lt n
   have eb : bitF n = 2 ^ n.toNat := by unfold bitF; simp [hn, hm]
   have ew : ishl .u32 1 n = ((bitF n : Nat) : Int) := by
    show IntKind.u32.wrap (1 * 2 ^ (min n.toNat 32)) = _
    rw [e]
    have : (1 * 2 ^ n.toNat : Int) = ((bitF n : Nat) : Int) := by rw [eb]; simp
    rw [this, wrap_u32 (by omega) (by omega)]
   simp -dsimp [hm, f169_1, show 0 ≤ n by omega, ew, msk]
theorem with_spec (m : Nat) (n : Int) (hm : m < 4294967296) (h1 : -9223372036854775808 ≤ n) (h2 : n ≤ 9223372036854775807) (w : World) : Meets Tryz.prog 113 #[msk m, .int .i64 n] w fun v w' => v = msk (m ||| bitF n) ∧ w' = w := by
 refine f113_ok ?_
 unfold f113
 refine kcall_of (bit_spec n h1 h2 w) ?_
 rintro v w' ⟨rfl, rfl⟩
 simp -dsimp [msk, u32_or hm (bitF_lt n)]
structure Part where
 comp : Int
 v0 : Int
 v1 : Int
 v2 : Int
 v3 : Int
 tick : Int
def Part.cells (p : Part) : List Value := [.int .i64 p.comp, .int .i64 p.v0, .int .i64 p.v1, .int .i64 p.v2, .int .i64 p.v3, .int .i64 p.tick]
def I64 (n : Int) : Prop := -9223372036854775808 ≤ n ∧ n ≤ 9223372036854775807
def Part.ok (p : Part) : Prop := I64 p.comp ∧ I64 p.v0 ∧ I64 p.v1 ∧ I64 p.v2 ∧ I64 p.v3 ∧ I64 p.tick
structure Comp where
 name : ByteArray
 width : Int
 rb : Bool
 d0 : Int
 d1 : Int
 d2 : Int
 d3 : Int
def Comp.cells (c : Comp) : List Value := [.string c.name, .int .i64 c.width, .bool c.rb, .int .i64 c.d0, .int .i64 c.d1, .int .i64 c.d2, .int .i64 c.d3]
theorem shr_nat {k : IntKind} (m i : Nat) (hi : i ≤ k.bits) : ishr k (m : Int) (i : Int) = ((m / 2 ^ i : Nat) : Int) := by
 show (m : Int).fdiv (2 ^ (min i k.bits)) = _
 rw [Nat.min_eq_left hi, Int.fdiv_eq_ediv_of_nonneg _ (by exact Int.pow_nonneg (by omega))]
 simp
def deTab : List Nat := [0, 1, 28, 2, 29, 14, 24, 3, 30, 22, 20, 15, 25, 17, 4, 8, 31, 27, 13, 23, 21, 19, 16, 7, 26, 12, 18, 6, 11, 5, 10, 9]
def DeAt (w : World) : Prop := ∃ t f, blk w 20 = some (.cells (deTab.map fun n : Nat => Value.int .u8 (n : Int)).toArray t f)
theorem DeAt.same {w w' : World} (h : DeAt w) (hm : Same w w') : DeAt w' := by
 obtain ⟨t, f, hb⟩ := h
 exact ⟨t, f, hm.get hb (fun h => h)⟩
theorem DeAt.mod {fp : Nat → Prop} {w w' : World} (h : DeAt w) (hm : Mod fp w w') (hf : ¬ fp 20) : DeAt w' := by
 obtain ⟨t, f, hb⟩ := h
 exact ⟨t, f, hm.get hb hf⟩
theorem DeAt.lt {w : World} (h : DeAt w) : 20 < w.heap.size := by
 obtain ⟨t, f, hb⟩ := h
 exact lt_of_blk hb
theorem low_ex : ∀ m : Nat, m ≠ 0 → ∃ n q, m = 2 ^ n * (2 * q + 1) := by
 intro m
 induction m using Nat.strongRecOn with
 | _ m ih =>
  intro h
  by_cases ho : m % 2 = 1
  ·exact ⟨0, m / 2, by omega⟩
  ·obtain ⟨n, q, e⟩ := ih (m / 2) (by omega) (by omega)
   refine ⟨n + 1, q, ?_⟩
   have : m = 2 * (m / 2) := by omega
   rw [this, e, Nat.pow_succ, ← Nat.mul_assoc, Nat.mul_comm 2 (2 ^ n)]
theorem low_bits {n q : Nat} : (2 ^ n * (2 * q + 1)).testBit n = true ∧ ∀ j, j < n → (2 ^ n * (2 * q + 1)).testBit j = false := by
 constructor
 ·rw [Nat.testBit_two_pow_mul]; simp
 ·intro j hj
  rw [Nat.testBit_two_pow_mul]; simp; omega
theorem low_and {n q : Nat} (h : 2 ^ n * (2 * q + 1) < 4294967296) : 2 ^ n * (2 * q + 1) &&& (4294967296 - 2 ^ n * (2 * q + 1)) = 2 ^ n := by
 have hp := Nat.two_pow_pos n
 have hn : n < 32 := by
  by_cases hn : n < 32
  ·exact hn
  ·have : 2 ^ 32 ≤ 2 ^ n := Nat.pow_le_pow_right (by omega) (by omega)
   have : 2 ^ n * 1 ≤ 2 ^ n * (2 * q + 1) := Nat.mul_le_mul_left _ (by omega)
   omega
 have e : 2 ^ n * (2 * q + 1) = (2 ^ n * (2 * q) + (2 ^ n - 1)) + 1 := by rw [Nat.mul_add]; omega
 apply Nat.eq_of_testBit_eq
 intro i
 rw [Nat.testBit_and]
 have e2 : 4294967296 - 2 ^ n * (2 * q + 1) = 2 ^ 32 - ((2 ^ n * (2 * q) + (2 ^ n - 1)) + 1) := by omega
 rw [e2, Nat.testBit_two_pow_sub_succ (by omega), Nat.testBit_two_pow_mul_add _ (by omega), Nat.testBit_two_pow_mul]
 by_cases h1 : i < n
 ·rw [if_pos h1, Nat.testBit_two_pow_sub_one]
  simp [show ¬ n ≤ i by omega, Nat.testBit_two_pow, show ¬ n = i by omega]
 ·rw [if_neg h1]
  by_cases h2 : i = n
  ·subst h2; simp [hn]
  ·obtain ⟨d, hd⟩ : ∃ d, i - n = d + 1 := ⟨i - n - 1, by omega⟩
   rw [hd, Nat.testBit_succ, Nat.testBit_succ]
   have a1 : (2 * q + 1) / 2 = q := by omega
   have a2 : 2 * q / 2 = q := by omega
   rw [a1, a2, Nat.testBit_two_pow]
   cases q.testBit d <;> simp [show ¬ n = i by omega]
theorem deTab_ok : ∀ n, n < 32 → deTab[(2 ^ n * 125613361 % 4294967296) / 134217728]? = some n := by decide
theorem tz_spec {w : World} (hd : DeAt w) (m : Nat) (h0 : m ≠ 0) (hm : m < 4294967296) :
  Meets Tryz.prog 211 #[msk m] w fun v w' => ∃ n : Nat, n < 32 ∧ m.testBit n = true ∧ (∀ j, j < n → m.testBit j = false) ∧ v = .int .i64 n ∧ w' = w := by
 obtain ⟨n, q, e⟩ := low_ex m h0
 have hand : m &&& (4294967296 - m) = 2 ^ n := by rw [e]; exact low_and (by rw [← e]; exact hm)
 have hb := low_bits (n := n) (q := q)
 rw [← e] at hb
 have hn : n < 32 := by
  by_cases hn : n < 32
  ·exact hn
  ·have : 2 ^ 32 ≤ 2 ^ n := Nat.pow_le_pow_right (by omega) (by omega)
   have : 2 ^ n * 1 ≤ 2 ^ n * (2 * q + 1) := Nat.mul_le_mul_left _ (by omega)
   omega
 have hp : 2 ^ n ≤ 2 ^ 31 := Nat.pow_le_pow_right (by omega) (by omega)
 refine f211_ok ?_
 unfold f211
 rw [msk, kint_eql, kB_bool]
 refine kIf_dec (fun h => absurd h (by omega)) (fun _ => ?_)
 unfold f211_0
 have hneg : IntKind.u32.wrap (0 - (m : Int)) = ((4294967296 - m : Nat) : Int) := by
  unfold IntKind.wrap; simp [IntKind.signed, IntKind.bits]; omega
 have hmul : IntKind.u32.wrap (((2 ^ n : Nat) : Int) * 125613361) = ((2 ^ n * 125613361 % 4294967296 : Nat) : Int) := by
  unfold IntKind.wrap; simp [IntKind.signed, IntKind.bits]
 rw [kun_neg, hneg, kint_and, u32_and hm (by omega), hand, kint_mul, hmul, kint_shr]
 refine kG_of (by omega) ?_
 rw [show (27 : Int) = ((27 : Nat) : Int) from rfl, shr_nat _ 27 (by decide), show (2 : Nat) ^ 27 = 134217728 from rfl, kix_array]
 have hlt : (2 ^ n * 125613361 % 4294967296) / 134217728 < 32 := by omega
 refine kG_of (by omega) ?_
 obtain ⟨t, f, hbk⟩ := hd
 have ht := deTab_ok n hn
 rw [add_mk]
 refine kld_of (v := .int .u8 (n : Int)) hbk ?_ ?_
 ·rw [Nat.mul_one, Nat.zero_add]
  simp only [List.getElem?_toArray, List.getElem?_map]
  rw [show (((2 ^ n * 125613361 % 4294967296 / 134217728 : Nat) : Int)).toNat = 2 ^ n * 125613361 % 4294967296 / 134217728 from Int.toNat_natCast _, ht]
  rfl
 rw [kcnv_int, wrap_i64 (by omega) (by omega)]
 exact ⟨n, hn, hb.1, hb.2, rfl, rfl⟩
def listF (m : Nat) : List Nat := (List.range 32).filter fun i => m.testBit i
theorem listF_zero : listF 0 = [] := by
 unfold listF
 rw [List.filter_eq_nil_iff]
 intro a _
 simp
theorem listF_cons {m n : Nat} (hm : m < 4294967296) (hn : n < 32) (hb : m.testBit n = true) (hl : ∀ j, j < n → m.testBit j = false) : listF m = n :: listF (andN m (2 ^ n)) := by
 have hp : 2 ^ n ≤ 2 ^ 31 := Nat.pow_le_pow_right (by omega) (by omega)
 have hbit : ∀ i, (andN m (2 ^ n)).testBit i = (m.testBit i && (decide (i < 32) && !decide (n = i))) := by
  intro i
  have e : 4294967295 - 2 ^ n = 2 ^ 32 - (2 ^ n + 1) := by omega
  rw [andN, Nat.testBit_and, e, Nat.testBit_two_pow_sub_succ (by omega), Nat.testBit_two_pow]
 have hsplit : List.range 32 = List.range n ++ (n :: List.range' (n + 1) (31 - n)) := by
  rw [List.range_eq_range', List.range_eq_range']
  have := List.range'_append (s := 0) (m := n) (n := 32 - n) (step := 1)
  rw [show n + (32 - n) = 32 by omega] at this
  rw [← this, show 0 + 1 * n = n by omega, show 32 - n = (31 - n) + 1 by omega, List.range'_succ]
 unfold listF
 rw [hsplit, List.filter_append, List.filter_append, List.filter_cons, List.filter_cons, if_pos hb]
 have e1 : (List.range n).filter (fun i => m.testBit i) = [] := by
  rw [List.filter_eq_nil_iff]; intro a ha; simp only [List.mem_range] at ha; simp [hl a ha]
 have e2 : (List.range n).filter (fun i => (andN m (2 ^ n)).testBit i) = [] := by
  rw [List.filter_eq_nil_iff]; intro a ha; simp only [List.mem_range] at ha; simp [hbit, hl a ha]
 have e3 : (andN m (2 ^ n)).testBit n = false := by rw [hbit]; simp
 rw [e1, e2, if_neg (by simp [e3]), List.nil_append, List.nil_append]
 congr 1
 apply List.filter_congr
 intro x hx
 simp only [List.mem_range'_1] at hx
 rw [hbit]
 simp [show x < 32 by omega, show ¬ n = x by omega]
theorem Without_spec (m n : Nat) (hm : m < 4294967296) (hn : n < 32) (w : World) : Meets Tryz.prog 212 #[msk m, .int .i64 n] w fun v w' => v = msk (andN m (2 ^ n)) ∧ w' = w := by
 have hp : 2 ^ n ≤ 2 ^ 31 := Nat.pow_le_pow_right (by omega) (by omega)
 have e : bitF (n : Int) = 2 ^ n := by unfold bitF; rw [if_neg (by omega), if_neg (by omega)]; rfl
 refine f212_ok ?_
 unfold f212
 refine kcall_of (bit_spec n (by omega) (by omega) w) ?_
 rintro v w' ⟨rfl, rfl⟩
 rw [e, msk, msk, kint_andNot, u32_andN hm (by omega)]
 exact ⟨rfl, rfl⟩
theorem apInt : appT Tryz.prog 57 1 8 = true := by kernel_rfl
theorem slInt_is : ∃ e, Tryz.prog.underlying 57 = some (.slice e) := slT_of (by kernel_rfl)
def natV (n : Nat) : Value := .int .i64 (n : Int)
theorem ones_map {α : Type} (f : α → Value) (hf : ∀ x, (f x).oneCell' = true) : ∀ l : List α, oneCells (l.map f) = true
 | [] => rfl
 | x :: l => by
  rw [List.map_cons]
  unfold oneCells
  rw [hf, ones_map f hf l]; rfl
def ListInv (m : Nat) (w : World) (x0 x2 : Value) (wr : World) : Prop := ∃ (k : Nat) (l : List Nat), k < 4294967296 ∧ x0 = msk k ∧ Own wr x2 1 (l.map natV) ∧ listF m = l ++ listF k ∧ Same w wr ∧ (∀ b, vblk x2 b → w.heap.size ≤ b)
theorem listF_len (m : Nat) : (listF m).length ≤ 32 := by
 have := List.length_filter_le (fun i => m.testBit i) (List.range 32)
 simpa [listF] using this
theorem List_spec {w : World} (hd : DeAt w) (m : Nat) (hm : m < 4294967296) : Meets Tryz.prog 176 #[msk m] w fun v w' => ∃ a c, v = .slice a (listF m).length c ∧ SlIs w' a (listF m).length 1 ((listF m).map natV) ∧ Same w w' ∧ ∀ k o, a = some ⟨k, o, none⟩ → w.heap.size ≤ k := by
 have hlen := listF_len m
 refine f176_ok ?_
 unfold f176
 refine kL_of (ListInv m w) (fun x0 _ _ => (RowKit.intOf x0).toNat) ⟨⟨m, [], hm, rfl, Own.nil _ _, rfl, Mod.refl _ _, fun b hb => by obtain ⟨_, _, _, h⟩ := hb; cases h⟩, ?_⟩
 rintro x0 x2 wr ⟨k, l, hk, rfl, ho, hl, hs, hf⟩
 have hll : l.length ≤ 32 := by rw [hl, List.length_append] at hlen; omega
 unfold f176_0
 rw [msk, kint_neq, kB_bool]
 refine kIf_dec (fun hne => ?_) (fun heq => ?_)
 ·unfold f176_1
  refine kcall_of (tz_spec (hd.same hs) k (by omega) hk) ?_
  rintro v w3 ⟨n, hn, hb, hlow, rfl, rfl⟩
  refine kbldS_of (cs := [natV n]) rfl fun w5 h5 hs5 hb5 => ?_
  refine ksem_append apInt (by omega) (ho.same h5) (Src.ofSlIs (hk := slInt_is.choose_spec) 1 (SlIs.blk hb5 rfl) rfl) (by simp; omega) (by simp; omega) ?_
  intro v' w7 ho7 hm7 hf7
  refine kcall_of (Without_spec k n hk hn w7) ?_
  rintro v w9 ⟨rfl, rfl⟩
  have hkn := andN_lt (a := k) (b := 2 ^ n) hk
  refine ⟨⟨andN k (2 ^ n), l ++ [n], hkn, rfl, ?_, ?_, Mod.after (hs.trans h5) hm7 hf, ?_⟩, ?_⟩
  ·rw [List.map_append]; exact ho7
  ·rw [hl, listF_cons hk hn hb hlow]; simp
  ·intro b hb
   rcases hf7 b hb with h | h
   ·exact hf b h
   ·have := hs.size; have := h5.size; omega
  ·simp only [RowKit.intOf, msk, Int.toNat_natCast]
   have e : andN k (2 ^ n) ≤ k := Nat.and_le_left
   have hne2 : andN k (2 ^ n) ≠ k := by
    intro h
    have h1 : (andN k (2 ^ n)).testBit n = true := by rw [h]; exact hb
    have hp : 2 ^ n ≤ 2 ^ 31 := Nat.pow_le_pow_right (by omega) (by omega)
    have e : 4294967295 - 2 ^ n = 2 ^ 32 - (2 ^ n + 1) := by omega
    rw [andN, Nat.testBit_and, e, Nat.testBit_two_pow_sub_succ (by omega), Nat.testBit_two_pow] at h1
    simp at h1
   omega
 ·have : k = 0 := by omega
  subst this
  rw [listF_zero, List.append_nil] at hl
  unfold f176_2
  obtain ⟨a, n, c, rfl, hsl, hn1⟩ := ho.is
  have := hn1 rfl
  rw [List.length_map] at this
  subst this
  rw [hl]
  exact ⟨a, c, rfl, hsl, hs, fun k o e => hf k (by subst e; exact ⟨o, _, _, rfl⟩)⟩
end
section
def Sgn (n : Int) : Prop := -9223372036854775808 ≤ n ∧ n ≤ 9223372036854775807
theorem wrap_rng (n : Int) : Sgn (IntKind.i64.wrap n) := by
 unfold IntKind.wrap Sgn; simp [IntKind.signed, IntKind.bits]; omega
def quoF (y x : Int) : Int := if x = 0 then 0 else IntKind.i64.wrap (y.tdiv x)
def modF (y x : Int) : Int := if x = 0 then 0 else IntKind.i64.wrap (y - IntKind.i64.wrap (x * quoF y x))
def flagF (b : Bool) : Int := if b = true then 1 else 0
end
section
set_option maxHeartbeats 4000000 in
end
section
def f8_4 (x1 x2 : Value) (J5 : Value → World → Prop) (Q : PQ) (w : World) : Prop :=
 kint .i64 .add x2 (.int .i64 1) fun v20 =>
 J5 v20 w
def f8_3 (x1 x2 x33 : Value) (J5 : Value → World → Prop) (Q : PQ) (w : World) : Prop :=
 kB x33 fun b21 => kIf b21
 (Q (.bool false) w)
 (f8_4 x1 x2 J5 Q w)
def f8_2 (x1 x2 : Value) (J5 : Value → World → Prop) (Q : PQ) (w : World) : Prop :=
 kcall Tryz.prog 11 #[x1] w fun v12 w13 =>
 kext v12 0 fun v14 =>
 kext v12 1 fun v15 =>
 kun .not (some .bool) v14 fun v16 =>
 kB v16 fun b17 => kIf (!b17)
 (keq Tryz.prog .neq 33 false true v15 .nilIface w13 fun v18 w19 =>
 f8_3 x1 x2 v18 J5 Q w19)
 (f8_3 x1 x2 (.bool true) J5 Q w13)
def f8_5 (x1 : Value) (Q : PQ) (w : World) : Prop :=
 kbld [.pointer none, .pointer none, .int .i64 0, .int .i64 0, .int .i64 0] [] fun v22 =>
 kbld [.int .i64 0, .int .i64 0, .int .i64 0] [(0, 1, (.int .i64 20))] fun v23 =>
 kbldS [.int .i64 0, .int .i64 0, .int .i64 0] 1 [(0, 3, v23)] 67 w fun v24 w25 =>
 kcall Tryz.prog 30 #[v22, v24, .int .i64 10] w25 fun v26 w27 =>
 kext v26 0 fun v28 =>
 kext v26 1 fun v29 =>
 kbld [.pointer none, .pointer none, .int .i64 0, .int .i64 0, .int .i64 0] [] fun v30 =>
 kbld [.int .i64 0, .int .i64 0, .int .i64 0] [(0, 1, (.int .i64 1))] fun v31 =>
 kbld [.int .i64 0, .int .i64 0, .int .i64 0] [(0, 1, (.int .i64 35))] fun v32 =>
 kbld [.int .i64 0, .int .i64 0, .int .i64 0] [(0, 1, (.int .i64 6))] fun v33 =>
 kbldS [.int .i64 0, .int .i64 0, .int .i64 0] 3 [(0, 3, v31), (3, 3, v32), (6, 3, v33)] 67 w27 fun v34 w35 =>
 kcall Tryz.prog 30 #[v30, v34, .int .i64 10] w35 fun v36 w37 =>
 kext v36 0 fun v38 =>
 kext v36 1 fun v39 =>
 kbld [.pointer none, .pointer none, .int .i64 0, .int .i64 0, .int .i64 0] [] fun v40 =>
 kbld [.int .i64 0, .int .i64 0, .int .i64 0] [(0, 1, (.int .i64 6))] fun v41 =>
 kbldS [.int .i64 0, .int .i64 0, .int .i64 0] 1 [(0, 3, v41)] 67 w37 fun v42 w43 =>
 kcall Tryz.prog 30 #[v40, v42, .int .i64 10] w43 fun v44 w45 =>
 kext v44 0 fun v46 =>
 kext v44 1 fun v47 =>
 kcall Tryz.prog 14 #[x1] w45 fun v48 w49 =>
 kbldS [.int .i64 0] 1 [(0, 1, (.int .i64 5))] 3 w49 fun v50 w51 =>
 kcall Tryz.prog 31 #[v48, v50] w51 fun v52 w53 =>
 kB v52 fun b54 => kIf b54
 (kcall Tryz.prog 12 #[x1] w53 fun v55 w56 =>
 kint .i64 .eql v55 (.int .i64 7) fun v57 =>
 kB v57 fun b58 => kIf b58
 (kcall Tryz.prog 13 #[x1] w56 fun v59 w60 =>
 kB v59 fun b61 => kIf b61
 (kint .i64 .eql v28 (.int .i64 0) fun v62 =>
 kB v62 fun b63 => kIf b63
 (kld (.pointer (some ⟨0, 0, none⟩)) w60 fun v64 =>
 kcall Tryz.prog 17 #[v29, v64] w60 fun v65 w66 =>
 kB v65 fun b67 => kIf b67
 (kint .i64 .eql v38 (.int .i64 8) fun v68 =>
 kB v68 fun b69 => kIf b69
 (keq Tryz.prog .eql 33 false true v39 .nilIface w66 fun v70 w71 =>
 kB v70 fun b72 => kIf b72
 (kld (.pointer (some ⟨3, 0, none⟩)) w71 fun v73 =>
 kcall Tryz.prog 17 #[v47, v73] w71 fun v74 w75 =>
 Q v74 w75)
 (Q (.bool false) w71))
 (Q (.bool false) w66))
 (Q (.bool false) w66))
 (Q (.bool false) w60))
 (Q (.bool false) w60))
 (Q (.bool false) w56))
 (Q (.bool false) w53)
def f8_1 (x2 x1 : Value) (J5 : Value → World → Prop) (Q : PQ) (w : World) : Prop :=
 kint .i64 .lss x2 (.int .i64 3) fun v11 =>
 kB v11 fun b76 => kIf b76
 (f8_2 x1 x2 J5 Q w)
 (f8_5 x1 Q w)
def f8_0 (x1 : Value) (Q : PQ) (w : World) : Prop :=
 kL fun (I : Value → World → Prop) (μ : Value → World → Nat) => I (.int .i64 0) w ∧ ∀ (x2 : Value) (w1 : World), I x2 w1 →
 f8_1 x2 x1 (fun y2 w2 => I y2 w2 ∧ μ y2 w2 < μ x2 w1) Q w1
def f8 (Q : PQ) (w : World) : Prop :=
 kbld [.pointer none, .pointer none, .int .i64 0, .int .i64 0, .int .i64 0] [] fun v1 =>
 kbld [.int .i64 0, .int .i64 0, .int .i64 0] [(0, 1, (.int .i64 1)), (1, 1, (.int .i64 7))] fun v2 =>
 kbld [.int .i64 0, .int .i64 0, .int .i64 0] [(0, 1, (.int .i64 1)), (1, 1, (.int .i64 2))] fun v3 =>
 kbld [.int .i64 0, .int .i64 0, .int .i64 0] [(0, 1, (.int .i64 7))] fun v4 =>
 kbldS [.int .i64 0, .int .i64 0, .int .i64 0] 3 [(0, 3, v2), (3, 3, v3), (6, 3, v4)] 67 w fun v5 w6 =>
 kcall Tryz.prog 10 #[v1, v5, .int .i64 10] w6 fun v7 w8 =>
 keq Tryz.prog .eql 48 false true v7 (.pointer none) w8 fun v9 w10 =>
 kB v9 fun b77 => kIf b77
 (Q (.bool false) w10)
 (f8_0 v7 Q w10)
theorem f8_ok {Q : PQ} {w : World} (h : f8 Q w) : Meets Tryz.prog 8 #[] w Q :=
 sound' (c := Tryz.f8.body.get rfl) [(5, [2])] Tryz.func8 rfl rfl (args := []) rfl (by kernel_rfl) h
def f10 (x0 x1 x2 : Value) (Q : PQ) (w : World) : Prop :=
 knew (Value.cells x0) 53 w fun v1 w2 =>
 kldN 5 v1 w2.drew fun v3 =>
 kG (w2.drew = w2.drew) <|
 kcall Tryz.prog 40 #[x1] w2.drew fun v4 w5 =>
 kG (kldN 5 v1 w5 fun v13 =>
 v13 = v3 ∧ w5 = w5) <|
 kmm .i64 true x2 (.int .i64 0) fun v6 =>
 kmm .i64 false v6 (.int .i64 4096) fun v8 =>
 kbld [.pointer none, .pointer none, .int .i64 0, .int .i64 0, .int .i64 0, .slice none 0 0, .int .i64 0, .slice none 0 0, .int .i64 0, .bool false] [(0, 5, v3), (5, 1, v4), (8, 1, v8)] fun v10 =>
 knew (Value.cells v10) 108 w5 fun v11 w12 =>
 Q v11 w12
theorem f10_ok {x0 x1 x2 : Value} {Q : PQ} {w : World} (h : f10 x0 x1 x2 Q w) : Meets Tryz.prog 10 #[x0, x1, x2] w Q :=
 sound' (c := Tryz.f10.body.get rfl) [] Tryz.func10 rfl rfl (args := [x0, x1, x2]) rfl (by kernel_rfl) h
def f11_1 (x0 x4 : Value) (Q : PQ) (w : World) : Prop :=
 kN x0 <|
 kfld 8 x0 fun v26 =>
 kld v26 w fun v27 =>
 kint .i64 .sub v27 (.int .i64 1) fun v28 =>
 kN x0 <|
 kfld 8 x0 fun v29 =>
 kst 1 v29 v28 w fun w30 =>
 kN x0 <|
 kfld 6 x0 fun v31 =>
 kld v31 w30 fun v32 =>
 kint .i64 .add v32 (.int .i64 1) fun v33 =>
 kN x0 <|
 kfld 6 x0 fun v34 =>
 kst 1 v34 v33 w30 fun w35 =>
 kfld 0 x4 fun v36 =>
 kld v36 w35 fun v37 =>
 kcall Tryz.prog 43 #[v37] w35 fun v38 w39 =>
 kext v38 0 fun v40 =>
 kext v38 1 fun v41 =>
 kldN 3 x4 w39.drew fun v42 =>
 kG (w39.drew = w39.drew) <|
 kcall Tryz.prog 45 #[x0, v40] w39.drew fun v43 w44 =>
 kG (kldN 3 x4 w44 fun v47 =>
 v47 = v42 ∧ w44 = w44) <|
 kcall Tryz.prog 44 #[x0, v42, v43] w44 fun v45 w46 =>
 Q (.tuple #[.bool true, .nilIface]) w46
def f11_0 (x0 : Value) (Q : PQ) (w : World) : Prop :=
 kN x0 <|
 kfld 5 x0 fun v8 =>
 kld v8 w.drew fun v9 =>
 kG (w.drew = w.drew) <|
 kN x0 <|
 kfld 6 x0 fun v10 =>
 kld v10 w.drew fun v11 =>
 kG (w.drew = w.drew) <|
 kix (some (.slice 67)) (some 3) v9 v11 fun v12 =>
 kldN 3 v12 w.drew fun v13 =>
 kG (w.drew = w.drew) <|
 knew #[.int .i64 0, .int .i64 0, .int .i64 0] 67 w.drew fun v14 w15 =>
 kG (kldN 3 v12 w15 fun v51 =>
 v51 = v13 ∧ w15 = w15) <|
 kG (kld v10 w15 fun v50 =>
 v50 = v11 ∧ w15 = w15) <|
 kG (kld v8 w15 fun v49 =>
 v49 = v9 ∧ w15 = w15) <|
 kst 3 v14 v13 w15 fun w16 =>
 kldN 3 v14 w16 fun v17 =>
 kcall Tryz.prog 42 #[x0, v17] w16 fun v18 w19 =>
 keq Tryz.prog .neq 33 false true v18 .nilIface w19 fun v20 w21 =>
 kB v20 fun b48 => kIf b48
 (kN x0 <|
 kfld 9 x0 fun v22 =>
 kst 1 v22 (.bool true) w21 fun w23 =>
 kcall Tryz.prog 41 #[v18] w23 fun v24 w25 =>
 Q (.tuple #[.bool false, v24]) w25)
 (f11_1 x0 v14 Q w21)
def f11 (x0 : Value) (Q : PQ) (w : World) : Prop :=
 keq Tryz.prog .eql 48 false true x0 (.pointer none) w fun v1 w2 =>
 kB v1 fun b53 => kIf b53
 (kld (.pointer (some ⟨4, 0, none⟩)) w2 fun v3 =>
 kcall Tryz.prog 41 #[v3] w2 fun v4 w5 =>
 Q (.tuple #[.bool false, v4]) w5)
 (kcall Tryz.prog 13 #[x0] w2 fun v6 w7 =>
 kB v6 fun b52 => kIf b52
 (Q (.tuple #[.bool false, .nilIface]) w7)
 (f11_0 x0 Q w7))
theorem f11_ok {x0 : Value} {Q : PQ} {w : World} (h : f11 x0 Q w) : Meets Tryz.prog 11 #[x0] w Q :=
 sound' (c := Tryz.f11.body.get rfl) [] Tryz.func11 rfl rfl (args := [x0]) rfl (by kernel_rfl) h
def f30_0 (x8 : Value) (J2 : World → Prop) (Q : PQ) (w : World) : Prop :=
 kcall Tryz.prog 11 #[x8] w fun v6 w7 =>
 kext v6 0 fun v8 =>
 kext v6 1 fun v9 =>
 kun .not (some .bool) v8 fun v10 =>
 kB v10 fun b13 => kIf b13
 (kcall Tryz.prog 12 #[x8] w7 fun v11 w12 =>
 Q (.tuple #[v11, v9]) w12)
 (J2 w7)
def f30 (x0 x1 x2 : Value) (Q : PQ) (w : World) : Prop :=
 knew (Value.cells x0) 53 w fun v1 w2 =>
 kldN 5 v1 w2 fun v3 =>
 kcall Tryz.prog 10 #[v3, x1, x2] w2 fun v4 w5 =>
 kL fun (I : World → Prop) (μ : World → Nat) => I w5 ∧ ∀ (w1 : World), I w1 →
 f30_0 v4 (fun  w2 => I w2 ∧ μ w2 < μ w1) Q w1
theorem f30_ok {x0 x1 x2 : Value} {Q : PQ} {w : World} (h : f30 x0 x1 x2 Q w) : Meets Tryz.prog 30 #[x0, x1, x2] w Q :=
 sound' (c := Tryz.f30.body.get rfl) [(2, [])] Tryz.func30 rfl rfl (args := [x0, x1, x2]) rfl (by kernel_rfl) h
def f31_3 (x0 x1 x5 : Value) (J4 : Value → World → Prop) (Q : PQ) (w : World) : Prop :=
 kint .i64 .add x5 (.int .i64 1) fun v14 =>
 J4 v14 w
def f31_2 (x0 x1 x5 : Value) (J4 : Value → World → Prop) (Q : PQ) (w : World) : Prop :=
 kix (some (.slice 3)) (some 1) x0 x5 fun v9 =>
 kld v9 w.drew fun v10 =>
 kG (w.drew = w.drew) <|
 kix (some (.slice 3)) (some 1) x1 x5 fun v11 =>
 kld v11 w.drew fun v12 =>
 kG (w.drew = w.drew) <|
 kint .i64 .neq v10 v12 fun v13 =>
 kB v13 fun b15 => kIf b15
 (Q (.bool false) w.drew)
 (f31_3 x0 x1 x5 J4 Q w.drew)
def f31_4 (Q : PQ) (w : World) : Prop :=
 Q (.bool true) w
def f31_1 (x5 x0 x1 : Value) (J4 : Value → World → Prop) (Q : PQ) (w : World) : Prop :=
 klen x0 fun v6 =>
 kint .i64 .lss x5 v6 fun v8 =>
 kB v8 fun b16 => kIf b16
 (f31_2 x0 x1 x5 J4 Q w)
 (f31_4 Q w)
def f31_0 (x0 x1 : Value) (Q : PQ) (w : World) : Prop :=
 kL fun (I : Value → World → Prop) (μ : Value → World → Nat) => I (.int .i64 0) w ∧ ∀ (x5 : Value) (w1 : World), I x5 w1 →
 f31_1 x5 x0 x1 (fun y5 w2 => I y5 w2 ∧ μ y5 w2 < μ x5 w1) Q w1
def f31 (x0 x1 : Value) (Q : PQ) (w : World) : Prop :=
 klen x0 fun v1 =>
 klen x1 fun v3 =>
 kint .i64 .neq v1 v3 fun v5 =>
 kB v5 fun b17 => kIf b17
 (Q (.bool false) w)
 (f31_0 x0 x1 Q w)
theorem f31_ok {x0 x1 : Value} {Q : PQ} {w : World} (h : f31 x0 x1 Q w) : Meets Tryz.prog 31 #[x0, x1] w Q :=
 sound' (c := Tryz.f31.body.get rfl) [(4, [5])] Tryz.func31 rfl rfl (args := [x0, x1]) rfl (by kernel_rfl) h
def f14_0 (x0 : Value) (Q : PQ) (w : World) : Prop :=
 kN x0 <|
 kfld 7 x0 fun v3 =>
 kld v3 w fun v4 =>
 kcall Tryz.prog 46 #[v4] w fun v5 w6 =>
 Q v5 w6
def f14 (x0 : Value) (Q : PQ) (w : World) : Prop :=
 keq Tryz.prog .eql 48 false true x0 (.pointer none) w fun v1 w2 =>
 kB v1 fun b7 => kIf b7
 (Q (.slice none 0 0) w2)
 (f14_0 x0 Q w2)
theorem f14_ok {x0 : Value} {Q : PQ} {w : World} (h : f14 x0 Q w) : Meets Tryz.prog 14 #[x0] w Q :=
 sound' (c := Tryz.f14.body.get rfl) [] Tryz.func14 rfl rfl (args := [x0]) rfl (by kernel_rfl) h
def f12_0 (x0 : Value) (Q : PQ) (w : World) : Prop :=
 kN x0 <|
 kfld 8 x0 fun v3 =>
 kld v3 w fun v4 =>
 Q v4 w
def f12 (x0 : Value) (Q : PQ) (w : World) : Prop :=
 keq Tryz.prog .eql 48 false true x0 (.pointer none) w fun v1 w2 =>
 kB v1 fun b5 => kIf b5
 (Q (.int .i64 0) w2)
 (f12_0 x0 Q w2)
theorem f12_ok {x0 : Value} {Q : PQ} {w : World} (h : f12 x0 Q w) : Meets Tryz.prog 12 #[x0] w Q :=
 sound' (c := Tryz.f12.body.get rfl) [] Tryz.func12 rfl rfl (args := [x0]) rfl (by kernel_rfl) h
def f13 (x0 : Value) (Q : PQ) (w : World) : Prop :=
 keq Tryz.prog .eql 48 false true x0 (.pointer none) w.drew fun v1 w2 =>
 kG (w2 = w.drew) <|
 kB v1 fun b3 => kIf (!b3)
 (kN x0 <|
 kfld 9 x0 fun v4 =>
 kld v4 w2 fun v5 =>
 kG (w2 = w2) <|
 kB v5 fun b6 => kIf (!b6)
 (kN x0 <|
 kfld 6 x0 fun v7 =>
 kld v7 w2 fun v8 =>
 kG (w2 = w2) <|
 kN x0 <|
 kfld 5 x0 fun v9 =>
 kld v9 w2 fun v10 =>
 kG (w2 = w2) <|
 klen v10 fun v11 =>
 kint .i64 .eql v8 v11 fun v13 =>
 Q v13 w2)
 (Q (.bool true) w2))
 (Q (.bool true) w2)
theorem f13_ok {x0 : Value} {Q : PQ} {w : World} (h : f13 x0 Q w) : Meets Tryz.prog 13 #[x0] w Q :=
 sound' (c := Tryz.f13.body.get rfl) [] Tryz.func13 rfl rfl (args := [x0]) rfl (by kernel_rfl) h
def f40_0 (x0 : Value) (Q : PQ) (w : World) : Prop :=
 kbldS [.int .i64 0, .int .i64 0, .int .i64 0] 0 [] 67 w fun v3 w4 =>
 ksem Tryz.prog (Builtin.append_ #[42, 42] 0 #[v3, x0]) w4 fun v5 w6 =>
 Q v5 w6
def f40 (x0 : Value) (Q : PQ) (w : World) : Prop :=
 keq Tryz.prog .eql 42 false true x0 (.slice none 0 0) w fun v1 w2 =>
 kB v1 fun b7 => kIf b7
 (Q (.slice none 0 0) w2)
 (f40_0 x0 Q w2)
theorem f40_ok {x0 : Value} {Q : PQ} {w : World} (h : f40 x0 Q w) : Meets Tryz.prog 40 #[x0] w Q :=
 sound' (c := Tryz.f40.body.get rfl) [] Tryz.func40 rfl rfl (args := [x0]) rfl (by kernel_rfl) h
def f41 (x0 : Value) (Q : PQ) (w : World) : Prop :=
 kcall Tryz.prog 25 #[(.string ⟨#[109, 105, 108, 108]⟩), x0] w fun v1 w2 =>
 Q v1 w2
theorem f41_ok {x0 : Value} {Q : PQ} {w : World} (h : f41 x0 Q w) : Meets Tryz.prog 41 #[x0] w Q :=
 sound' (c := Tryz.f41.body.get rfl) [] Tryz.func41 rfl rfl (args := [x0]) rfl (by kernel_rfl) h
def f42_2 (Q : PQ) (w : World) : Prop :=
 Q .nilIface w
def f42_1 (x55 : Value) (Q : PQ) (w : World) : Prop :=
 kB x55 fun b52 => kIf b52
 (kld (.pointer (some ⟨9, 0, none⟩)) w fun v51 =>
 Q v51 w)
 (f42_2 Q w)
def f42_0 (x0 x3 x7 x34 : Value) (Q : PQ) (w : World) : Prop :=
 kB x34 fun b53 => kIf b53
 (kld (.pointer (some ⟨3, 0, none⟩)) w fun v38 =>
 Q v38 w)
 (kB x7 fun b39 => kIf b39
 (kfld 1 x3 fun v40 =>
 kld v40 w.drew fun v41 =>
 kG (w.drew = w.drew) <|
 kint .i64 .lss v41 (.int .i64 0) fun v42 =>
 kB v42 fun b43 => kIf (!b43)
 (kfld 1 x3 fun v44 =>
 kld v44 w.drew fun v45 =>
 kG (w.drew = w.drew) <|
 kN x0 <|
 kfld 5 x0 fun v46 =>
 kld v46 w.drew fun v47 =>
 kG (w.drew = w.drew) <|
 klen v47 fun v48 =>
 kint .i64 .gtr v45 v48 fun v50 =>
 f42_1 v50 Q w.drew)
 (f42_1 (.bool true) Q w.drew))
 (f42_1 (.bool false) Q w.drew))
def f42 (x0 x1 : Value) (Q : PQ) (w : World) : Prop :=
 knew (Value.cells x1) 67 w fun v1 w2 =>
 kfld 0 v1 fun v3 =>
 kld v3 w2 fun v4 =>
 kcall Tryz.prog 43 #[v4] w2 fun v5 w6 =>
 kext v5 0 fun v7 =>
 kext v5 1 fun v8 =>
 kfld 0 v1 fun v9 =>
 kld v9 w6 fun v10 =>
 kcall Tryz.prog 79 #[v10] w6 fun v11 w12 =>
 kext v11 0 fun v13 =>
 kext v11 1 fun v14 =>
 kN x0 <|
 kfld 8 x0 fun v15 =>
 kld v15 w12 fun v16 =>
 kint .i64 .eql v16 (.int .i64 0) fun v17 =>
 kB v17 fun b55 => kIf b55
 (kld (.pointer (some ⟨0, 0, none⟩)) w12 fun v18 =>
 Q v18 w12)
 (kfld 0 v1 fun v19 =>
 kld v19 w12 fun v20 =>
 kcall Tryz.prog 80 #[v20] w12 fun v21 w22 =>
 kstr .eql v21 (.string ⟨#[]⟩) fun v23 =>
 kB v23 fun b54 => kIf b54
 (kld (.pointer (some ⟨8, 0, none⟩)) w22 fun v24 =>
 Q v24 w22)
 (kN x0 <|
 kfld 7 x0 fun v25 =>
 kld v25 w22 fun v26 =>
 klen v26 fun v27 =>
 kint .i64 .lss v27 v7 fun v29 =>
 kB v29 fun b30 => kIf (!b30)
 (kN x0 <|
 kfld 7 x0 fun v31 =>
 kld v31 w22 fun v32 =>
 klen v32 fun v33 =>
 kint .i64 .sub v33 v7 fun v35 =>
 kint .i64 .add v35 v8 fun v36 =>
 kint .i64 .gtr v36 (.int .i64 16) fun v37 =>
 f42_0 x0 v1 v13 v37 Q w22)
 (f42_0 x0 v1 v13 (.bool true) Q w22)))
theorem f42_ok {x0 x1 : Value} {Q : PQ} {w : World} (h : f42 x0 x1 Q w) : Meets Tryz.prog 42 #[x0, x1] w Q :=
 sound' (c := Tryz.f42.body.get rfl) [] Tryz.func42 rfl rfl (args := [x0, x1]) rfl (by kernel_rfl) h
def f43 (x0 : Value) (Q : PQ) (w : World) : Prop :=
 kcall Tryz.prog 81 #[x0] w fun v1 w2 =>
 kext v1 0 fun v3 =>
 kext v1 1 fun v4 =>
 knew #[(.string ⟨#[]⟩), .int .i64 0, .int .i64 0, .int .i64 0] 188 w2 fun v5 w6 =>
 kst 4 v5 v3 w6 fun w7 =>
 kfld 2 v5 fun v8 =>
 kld v8 w7.drew fun v9 =>
 kG (w7.drew = w7.drew) <|
 kfld 3 v5 fun v10 =>
 kld v10 w7.drew fun v11 =>
 kG (w7.drew = w7.drew) <|
 Q (.tuple #[v9, v11]) w7.drew
theorem f43_ok {x0 : Value} {Q : PQ} {w : World} (h : f43 x0 Q w) : Meets Tryz.prog 43 #[x0] w Q :=
 sound' (c := Tryz.f43.body.get rfl) [] Tryz.func43 rfl rfl (args := [x0]) rfl (by kernel_rfl) h
def f44_1 (x0 x2 : Value) (Q : PQ) (w : World) : Prop :=
 kix (some (.slice 3)) (some 1) x2 (.int .i64 0) fun v16 =>
 kld v16 w.drew fun v17 =>
 kG (w.drew = w.drew) <|
 kix (some (.slice 3)) (some 1) x2 (.int .i64 0) fun v18 =>
 kld v18 w.drew fun v19 =>
 kG (w.drew = w.drew) <|
 kbldS [.int .i64 0] 2 [(0, 1, v17), (1, 1, v19)] 3 w.drew fun v20 w21 =>
 kcall Tryz.prog 83 #[x0, v20] w21 fun v22 w23 =>
 Q (.tuple #[]) w23
def f44_3 (x0 x2 : Value) (Q : PQ) (w : World) : Prop :=
 kix (some (.slice 3)) (some 1) x2 (.int .i64 1) fun v25 =>
 kld v25 w.drew fun v26 =>
 kG (w.drew = w.drew) <|
 kix (some (.slice 3)) (some 1) x2 (.int .i64 0) fun v27 =>
 kld v27 w.drew fun v28 =>
 kG (w.drew = w.drew) <|
 kbldS [.int .i64 0] 2 [(0, 1, v26), (1, 1, v28)] 3 w.drew fun v29 w30 =>
 kcall Tryz.prog 83 #[x0, v29] w30 fun v31 w32 =>
 Q (.tuple #[]) w32
def f44_5 (x0 x2 : Value) (Q : PQ) (w : World) : Prop :=
 kix (some (.slice 3)) (some 1) x2 (.int .i64 0) fun v34 =>
 kld v34 w.drew fun v35 =>
 kG (w.drew = w.drew) <|
 kix (some (.slice 3)) (some 1) x2 (.int .i64 1) fun v36 =>
 kld v36 w.drew fun v37 =>
 kG (w.drew = w.drew) <|
 kix (some (.slice 3)) (some 1) x2 (.int .i64 0) fun v38 =>
 kld v38 w.drew fun v39 =>
 kG (w.drew = w.drew) <|
 kbldS [.int .i64 0] 3 [(0, 1, v35), (1, 1, v37), (2, 1, v39)] 3 w.drew fun v40 w41 =>
 kcall Tryz.prog 83 #[x0, v40] w41 fun v42 w43 =>
 Q (.tuple #[]) w43
def f44_7 (x0 x2 : Value) (Q : PQ) (w : World) : Prop :=
 kix (some (.slice 3)) (some 1) x2 (.int .i64 0) fun v45 =>
 kld v45 w fun v46 =>
 kun .neg (some (.int .i64)) v46 fun v47 =>
 kbldS [.int .i64 0] 1 [(0, 1, v47)] 3 w fun v48 w49 =>
 kcall Tryz.prog 83 #[x0, v48] w49 fun v50 w51 =>
 Q (.tuple #[]) w51
def f44_9 (x0 x2 : Value) (Q : PQ) (w : World) : Prop :=
 kix (some (.slice 3)) (some 1) x2 (.int .i64 0) fun v53 =>
 kld v53 w fun v54 =>
 kint .i64 .eql v54 (.int .i64 0) fun v55 =>
 kcall Tryz.prog 84 #[v55] w fun v56 w57 =>
 kbldS [.int .i64 0] 1 [(0, 1, v56)] 3 w57 fun v58 w59 =>
 kcall Tryz.prog 83 #[x0, v58] w59 fun v60 w61 =>
 Q (.tuple #[]) w61
def f44_11 (x0 x2 : Value) (Q : PQ) (w : World) : Prop :=
 kix (some (.slice 3)) (some 1) x2 (.int .i64 0) fun v63 =>
 kld v63 w fun v64 =>
 kcall Tryz.prog 85 #[x0, v64] w fun v65 w66 =>
 kbldS [.int .i64 0] 1 [(0, 1, v65)] 3 w66 fun v67 w68 =>
 kcall Tryz.prog 83 #[x0, v67] w68 fun v69 w70 =>
 Q (.tuple #[]) w70
def f44_15 (x0 : Value) (Q : PQ) (w : World) : Prop :=
 kN x0 <|
 kfld 9 x0 fun v73 =>
 kst 1 v73 (.bool true) w fun w74 =>
 Q (.tuple #[]) w74
def f44_18 (x0 x4 : Value) (Q : PQ) (w : World) : Prop :=
 kfld 1 x4 fun v79 =>
 kld v79 w fun v80 =>
 kN x0 <|
 kfld 6 x0 fun v81 =>
 kst 1 v81 v80 w fun w82 =>
 Q (.tuple #[]) w82
def f44_17 (x0 x2 x4 : Value) (Q : PQ) (w : World) : Prop :=
 kix (some (.slice 3)) (some 1) x2 (.int .i64 0) fun v76 =>
 kld v76 w fun v77 =>
 kint .i64 .neq v77 (.int .i64 0) fun v78 =>
 kB v78 fun b83 => kIf b83
 (Q (.tuple #[]) w)
 (f44_18 x0 x4 Q w)
def f44_22 (x0 x2 x4 : Value) (Q : PQ) (w : World) : Prop :=
 kN x0 <|
 kfld 0 x0 fun v86 =>
 kldN 3 x4 w.drew fun v87 =>
 kG (w.drew = w.drew) <|
 kix (some (.slice 3)) (some 1) x2 (.int .i64 0) fun v88 =>
 kld v88 w.drew fun v89 =>
 kG (w.drew = w.drew) <|
 kcall Tryz.prog 86 #[v86, v87, v89] w.drew fun v90 w91 =>
 Q (.tuple #[]) w91
def f44_25 (x0 x4 : Value) (Q : PQ) (w : World) : Prop :=
 kN x0 <|
 kfld 0 x0 fun v93 =>
 kldN 3 x4 w.drew fun v94 =>
 kG (w.drew = w.drew) <|
 kcall Tryz.prog 86 #[v93, v94, .int .i64 0] w.drew fun v95 w96 =>
 Q (.tuple #[]) w96
def f44_26 (x0 x2 x4 : Value) (Q : PQ) (w : World) : Prop :=
 kfld 0 x4 fun v97 =>
 kld v97 w.drew fun v98 =>
 kG (w.drew = w.drew) <|
 kix (some (.slice 3)) (some 1) x2 (.int .i64 0) fun v99 =>
 kld v99 w.drew fun v100 =>
 kG (w.drew = w.drew) <|
 kix (some (.slice 3)) (some 1) x2 (.int .i64 1) fun v101 =>
 kld v101 w.drew fun v102 =>
 kG (w.drew = w.drew) <|
 kcall Tryz.prog 87 #[v98, v100, v102] w.drew fun v103 w104 =>
 kbldS [.int .i64 0] 1 [(0, 1, v103)] 3 w104 fun v105 w106 =>
 kcall Tryz.prog 83 #[x0, v105] w106 fun v107 w108 =>
 Q (.tuple #[]) w108
def f44_24 (x0 x2 x4 x47 : Value) (Q : PQ) (w : World) : Prop :=
 kB x47 fun b109 => kIf b109
 (f44_25 x0 x4 Q w)
 (f44_26 x0 x2 x4 Q w)
def f44_23 (x0 x2 x4 x22 : Value) (Q : PQ) (w : World) : Prop :=
 kint .i64 .eql x22 (.int .i64 31) fun v92 =>
 kB v92 fun b115 => kIf b115
 (f44_24 x0 x2 x4 v92 Q w)
 (kint .i64 .eql x22 (.int .i64 32) fun v110 =>
 kB v110 fun b114 => kIf b114
 (f44_24 x0 x2 x4 v110 Q w)
 (kint .i64 .eql x22 (.int .i64 33) fun v111 =>
 kB v111 fun b113 => kIf b113
 (f44_24 x0 x2 x4 v111 Q w)
 (kint .i64 .eql x22 (.int .i64 34) fun v112 =>
 f44_24 x0 x2 x4 v112 Q w)))
def f44_21 (x0 x2 x4 x22 x44 : Value) (Q : PQ) (w : World) : Prop :=
 kB x44 fun b116 => kIf b116
 (f44_22 x0 x2 x4 Q w)
 (f44_23 x0 x2 x4 x22 Q w)
def f44_20 (x0 x2 x4 x22 : Value) (Q : PQ) (w : World) : Prop :=
 kint .i64 .eql x22 (.int .i64 23) fun v85 =>
 kB v85 fun b118 => kIf b118
 (f44_21 x0 x2 x4 x22 v85 Q w)
 (kint .i64 .eql x22 (.int .i64 27) fun v117 =>
 f44_21 x0 x2 x4 x22 v117 Q w)
def f44_19 (x0 x2 x4 x22 : Value) (Q : PQ) (w : World) : Prop :=
 kint .i64 .eql x22 (.int .i64 20) fun v84 =>
 kB v84 fun b119 => kIf b119
 (f44_18 x0 x4 Q w)
 (f44_20 x0 x2 x4 x22 Q w)
def f44_16 (x0 x2 x4 x22 : Value) (Q : PQ) (w : World) : Prop :=
 kint .i64 .eql x22 (.int .i64 21) fun v75 =>
 kB v75 fun b120 => kIf b120
 (f44_17 x0 x2 x4 Q w)
 (f44_19 x0 x2 x4 x22 Q w)
def f44_14 (x0 x2 x4 x22 : Value) (Q : PQ) (w : World) : Prop :=
 kint .i64 .eql x22 (.int .i64 35) fun v72 =>
 kB v72 fun b121 => kIf b121
 (f44_15 x0 Q w)
 (f44_16 x0 x2 x4 x22 Q w)
def f44_13 (x0 x2 x4 x22 x35 : Value) (Q : PQ) (w : World) : Prop :=
 kB x35 fun b122 => kIf b122
 (Q (.tuple #[]) w)
 (f44_14 x0 x2 x4 x22 Q w)
def f44_12 (x0 x2 x4 x22 : Value) (Q : PQ) (w : World) : Prop :=
 kint .i64 .eql x22 (.int .i64 0) fun v71 =>
 kB v71 fun b124 => kIf b124
 (f44_13 x0 x2 x4 x22 v71 Q w)
 (kint .i64 .eql x22 (.int .i64 3) fun v123 =>
 f44_13 x0 x2 x4 x22 v123 Q w)
def f44_10 (x0 x2 x4 x22 : Value) (Q : PQ) (w : World) : Prop :=
 kint .i64 .eql x22 (.int .i64 28) fun v62 =>
 kB v62 fun b125 => kIf b125
 (f44_11 x0 x2 Q w)
 (f44_12 x0 x2 x4 x22 Q w)
def f44_8 (x0 x2 x4 x22 : Value) (Q : PQ) (w : World) : Prop :=
 kint .i64 .eql x22 (.int .i64 19) fun v52 =>
 kB v52 fun b126 => kIf b126
 (f44_9 x0 x2 Q w)
 (f44_10 x0 x2 x4 x22 Q w)
def f44_6 (x0 x2 x4 x22 : Value) (Q : PQ) (w : World) : Prop :=
 kint .i64 .eql x22 (.int .i64 11) fun v44 =>
 kB v44 fun b127 => kIf b127
 (f44_7 x0 x2 Q w)
 (f44_8 x0 x2 x4 x22 Q w)
def f44_4 (x0 x2 x4 x22 : Value) (Q : PQ) (w : World) : Prop :=
 kint .i64 .eql x22 (.int .i64 5) fun v33 =>
 kB v33 fun b128 => kIf b128
 (f44_5 x0 x2 Q w)
 (f44_6 x0 x2 x4 x22 Q w)
def f44_2 (x0 x2 x4 x22 : Value) (Q : PQ) (w : World) : Prop :=
 kint .i64 .eql x22 (.int .i64 4) fun v24 =>
 kB v24 fun b129 => kIf b129
 (f44_3 x0 x2 Q w)
 (f44_4 x0 x2 x4 x22 Q w)
def f44_0 (x0 x2 x4 : Value) (Q : PQ) (w : World) : Prop :=
 kfld 0 x4 fun v13 =>
 kld v13 w fun v14 =>
 kint .i64 .eql v14 (.int .i64 2) fun v15 =>
 kB v15 fun b130 => kIf b130
 (f44_1 x0 x2 Q w)
 (f44_2 x0 x2 x4 v14 Q w)
def f44 (x0 x1 x2 : Value) (Q : PQ) (w : World) : Prop :=
 knew (Value.cells x1) 67 w fun v1 w2 =>
 kN x0 <|
 kfld 0 x0 fun v3 =>
 kldN 3 v1 w2.drew fun v4 =>
 kG (w2.drew = w2.drew) <|
 kcall Tryz.prog 82 #[v3, v4] w2.drew fun v5 w6 =>
 kext v5 0 fun v7 =>
 kext v5 1 fun v8 =>
 kB v8 fun b131 => kIf b131
 (kbldS [.int .i64 0] 1 [(0, 1, v7)] 3 w6 fun v9 w10 =>
 kcall Tryz.prog 83 #[x0, v9] w10 fun v11 w12 =>
 Q (.tuple #[]) w12)
 (f44_0 x0 x2 v1 Q w6)
theorem f44_ok {x0 x1 x2 : Value} {Q : PQ} {w : World} (h : f44 x0 x1 x2 Q w) : Meets Tryz.prog 44 #[x0, x1, x2] w Q :=
 sound' (c := Tryz.f44.body.get rfl) [] Tryz.func44 rfl rfl (args := [x0, x1, x2]) rfl (by kernel_rfl) h
def f45 (x0 x1 : Value) (Q : PQ) (w : World) : Prop :=
 kN x0 <|
 kfld 7 x0 fun v1 =>
 kld v1 w fun v2 =>
 klen v2 fun v3 =>
 kint .i64 .sub v3 x1 fun v5 =>
 kN x0 <|
 kfld 7 x0 fun v6 =>
 kld v6 w fun v7 =>
 ksl (some (.slice 3)) (some 1) v7 (some v5) none fun v8 =>
 kcall Tryz.prog 46 #[v8] w fun v9 w10 =>
 kN x0 <|
 kfld 7 x0 fun v11 =>
 kld v11 w10 fun v12 =>
 ksl (some (.slice 3)) (some 1) v12 none (some v5) fun v13 =>
 kN x0 <|
 kfld 7 x0 fun v14 =>
 kst 1 v14 v13 w10 fun w15 =>
 Q v9 w15
theorem f45_ok {x0 x1 : Value} {Q : PQ} {w : World} (h : f45 x0 x1 Q w) : Meets Tryz.prog 45 #[x0, x1] w Q :=
 sound' (c := Tryz.f45.body.get rfl) [] Tryz.func45 rfl rfl (args := [x0, x1]) rfl (by kernel_rfl) h
def f85 (x0 x1 : Value) (Q : PQ) (w : World) : Prop :=
 kN x0 <|
 kfld 0 x0 fun v1 =>
 kfld 0 v1 fun v2 =>
 kld v2 w fun v3 =>
 kcall Tryz.prog 143 #[v3, x1] w fun v4 w5 =>
 kext v4 0 fun v6 =>
 kext v4 1 fun v7 =>
 Q v6 w5
theorem f85_ok {x0 x1 : Value} {Q : PQ} {w : World} (h : f85 x0 x1 Q w) : Meets Tryz.prog 85 #[x0, x1] w Q :=
 sound' (c := Tryz.f85.body.get rfl) [] Tryz.func85 rfl rfl (args := [x0, x1]) rfl (by kernel_rfl) h
def f79_0 (Q : PQ) (w : World) : Prop :=
 Q (.tuple #[.bool false, .bool false]) w
def f79_2 (Q : PQ) (w : World) : Prop :=
 Q (.tuple #[.bool true, .bool false]) w
def f79_6 (x2 x3 : Value) (Q : PQ) (w : World) : Prop :=
 Q (.tuple #[x2, x3]) w
def f79_5 (x2 x5 : Value) (Q : PQ) (w : World) : Prop :=
 f79_6 x2 x5 Q w
def f79_4 (x5 : Value) (Q : PQ) (w : World) : Prop :=
 f79_5 (.bool true) x5 Q w
def f79_3 (x2 x5 x11 : Value) (Q : PQ) (w : World) : Prop :=
 kint .i64 .eql x11 (.int .i64 21) fun v10 =>
 kB v10 fun b11 => kIf b11
 (f79_4 x5 Q w)
 (f79_5 x2 x5 Q w)
def f79_1 (x2 x5 x11 : Value) (Q : PQ) (w : World) : Prop :=
 kint .i64 .eql x11 (.int .i64 20) fun v9 =>
 kB v9 fun b12 => kIf b12
 (f79_2 Q w)
 (f79_3 x2 x5 x11 Q w)
def f79 (x0 : Value) (Q : PQ) (w : World) : Prop :=
 kcall Tryz.prog 81 #[x0] w fun v1 w2 =>
 kext v1 0 fun v3 =>
 kext v1 1 fun v4 =>
 knew #[(.string ⟨#[]⟩), .int .i64 0, .int .i64 0, .int .i64 0] 188 w2 fun v5 w6 =>
 kst 4 v5 v3 w6 fun w7 =>
 kint .i64 .eql x0 (.int .i64 35) fun v8 =>
 kB v8 fun b13 => kIf b13
 (f79_0 Q w7)
 (f79_1 (.bool false) v4 x0 Q w7)
theorem f79_ok {x0 : Value} {Q : PQ} {w : World} (h : f79 x0 Q w) : Meets Tryz.prog 79 #[x0] w Q :=
 sound' (c := Tryz.f79.body.get rfl) [] Tryz.func79 rfl rfl (args := [x0]) rfl (by kernel_rfl) h
def f80 (x0 : Value) (Q : PQ) (w : World) : Prop :=
 kcall Tryz.prog 81 #[x0] w fun v1 w2 =>
 kext v1 0 fun v3 =>
 kext v1 1 fun v4 =>
 knew #[(.string ⟨#[]⟩), .int .i64 0, .int .i64 0, .int .i64 0] 188 w2 fun v5 w6 =>
 kst 4 v5 v3 w6 fun w7 =>
 kfld 0 v5 fun v8 =>
 kld v8 w7 fun v9 =>
 Q v9 w7
theorem f80_ok {x0 : Value} {Q : PQ} {w : World} (h : f80 x0 Q w) : Meets Tryz.prog 80 #[x0] w Q :=
 sound' (c := Tryz.f80.body.get rfl) [] Tryz.func80 rfl rfl (args := [x0]) rfl (by kernel_rfl) h
def f81_1 (x0 x2 : Value) (Q : PQ) (w : World) : Prop :=
 kix (some (.array 36 188)) (some 4) (.pointer (some ⟨18, 0, none⟩)) x0 fun v9 =>
 kldN 4 v9 w fun v10 =>
 kst 4 x2 v10 w fun w11 =>
 kldN 4 x2 w11 fun v12 =>
 Q (.tuple #[v12, .bool true]) w11
def f81_0 (x0 x2 x9 : Value) (Q : PQ) (w : World) : Prop :=
 kB x9 fun b13 => kIf b13
 (kbld [(.string ⟨#[]⟩), .int .i64 0, .int .i64 0, .int .i64 0] [] fun v6 =>
 kst 4 x2 v6 w fun w7 =>
 kldN 4 x2 w7 fun v8 =>
 Q (.tuple #[v8, .bool false]) w7)
 (f81_1 x0 x2 Q w)
def f81 (x0 : Value) (Q : PQ) (w : World) : Prop :=
 knew #[(.string ⟨#[]⟩), .int .i64 0, .int .i64 0, .int .i64 0] 188 w fun v1 w2 =>
 kint .i64 .lss x0 (.int .i64 0) fun v3 =>
 kB v3 fun b4 => kIf (!b4)
 (kint .i64 .geq x0 (.int .i64 36) fun v5 =>
 f81_0 x0 v1 v5 Q w2)
 (f81_0 x0 v1 (.bool true) Q w2)
theorem f81_ok {x0 : Value} {Q : PQ} {w : World} (h : f81 x0 Q w) : Meets Tryz.prog 81 #[x0] w Q :=
 sound' (c := Tryz.f81.body.get rfl) [] Tryz.func81 rfl rfl (args := [x0]) rfl (by kernel_rfl) h
def f82_1 (x0 x3 : Value) (Q : PQ) (w : World) : Prop :=
 kfld 1 x3 fun v35 =>
 kld v35 w.drew fun v36 =>
 kG (w.drew = w.drew) <|
 kN x0 <|
 kfld 2 x0 fun v37 =>
 kix (some (.array 2 3)) (some 1) v37 v36 fun v38 =>
 kld v38 w.drew fun v39 =>
 kG (w.drew = w.drew) <|
 Q (.tuple #[v39, .bool true]) w.drew
def f82_0 (x0 x3 x44 : Value) (Q : PQ) (w : World) : Prop :=
 kB x44 fun b40 => kIf b40
 (Q (.tuple #[.int .i64 0, .bool true]) w)
 (f82_1 x0 x3 Q w)
def f82_2 (Q : PQ) (w : World) : Prop :=
 Q (.tuple #[.int .i64 0, .bool false]) w
def f82 (x0 x1 : Value) (Q : PQ) (w : World) : Prop :=
 knew (Value.cells x1) 67 w fun v1 w2 =>
 kfld 0 v1 fun v3 =>
 kld v3 w2 fun v4 =>
 kint .i64 .eql v4 (.int .i64 1) fun v5 =>
 kB v5 fun b64 => kIf b64
 (kfld 1 v1 fun v6 =>
 kld v6 w2 fun v7 =>
 Q (.tuple #[v7, .bool true]) w2)
 (kint .i64 .eql v4 (.int .i64 22) fun v8 =>
 kB v8 fun b63 => kIf b63
 (kfld 1 v1 fun v9 =>
 kld v9 w2 fun v10 =>
 kfld 2 v1 fun v11 =>
 kld v11 w2 fun v12 =>
 kcall Tryz.prog 139 #[x0, v10, v12] w2 fun v13 w14 =>
 Q (.tuple #[v13, .bool true]) w14)
 (kint .i64 .eql v4 (.int .i64 24) fun v15 =>
 kB v15 fun b62 => kIf b62
 (kfld 1 v1 fun v16 =>
 kld v16 w2 fun v17 =>
 kcall Tryz.prog 140 #[x0, v17] w2 fun v18 w19 =>
 kext v18 0 fun v20 =>
 kext v18 1 fun v21 =>
 knew #[.int .i64 0, .int .i64 0, .int .i64 0, .int .i64 0, .int .i64 0, .int .i64 0] 102 w19 fun v22 w23 =>
 kst 6 v22 v20 w23 fun w24 =>
 kcall Tryz.prog 84 #[v21] w24 fun v25 w26 =>
 Q (.tuple #[v25, .bool true]) w26)
 (kint .i64 .eql v4 (.int .i64 25) fun v27 =>
 kB v27 fun b61 => kIf b61
 (kfld 1 v1 fun v28 =>
 kld v28 w2 fun v29 =>
 kint .i64 .lss v29 (.int .i64 0) fun v30 =>
 kB v30 fun b31 => kIf (!b31)
 (kfld 1 v1 fun v32 =>
 kld v32 w2 fun v33 =>
 kint .i64 .geq v33 (.int .i64 2) fun v34 =>
 f82_0 x0 v1 v34 Q w2)
 (f82_0 x0 v1 (.bool true) Q w2))
 (kint .i64 .eql v4 (.int .i64 26) fun v41 =>
 kB v41 fun b60 => kIf b60
 (kN x0 <|
 kfld 0 x0 fun v42 =>
 kld v42 w2.drew fun v43 =>
 kG (w2.drew = w2.drew) <|
 kfld 1 v1 fun v44 =>
 kld v44 w2.drew fun v45 =>
 kG (w2.drew = w2.drew) <|
 kcall Tryz.prog 141 #[v43, v45] w2.drew fun v46 w47 =>
 kext v46 0 fun v48 =>
 kext v46 1 fun v49 =>
 Q (.tuple #[v48, .bool true]) w47)
 (kint .i64 .eql v4 (.int .i64 29) fun v50 =>
 kB v50 fun b59 => kIf b59
 (kN x0 <|
 kfld 4 x0 fun v51 =>
 kld v51 w2 fun v52 =>
 Q (.tuple #[v52, .bool true]) w2)
 (kint .i64 .eql v4 (.int .i64 30) fun v53 =>
 kB v53 fun b58 => kIf b58
 (kN x0 <|
 kfld 0 x0 fun v54 =>
 kld v54 w2 fun v55 =>
 kcall Tryz.prog 142 #[v55] w2 fun v56 w57 =>
 Q (.tuple #[v56, .bool true]) w57)
 (f82_2 Q w2)))))))
theorem f82_ok {x0 x1 : Value} {Q : PQ} {w : World} (h : f82 x0 x1 Q w) : Meets Tryz.prog 82 #[x0, x1] w Q :=
 sound' (c := Tryz.f82.body.get rfl) [] Tryz.func82 rfl rfl (args := [x0, x1]) rfl (by kernel_rfl) h
def f139_1 (x2 x7 : Value) (Q : PQ) (w : World) : Prop :=
 kfld 1 x7 fun v13 =>
 kix (some (.array 4 3)) (some 1) v13 x2 fun v14 =>
 kld v14 w fun v15 =>
 Q v15 w
def f139_0 (x2 x7 x24 : Value) (Q : PQ) (w : World) : Prop :=
 kB x24 fun b16 => kIf b16
 (Q (.int .i64 0) w)
 (f139_1 x2 x7 Q w)
def f139 (x0 x1 x2 : Value) (Q : PQ) (w : World) : Prop :=
 kcall Tryz.prog 140 #[x0, x1] w fun v1 w2 =>
 kext v1 0 fun v3 =>
 kext v1 1 fun v4 =>
 knew #[.int .i64 0, .int .i64 0, .int .i64 0, .int .i64 0, .int .i64 0, .int .i64 0] 102 w2 fun v5 w6 =>
 kst 6 v5 v3 w6 fun w7 =>
 kun .not (some .bool) v4 fun v8 =>
 kB v8 fun b9 => kIf (!b9)
 (kint .i64 .lss x2 (.int .i64 0) fun v10 =>
 kB v10 fun b11 => kIf (!b11)
 (kint .i64 .geq x2 (.int .i64 4) fun v12 =>
 f139_0 x2 v5 v12 Q w7)
 (f139_0 x2 v5 (.bool true) Q w7))
 (f139_0 x2 v5 (.bool true) Q w7)
theorem f139_ok {x0 x1 x2 : Value} {Q : PQ} {w : World} (h : f139 x0 x1 x2 Q w) : Meets Tryz.prog 139 #[x0, x1, x2] w Q :=
 sound' (c := Tryz.f139.body.get rfl) [] Tryz.func139 rfl rfl (args := [x0, x1, x2]) rfl (by kernel_rfl) h
def f140_0 (x4 x6 x7 : Value) (Q : PQ) (w : World) : Prop :=
 kldN 6 x6 w.drew fun v14 =>
 kG (w.drew = w.drew) <|
 keq Tryz.prog .eql 33 false true x7 .nilIface w.drew fun v15 w16 =>
 kG (w16 = w.drew) <|
 kst 6 x4 v14 w16 fun w17 =>
 kG (keq Tryz.prog .eql 33 false true x7 .nilIface w17 fun v19 w20 =>
 v19 = v15 ∧ w20 = w17) <|
 kldN 6 x4 w17 fun v18 =>
 Q (.tuple #[v18, v15]) w17
def f140 (x0 x1 : Value) (Q : PQ) (w : World) : Prop :=
 knew #[.int .i64 0, .int .i64 0, .int .i64 0, .int .i64 0, .int .i64 0, .int .i64 0] 102 w fun v1 w2 =>
 (kN x0 <|
 kfld 0 x0 fun v3 =>
 kld v3 w2.drew fun v4 =>
 kG (w2.drew = w2.drew) <|
 kN x0 <|
 kfld 4 x0 fun v5 =>
 kld v5 w2.drew fun v6 =>
 kG (w2.drew = w2.drew) <|
 kcall Tryz.prog 192 #[v4, v6, x1] w2.drew fun v7 w8 =>
 knew #[.int .i64 0, .int .i64 0, .int .i64 0, .int .i64 0, .int .i64 0, .int .i64 0] 102 w8 fun v9 w10 =>
 kG (kld v5 w10 fun v22 =>
 v22 = v6 ∧ w10 = w10) <|
 kG (kld v3 w10 fun v21 =>
 v21 = v4 ∧ w10 = w10) <|
 kext v7 0 fun v11 =>
 kst 6 v9 v11 w10 fun w12 =>
 kext v7 1 fun v13 =>
 f140_0 v1 v9 v13 Q w12) ∧
 (knew #[.int .i64 0, .int .i64 0, .int .i64 0, .int .i64 0, .int .i64 0, .int .i64 0] 102 w2.drew fun v23 w24 =>
 kN x0 <|
 kfld 0 x0 fun v25 =>
 kld v25 w24 fun v26 =>
 kG (w24 = w24) <|
 kG (kld v25 w2.drew fun v35 =>
 v35 = v26 ∧ w2.drew = w2.drew) <|
 kN x0 <|
 kfld 4 x0 fun v27 =>
 kld v27 w24 fun v28 =>
 kG (w24 = w24) <|
 kG (kld v27 w2.drew fun v34 =>
 v34 = v28 ∧ w2.drew = w2.drew) <|
 kcall Tryz.prog 192 #[v26, v28, x1] w24 fun v29 w30 =>
 kext v29 0 fun v31 =>
 kst 6 v23 v31 w30 fun w32 =>
 kext v29 1 fun v33 =>
 f140_0 v1 v23 v33 Q w32)
theorem f140_ok {x0 x1 : Value} {Q : PQ} {w : World} (h : f140 x0 x1 Q w) : Meets Tryz.prog 140 #[x0, x1] w Q :=
 sound' (c := Tryz.f140.body.get rfl) [] Tryz.func140 rfl rfl (args := [x0, x1]) rfl (by kernel_rfl) h
def f86_0 (x0 x6 : Value) (Q : PQ) (w : World) : Prop :=
 kN x0 <|
 kfld 1 x0 fun v35 =>
 kld v35 w.drew fun v36 =>
 kG (w.drew = w.drew) <|
 kldN 4 x6 w.drew fun v37 =>
 kG (w.drew = w.drew) <|
 kcall Tryz.prog 146 #[v36, v37] w.drew fun v38 w39 =>
 Q (.tuple #[]) w39
def f86 (x0 x1 x2 : Value) (Q : PQ) (w : World) : Prop :=
 knew (Value.cells x1) 67 w fun v1 w2 =>
 kN x0 <|
 kfld 4 x0 fun v3 =>
 kld v3 w2 fun v4 =>
 kbld [.int .i64 0, .int .i64 0, .int .u32 0, .int .i64 0] [(1, 1, v4)] fun v5 =>
 knew #[.int .i64 0, .int .i64 0, .int .u32 0, .int .i64 0] 278 w2 fun v6 w7 =>
 kst 4 v6 v5 w7 fun w8 =>
 kfld 0 v1 fun v9 =>
 kld v9 w8 fun v10 =>
 kint .i64 .eql v10 (.int .i64 23) fun v11 =>
 kB v11 fun b64 => kIf b64
 (kN x0 <|
 kfld 0 x0 fun v12 =>
 kld v12 w8.drew fun v13 =>
 kG (w8.drew = w8.drew) <|
 kN x0 <|
 kfld 4 x0 fun v14 =>
 kld v14 w8.drew fun v15 =>
 kG (w8.drew = w8.drew) <|
 kfld 1 v1 fun v16 =>
 kld v16 w8.drew fun v17 =>
 kG (w8.drew = w8.drew) <|
 kfld 2 v1 fun v18 =>
 kld v18 w8.drew fun v19 =>
 kG (w8.drew = w8.drew) <|
 kcall Tryz.prog 144 #[v13, v15, v17, v19, x2] w8.drew fun v20 w21 =>
 Q (.tuple #[]) w21)
 (kint .i64 .eql v10 (.int .i64 27) fun v22 =>
 kB v22 fun b63 => kIf b63
 (kN x0 <|
 kfld 0 x0 fun v23 =>
 kld v23 w8.drew fun v24 =>
 kG (w8.drew = w8.drew) <|
 kfld 1 v1 fun v25 =>
 kld v25 w8.drew fun v26 =>
 kG (w8.drew = w8.drew) <|
 kcall Tryz.prog 145 #[v24, v26, x2] w8.drew fun v27 w28 =>
 Q (.tuple #[]) w28)
 (kint .i64 .eql v10 (.int .i64 31) fun v29 =>
 kB v29 fun b62 => kIf b62
 (kfld 1 v1 fun v30 =>
 kld v30 w8 fun v31 =>
 kcnv .u32 v31 fun v32 =>
 kbld [.int .i64 0, .int .i64 0, .int .u32 0, .int .i64 0] [(0, 1, (.int .i64 1)), (2, 1, v32)] fun v33 =>
 kst 4 v6 v33 w8 fun w34 =>
 f86_0 x0 v6 Q w34)
 (kint .i64 .eql v10 (.int .i64 32) fun v40 =>
 kB v40 fun b61 => kIf b61
 (kfld 0 v6 fun v41 =>
 kst 1 v41 (.int .i64 2) w8 fun w42 =>
 f86_0 x0 v6 Q w42)
 (kint .i64 .eql v10 (.int .i64 33) fun v43 =>
 kB v43 fun b60 => kIf b60
 (kfld 1 v1 fun v44 =>
 kld v44 w8.drew fun v45 =>
 kG (w8.drew = w8.drew) <|
 kfld 0 v6 fun v46 =>
 kst 1 v46 (.int .i64 3) w8.drew fun w47 =>
 kG (kld v44 w47 fun v50 =>
 v50 = v45 ∧ w47 = w47) <|
 kfld 3 v6 fun v48 =>
 kst 1 v48 v45 w47 fun w49 =>
 f86_0 x0 v6 Q w49)
 (kint .i64 .eql v10 (.int .i64 34) fun v51 =>
 kB v51 fun b59 => kIf b59
 (kfld 1 v1 fun v52 =>
 kld v52 w8.drew fun v53 =>
 kG (w8.drew = w8.drew) <|
 kfld 0 v6 fun v54 =>
 kst 1 v54 (.int .i64 4) w8.drew fun w55 =>
 kG (kld v52 w55 fun v58 =>
 v58 = v53 ∧ w55 = w55) <|
 kfld 3 v6 fun v56 =>
 kst 1 v56 v53 w55 fun w57 =>
 f86_0 x0 v6 Q w57)
 (Q (.tuple #[]) w8))))))
theorem f86_ok {x0 x1 x2 : Value} {Q : PQ} {w : World} (h : f86 x0 x1 x2 Q w) : Meets Tryz.prog 86 #[x0, x1, x2] w Q :=
 sound' (c := Tryz.f86.body.get rfl) [] Tryz.func86 rfl rfl (args := [x0, x1, x2]) rfl (by kernel_rfl) h
def f83 (x0 x1 : Value) (Q : PQ) (w : World) : Prop :=
 kN x0 <|
 kfld 7 x0 fun v1 =>
 kld v1 w fun v2 =>
 ksem Tryz.prog (Builtin.append_ #[57, 57] 0 #[v2, x1]) w fun v3 w4 =>
 kN x0 <|
 kfld 7 x0 fun v5 =>
 kst 1 v5 v3 w4 fun w6 =>
 Q (.tuple #[]) w6
theorem f83_ok {x0 x1 : Value} {Q : PQ} {w : World} (h : f83 x0 x1 Q w) : Meets Tryz.prog 83 #[x0, x1] w Q :=
 sound' (c := Tryz.f83.body.get rfl) [] Tryz.func83 rfl rfl (args := [x0, x1]) rfl (by kernel_rfl) h
def f84_0 (Q : PQ) (w : World) : Prop :=
 Q (.int .i64 0) w
def f84 (x0 : Value) (Q : PQ) (w : World) : Prop :=
 kB x0 fun b1 => kIf b1
 (Q (.int .i64 1) w)
 (f84_0 Q w)
theorem f84_ok {x0 : Value} {Q : PQ} {w : World} (h : f84 x0 Q w) : Meets Tryz.prog 84 #[x0] w Q :=
 sound' (c := Tryz.f84.body.get rfl) [] Tryz.func84 rfl rfl (args := [x0]) rfl (by kernel_rfl) h
def f87_1 (x1 x2 : Value) (Q : PQ) (w : World) : Prop :=
 kint .i64 .add x1 x2 fun v3 =>
 Q v3 w
def f87_0 (x1 x2 : Value) (Q : PQ) (w : World) : Prop :=
 kun .neg (some (.int .i64)) x2 fun v2 =>
 f87_1 x1 v2 Q w
def f87_4 (x1 x2 : Value) (Q : PQ) (w : World) : Prop :=
 kint .i64 .mul x1 x2 fun v6 =>
 Q v6 w
def f87_6 (x1 x2 : Value) (Q : PQ) (w : World) : Prop :=
 kcall Tryz.prog 147 #[x1, x2] w fun v8 w9 =>
 Q v8 w9
def f87_9 (x1 x2 : Value) (Q : PQ) (w : World) : Prop :=
 kcall Tryz.prog 147 #[x1, x2] w fun v12 w13 =>
 kint .i64 .mul x2 v12 fun v14 =>
 kint .i64 .sub x1 v14 fun v15 =>
 Q v15 w13
def f87_8 (x1 x2 : Value) (Q : PQ) (w : World) : Prop :=
 kint .i64 .eql x2 (.int .i64 0) fun v11 =>
 kB v11 fun b16 => kIf b16
 (Q (.int .i64 0) w)
 (f87_9 x1 x2 Q w)
def f87_11 (x1 x2 : Value) (Q : PQ) (w : World) : Prop :=
 kint .i64 .and x1 x2 fun v18 =>
 Q v18 w
def f87_13 (x1 x2 : Value) (Q : PQ) (w : World) : Prop :=
 kint .i64 .or x1 x2 fun v20 =>
 Q v20 w
def f87_15 (x1 x2 : Value) (Q : PQ) (w : World) : Prop :=
 kint .i64 .xor x1 x2 fun v22 =>
 Q v22 w
def f87_17 (x1 x2 : Value) (Q : PQ) (w : World) : Prop :=
 kcnv .u64 x2 fun v24 =>
 kint .u64 .rem v24 (.int .u64 64) fun v25 =>
 kint .i64 .shl x1 v25 fun v26 =>
 Q v26 w
def f87_19 (x1 x2 : Value) (Q : PQ) (w : World) : Prop :=
 kcnv .u64 x2 fun v28 =>
 kint .u64 .rem v28 (.int .u64 64) fun v29 =>
 kint .i64 .shr x1 v29 fun v30 =>
 Q v30 w
def f87_21 (x1 x2 : Value) (Q : PQ) (w : World) : Prop :=
 kint .i64 .eql x1 x2 fun v32 =>
 kcall Tryz.prog 84 #[v32] w fun v33 w34 =>
 Q v33 w34
def f87_22 (x1 x2 : Value) (Q : PQ) (w : World) : Prop :=
 kint .i64 .lss x1 x2 fun v35 =>
 kcall Tryz.prog 84 #[v35] w fun v36 w37 =>
 Q v36 w37
def f87_20 (x1 x2 x7 : Value) (Q : PQ) (w : World) : Prop :=
 kint .i64 .eql x7 (.int .i64 17) fun v31 =>
 kB v31 fun b38 => kIf b38
 (f87_21 x1 x2 Q w)
 (f87_22 x1 x2 Q w)
def f87_18 (x1 x2 x7 : Value) (Q : PQ) (w : World) : Prop :=
 kint .i64 .eql x7 (.int .i64 16) fun v27 =>
 kB v27 fun b39 => kIf b39
 (f87_19 x1 x2 Q w)
 (f87_20 x1 x2 x7 Q w)
def f87_16 (x1 x2 x7 : Value) (Q : PQ) (w : World) : Prop :=
 kint .i64 .eql x7 (.int .i64 15) fun v23 =>
 kB v23 fun b40 => kIf b40
 (f87_17 x1 x2 Q w)
 (f87_18 x1 x2 x7 Q w)
def f87_14 (x1 x2 x7 : Value) (Q : PQ) (w : World) : Prop :=
 kint .i64 .eql x7 (.int .i64 14) fun v21 =>
 kB v21 fun b41 => kIf b41
 (f87_15 x1 x2 Q w)
 (f87_16 x1 x2 x7 Q w)
def f87_12 (x1 x2 x7 : Value) (Q : PQ) (w : World) : Prop :=
 kint .i64 .eql x7 (.int .i64 13) fun v19 =>
 kB v19 fun b42 => kIf b42
 (f87_13 x1 x2 Q w)
 (f87_14 x1 x2 x7 Q w)
def f87_10 (x1 x2 x7 : Value) (Q : PQ) (w : World) : Prop :=
 kint .i64 .eql x7 (.int .i64 12) fun v17 =>
 kB v17 fun b43 => kIf b43
 (f87_11 x1 x2 Q w)
 (f87_12 x1 x2 x7 Q w)
def f87_7 (x1 x2 x7 : Value) (Q : PQ) (w : World) : Prop :=
 kint .i64 .eql x7 (.int .i64 10) fun v10 =>
 kB v10 fun b44 => kIf b44
 (f87_8 x1 x2 Q w)
 (f87_10 x1 x2 x7 Q w)
def f87_5 (x1 x2 x7 : Value) (Q : PQ) (w : World) : Prop :=
 kint .i64 .eql x7 (.int .i64 9) fun v7 =>
 kB v7 fun b45 => kIf b45
 (f87_6 x1 x2 Q w)
 (f87_7 x1 x2 x7 Q w)
def f87_3 (x1 x2 x7 : Value) (Q : PQ) (w : World) : Prop :=
 kint .i64 .eql x7 (.int .i64 8) fun v5 =>
 kB v5 fun b46 => kIf b46
 (f87_4 x1 x2 Q w)
 (f87_5 x1 x2 x7 Q w)
def f87_2 (x1 x2 x7 : Value) (Q : PQ) (w : World) : Prop :=
 kint .i64 .eql x7 (.int .i64 6) fun v4 =>
 kB v4 fun b47 => kIf b47
 (f87_1 x1 x2 Q w)
 (f87_3 x1 x2 x7 Q w)
def f87 (x0 x1 x2 : Value) (Q : PQ) (w : World) : Prop :=
 kint .i64 .eql x0 (.int .i64 7) fun v1 =>
 kB v1 fun b48 => kIf b48
 (f87_0 x1 x2 Q w)
 (f87_2 x1 x2 x0 Q w)
theorem f87_ok {x0 x1 x2 : Value} {Q : PQ} {w : World} (h : f87 x0 x1 x2 Q w) : Meets Tryz.prog 87 #[x0, x1, x2] w Q :=
 sound' (c := Tryz.f87.body.get rfl) [] Tryz.func87 rfl rfl (args := [x0, x1, x2]) rfl (by kernel_rfl) h
def f147_0 (x0 x1 : Value) (Q : PQ) (w : World) : Prop :=
 kint .i64 .quo x0 x1 fun v2 =>
 Q v2 w
def f147 (x0 x1 : Value) (Q : PQ) (w : World) : Prop :=
 kint .i64 .eql x1 (.int .i64 0) fun v1 =>
 kB v1 fun b3 => kIf b3
 (Q (.int .i64 0) w)
 (f147_0 x0 x1 Q w)
theorem f147_ok {x0 x1 : Value} {Q : PQ} {w : World} (h : f147 x0 x1 Q w) : Meets Tryz.prog 147 #[x0, x1] w Q :=
 sound' (c := Tryz.f147.body.get rfl) [] Tryz.func147 rfl rfl (args := [x0, x1]) rfl (by kernel_rfl) h
end
section
def opRows : List (List UInt8 × Int × Int × Int) := [
 ([110, 111, 112], 0, 0, 0),
 ([112, 117, 115, 104], 1, 0, 1),
 ([100, 117, 112], 0, 1, 2),
 ([100, 114, 111, 112], 0, 1, 0),
 ([115, 119, 97, 112], 0, 2, 2),
 ([111, 118, 101, 114], 0, 2, 3),
 ([97, 100, 100], 0, 2, 1),
 ([115, 117, 98], 0, 2, 1),
 ([109, 117, 108], 0, 2, 1),
 ([100, 105, 118], 0, 2, 1),
 ([109, 111, 100], 0, 2, 1),
 ([110, 101, 103], 0, 1, 1),
 ([97, 110, 100], 0, 2, 1),
 ([111, 114], 0, 2, 1),
 ([120, 111, 114], 0, 2, 1),
 ([115, 104, 108], 0, 2, 1),
 ([115, 104, 114], 0, 2, 1),
 ([101, 113], 0, 2, 1),
 ([108, 116], 0, 2, 1),
 ([110, 111, 116], 0, 1, 1),
 ([106, 117, 109, 112], 1, 0, 0),
 ([122, 101, 114, 111], 1, 1, 0),
 ([108, 111, 97, 100], 2, 0, 1),
 ([115, 116, 111, 114, 101], 2, 1, 0),
 ([104, 97, 115], 1, 0, 1),
 ([105, 110, 112, 117, 116], 1, 0, 1),
 ([114, 101, 115], 1, 0, 1),
 ([115, 101, 116, 114, 101, 115], 1, 1, 0),
 ([114, 97, 110, 100], 0, 1, 1),
 ([105, 100], 0, 0, 1),
 ([102, 114, 97, 109, 101], 0, 0, 1),
 ([115, 112, 97, 119, 110], 1, 0, 0),
 ([100, 101, 115, 112, 97, 119, 110], 0, 0, 0),
 ([105, 110, 115, 101, 114, 116], 1, 0, 0),
 ([114, 101, 109, 111, 118, 101], 1, 0, 0),
 ([104, 97, 108, 116], 0, 0, 0)]
abbrev OpRow := List UInt8 × Int × Int × Int
def tx (l : List UInt8) : ByteArray := ⟨l.toArray⟩
def rowC (r : OpRow) : List Value := [.string (tx r.1), .int .i64 r.2.1, .int .i64 r.2.2.1, .int .i64 r.2.2.2]
def RowsAt (w : World) : Prop := ∃ t f, blk w 18 = some (.cells (opRows.flatMap rowC).toArray t f)
theorem RowsAt.same {w w' : World} (h : RowsAt w) (hm : Same w w') : RowsAt w' := by
 obtain ⟨t, f, hb⟩ := h
 exact ⟨t, f, hm.get hb (fun h => h)⟩
theorem opRows_len : opRows.length = 36 := rfl
theorem codeOf_spec {w : World} (hr : RowsAt w) (n : Nat) (hn : n < 36) : Meets Tryz.prog 81 #[.int .i64 n] w fun v w' => v = .tuple #[.agg (rowC (opRows[n]'hn)).toArray, .bool true] ∧ Same w w' := by
 refine f81_ok ?_
 unfold f81
 refine knew_of fun w2 h2 hs2 hb2 => ?_
 rw [kint_lss, kB_bool]
 refine kIf_of (fun _ => ?_) (fun h => absurd h (by simp))
 rw [kint_geq, decide_eq_false (by omega)]
 unfold f81_0
 rw [kB_bool, kIf_false]
 unfold f81_1
 obtain ⟨t, f, hb⟩ := hr.same h2
 rw [kix_array]
 refine kG_of (by omega) ?_
 rw [add_mk]
 have hlen : (opRows.flatMap rowC).length = 36 * 4 := by
  rw [flat_len rowC 4 (fun _ => rfl) opRows, opRows_len]
 have hfl := flat_get rowC 4 (fun _ => rfl) opRows n hn
 generalize opRows.flatMap rowC = cs at *
 refine kldN_of (cs := rowC (opRows[n]'hn)) hb (by simp [hlen]; omega) (by simpa using hfl) (by omega) ?_
 refine kst_of (vs := rowC (opRows[n]'hn)) hb2 rfl rfl rfl (by simp) (by simp [rowC]) fun w11 h11 hs11 hb11 => ?_
 have hb11 : blk w11 w.heap.size = some (.cells (rowC (opRows[n]'hn)).toArray 188) := hb11
 refine kldN_of (cs := rowC (opRows[n]'hn)) hb11 (by simp [rowC]) rfl (by omega) ?_
 exact ⟨rfl, Mod.after h2 h11 (fun b hb => by omega)⟩
theorem flag_spec (b : Bool) (w : World) : Meets Tryz.prog 84 #[.bool b] w fun v w' => v = .int .i64 (flagF b) ∧ w' = w := by
 refine f84_ok ?_
 unfold f84
 rw [kB_bool]
 refine kIf_of (fun h => ?_) (fun h => ?_)
 ·rw [h]; exact ⟨rfl, rfl⟩
 ·unfold f84_0
  rw [h]; exact ⟨rfl, rfl⟩
theorem quotient_spec (y x : Int) (w : World) : Meets Tryz.prog 147 #[.int .i64 y, .int .i64 x] w fun v w' => v = .int .i64 (quoF y x) ∧ w' = w := by
 refine f147_ok ?_
 unfold f147
 rw [kint_eql, kB_bool]
 unfold quoF
 refine kIf_dec (fun h => ?_) (fun h => ?_)
 ·rw [if_pos h]; exact ⟨rfl, rfl⟩
 ·unfold f147_0
  rw [if_neg h, kint_quo]
  exact kG_of h ⟨rfl, rfl⟩
end
section
structure IN where
 op : Int
 a : Int
 b : Int
def IN.cells (x : IN) : List Value := [.int .i64 x.op, .int .i64 x.a, .int .i64 x.b]
structure HostM (σ : Type) where
 rd : σ → IN → Option Int
 wr : σ → IN → Int → σ
 dr : σ → Int → σ × Int
structure MS (σ : Type) where
 place : Nat
 st : List Int
 fuel : Nat
 over : Bool
 h : σ
def MS.lays {σ : Type} (m : MS σ) (ns : List Int) : MS σ := { m with st := m.st ++ ns }
def MS.goes {σ : Type} (m : MS σ) (p : Nat) : MS σ := { m with place := p }
def MS.hosts {σ : Type} (m : MS σ) (h : σ) : MS σ := { m with h := h }
def MS.ends {σ : Type} (m : MS σ) : MS σ := { m with over := true }
def rowF (op : Int) : OpRow := if 0 ≤ op then (opRows[op.toNat]?).getD ([], 0, 0, 0) else ([], 0, 0, 0)
theorem rowF_nat (n : Nat) (hn : n < 36) : rowF n = opRows[n]'hn := by
 unfold rowF
 rw [if_pos (by omega), Int.toNat_natCast, List.getElem?_eq_getElem (by simpa [opRows_len] using hn)]
 rfl
theorem rowF_no {op : Int} (h : op < 0 ∨ 36 ≤ op) : rowF op = ([], 0, 0, 0) := by
 unfold rowF
 split
 ·rw [List.getElem?_eq_none (by rw [opRows_len]; omega)]; rfl
 ·rfl
theorem rowF_bnd (op : Int) : 0 ≤ (rowF op).2.2.1 ∧ (rowF op).2.2.1 ≤ 2 ∧ 0 ≤ (rowF op).2.2.2 ∧ (rowF op).2.2.2 ≤ 3 := by
 have hall : ∀ r ∈ opRows, 0 ≤ r.2.2.1 ∧ r.2.2.1 ≤ 2 ∧ 0 ≤ r.2.2.2 ∧ r.2.2.2 ≤ 3 := by decide
 by_cases h : op < 0 ∨ 36 ≤ op
 ·rw [rowF_no h]; decide
 ·obtain ⟨n, rfl⟩ : ∃ n : Nat, op = (n : Int) := ⟨op.toNat, by omega⟩
  rw [rowF_nat n (by omega)]
  exact hall _ (List.getElem_mem _)
theorem tx_ne (op : Int) : (tx (rowF op).1 = ⟨#[]⟩) ↔ (rowF op).1 = [] := by
 constructor
 ·intro h
  have := congrArg (fun s : ByteArray => s.data.toList) h
  simpa [tx] using this
 ·intro h; rw [h]; rfl
theorem rowF_in {op : Int} (h : (rowF op).1 ≠ []) : 0 ≤ op ∧ op < 36 := by
 by_cases hh : op < 0 ∨ 36 ≤ op
 ·rw [rowF_no hh] at h; exact absurd rfl h
 ·omega
def takesF (op : Int) : Nat := (rowF op).2.2.1.toNat
def chkF {σ : Type} (len : Nat) (m : MS σ) (x : IN) : Nat :=
 if m.fuel = 0 then 15 else if (rowF x.op).1 = [] then 14
 else if (m.st.length : Int) < (rowF x.op).2.2.1 ∨ (m.st.length : Int) - (rowF x.op).2.2.1 + (rowF x.op).2.2.2 > 16 then 12
 else if (x.op = 20 ∨ x.op = 21) ∧ (x.a < 0 ∨ x.a > (len : Int)) then 13 else 0
def shlF (y x : Int) : Int := ishl .i64 y ((IntKind.u64.wrap x).tmod 64)
def shrF (y x : Int) : Int := ishr .i64 y ((IntKind.u64.wrap x).tmod 64)
def calcG (op y x : Int) : Int :=
 if op = 7 then IntKind.i64.wrap (y + IntKind.i64.wrap (0 - x)) else if op = 6 then IntKind.i64.wrap (y + x) else if op = 8 then IntKind.i64.wrap (y * x)
 else if op = 9 then quoF y x else if op = 10 then modF y x else if op = 12 then iand .i64 y x else if op = 13 then ior .i64 y x else if op = 14 then ixor .i64 y x
 else if op = 15 then shlF y x else if op = 16 then shrF y x else if op = 17 then flagF (decide (y = x)) else flagF (decide (y < x))
def nthF (a : List Int) (i : Nat) : Int := a.getD i 0
def doN {σ : Type} (H : HostM σ) (m : MS σ) (x : IN) (a : List Int) : MS σ :=
 if x.op = 2 then m.lays [nthF a 0, nthF a 0]
 else if x.op = 4 then m.lays [nthF a 1, nthF a 0]
 else if x.op = 5 then m.lays [nthF a 0, nthF a 1, nthF a 0]
 else if x.op = 11 then m.lays [IntKind.i64.wrap (0 - nthF a 0)]
 else if x.op = 19 then m.lays [flagF (decide (nthF a 0 = 0))]
 else if x.op = 28 then (m.hosts (H.dr m.h (nthF a 0)).1).lays [(H.dr m.h (nthF a 0)).2]
 else if x.op = 0 then m
 else if x.op = 3 then m
 else if x.op = 35 then m.ends
 else if x.op = 21 then (if nthF a 0 ≠ 0 then m else m.goes x.a.toNat)
 else if x.op = 20 then m.goes x.a.toNat
 else if x.op = 23 then m.hosts (H.wr m.h x (nthF a 0))
 else if x.op = 27 then m.hosts (H.wr m.h x (nthF a 0))
 else if x.op = 31 then m.hosts (H.wr m.h x 0)
 else if x.op = 32 then m.hosts (H.wr m.h x 0)
 else if x.op = 33 then m.hosts (H.wr m.h x 0)
 else if x.op = 34 then m.hosts (H.wr m.h x 0)
 else m.lays [calcG x.op (nthF a 0) (nthF a 1)]
def doF {σ : Type} (H : HostM σ) (m : MS σ) (x : IN) (a : List Int) : MS σ :=
 match H.rd m.h x with
 | some n => m.lays [n]
 | none => doN H m x a
def overF {σ : Type} (len : Nat) (m : MS σ) : Bool := m.over || decide ((m.place : Int) = (len : Int))
def preF {σ : Type} (m : MS σ) (x : IN) : MS σ := { m with fuel := m.fuel - 1, place := m.place + 1, st := m.st.take (m.st.length - takesF x.op) }
def stepF {σ : Type} (H : HostM σ) (l : List IN) (m : MS σ) : MS σ × Bool × Nat :=
 if overF l.length m = true then (m, false, 0)
 else match l[m.place]? with
  | none => (m, false, 0)
  | some x =>
   if chkF l.length m x ≠ 0 then (m.ends, false, chkF l.length m x)
   else (doF H (preF m x) x (m.st.drop (m.st.length - takesF x.op)), true, 0)
def runF {σ : Type} (H : HostM σ) (l : List IN) : Nat → MS σ → MS σ × Nat
 | 0, m => (m, 0)
 | n + 1, m => if (stepF H l m).2.1 = true then runF H l n (stepF H l m).1 else ((stepF H l m).1, (stepF H l m).2.2)
def MS.good {σ : Type} (len : Nat) (m : MS σ) : Prop := m.place ≤ len ∧ m.st.length ≤ 16 ∧ m.fuel ≤ 4096
theorem chkF_ok {σ : Type} {len : Nat} {m : MS σ} {x : IN} (h : chkF len m x = 0) : m.fuel ≠ 0 ∧ (0 ≤ x.op ∧ x.op < 36) ∧ takesF x.op ≤ m.st.length ∧ (m.st.length : Int) - takesF x.op + (rowF x.op).2.2.2 ≤ 16 ∧ ((x.op = 20 ∨ x.op = 21) → 0 ≤ x.a ∧ x.a ≤ len) := by
 unfold chkF at h
 have hb := rowF_bnd x.op
 split at h
 ·cases h
 ·split at h
  ·cases h
  ·rename_i h1 h2
   have hr := rowF_in h2
   split at h
   ·cases h
   ·rename_i h3
    split at h
    ·cases h
    ·rename_i h4
     have e : ((takesF x.op : Nat) : Int) = (rowF x.op).2.2.1 := by unfold takesF; omega
     refine ⟨h1, hr, by omega, by omega, fun hj => ?_⟩
     have : ¬ (x.a < 0 ∨ x.a > (len : Int)) := fun hh => h4 ⟨hj, hh⟩
     omega
theorem ite_at {α : Type} {P : α → Prop} {p : Prop} [Decidable p] {a b : α} (h1 : p → P a) (h2 : ¬ p → P b) : P (if p then a else b) := by
 by_cases h : p
 ·rw [if_pos h]; exact h1 h
 ·rw [if_neg h]; exact h2 h
def laysN (n : Nat) : Nat := if n = 2 ∨ n = 4 then 2 else if n = 5 then 3 else if n = 0 ∨ n = 3 ∨ n = 20 ∨ n = 21 ∨ n = 23 ∨ n = 27 ∨ 31 ≤ n then 0 else 1
theorem laysN_eq (n : Nat) (hn : n < 36) : (rowF n).2.2.2 = (laysN n : Int) := by
 have hlays : ∀ n : Nat, n < 36 → (opRows[n]?.map fun r => r.2.2.2) = some (laysN n : Int) := by decide
 have hl := hlays n hn
 rw [List.getElem?_eq_getElem (by simpa [opRows_len] using hn)] at hl
 rw [rowF_nat n hn]
 exact Option.some.inj hl
def Did {σ : Type} (m : MS σ) (x : IN) (z : MS σ) : Prop :=
 z.fuel = m.fuel ∧ (z.place = m.place ∨ (x.op = 20 ∨ x.op = 21) ∧ z.place = x.a.toNat) ∧ ((0 ≤ x.op ∧ x.op < 36) → z.st.length ≤ m.st.length + laysN x.op.toNat)
theorem Did.lays {σ : Type} {m : MS σ} {x : IN} {ns : List Int} {h : σ} (hn : (0 ≤ x.op ∧ x.op < 36) → ns.length ≤ laysN x.op.toNat) : Did m x ((m.hosts h).lays ns) :=
 ⟨rfl, .inl rfl, fun hx => by show (m.st ++ ns).length ≤ _; rw [List.length_append]; have := hn hx; omega⟩
theorem Did.none {σ : Type} {m z : MS σ} {x : IN} (h1 : z.fuel = m.fuel) (h2 : z.place = m.place) (h3 : z.st = m.st) : Did m x z :=
 ⟨h1, .inl h2, fun _ => by rw [h3]; omega⟩
theorem Did.jump {σ : Type} {m : MS σ} {x : IN} (h : x.op = 20 ∨ x.op = 21) : Did m x (m.goes x.a.toNat) :=
 ⟨rfl, .inr ⟨h, rfl⟩, fun _ => Nat.le_add_right _ _⟩
theorem laysN_at {op : Int} {n k : Nat} (h : op = (n : Int)) (hk : k ≤ laysN n) : (0 ≤ op ∧ op < 36) → k ≤ laysN op.toNat := by
 subst h; intro _; exact hk
theorem doN_did {σ : Type} (H : HostM σ) (m : MS σ) (x : IN) (a : List Int) : Did m x (doN H m x a) := by
 unfold doN
 refine ite_at (P := Did m x) (fun h => Did.lays (laysN_at (n := 2) h (Nat.le_of_ble_eq_true rfl))) (fun h2 => ?_)
 refine ite_at (P := Did m x) (fun h => Did.lays (laysN_at (n := 4) h (Nat.le_of_ble_eq_true rfl))) (fun h4 => ?_)
 refine ite_at (P := Did m x) (fun h => Did.lays (laysN_at (n := 5) h (Nat.le_of_ble_eq_true rfl))) (fun h5 => ?_)
 refine ite_at (P := Did m x) (fun h => Did.lays (laysN_at (n := 11) h (Nat.le_of_ble_eq_true rfl))) (fun h11 => ?_)
 refine ite_at (P := Did m x) (fun h => Did.lays (laysN_at (n := 19) h (Nat.le_of_ble_eq_true rfl))) (fun h19 => ?_)
 refine ite_at (P := Did m x) (fun h => Did.lays (laysN_at (n := 28) h (Nat.le_of_ble_eq_true rfl))) (fun h28 => ?_)
 refine ite_at (P := Did m x) (fun h => Did.none rfl rfl rfl) (fun h0 => ?_)
 refine ite_at (P := Did m x) (fun h => Did.none rfl rfl rfl) (fun h3 => ?_)
 refine ite_at (P := Did m x) (fun h => Did.none rfl rfl rfl) (fun h35 => ?_)
 refine ite_at (P := Did m x) (fun h => ite_at (P := Did m x) (fun _ => Did.none rfl rfl rfl) (fun _ => Did.jump (.inr h))) (fun h21 => ?_)
 refine ite_at (P := Did m x) (fun h => Did.jump (.inl h)) (fun h20 => ?_)
 refine ite_at (P := Did m x) (fun h => Did.none rfl rfl rfl) (fun h23 => ?_)
 refine ite_at (P := Did m x) (fun h => Did.none rfl rfl rfl) (fun h27 => ?_)
 refine ite_at (P := Did m x) (fun h => Did.none rfl rfl rfl) (fun h31 => ?_)
 refine ite_at (P := Did m x) (fun h => Did.none rfl rfl rfl) (fun h32 => ?_)
 refine ite_at (P := Did m x) (fun h => Did.none rfl rfl rfl) (fun h33 => ?_)
 refine ite_at (P := Did m x) (fun h => Did.none rfl rfl rfl) (fun h34 => ?_)
 refine Did.lays fun hx => ?_
 unfold laysN
 rw [if_neg (by omega), if_neg (by omega), if_neg (by omega)]
 exact Nat.le_refl _
def reads (op : Int) : Prop := op = 1 ∨ op = 22 ∨ op = 24 ∨ op = 25 ∨ op = 26 ∨ op = 29 ∨ op = 30
theorem doF_did {σ : Type} (H : HostM σ) (hrd : ∀ s x, H.rd s x ≠ none → reads x.op) (m : MS σ) (x : IN) (a : List Int) : Did m x (doF H m x a) := by
 have hrd := hrd m.h x
 unfold doF
 cases hr : H.rd m.h x with
 | some v =>
  refine Did.lays (h := m.h) fun hx => ?_
  have := hrd (by rw [hr]; exact fun h => by cases h)
  unfold reads at this
  unfold laysN
  rw [if_neg (by omega), if_neg (by omega), if_neg (by omega)]
  exact Nat.le_refl _
 | none => exact doN_did H m x a
theorem stepF_over {σ : Type} {H : HostM σ} {l : List IN} {m : MS σ} (h : overF l.length m = true) : stepF H l m = (m, false, 0) := by
 unfold stepF; rw [if_pos h]
theorem stepF_at {σ : Type} {H : HostM σ} {l : List IN} {m : MS σ} (h : ¬ overF l.length m = true) {x : IN} (hx : l[m.place]? = some x) :
  stepF H l m = if chkF l.length m x ≠ 0 then (m.ends, false, chkF l.length m x) else (doF H (preF m x) x (m.st.drop (m.st.length - takesF x.op)), true, 0) := by
 unfold stepF; rw [if_neg h, hx]
theorem stepF_none {σ : Type} {H : HostM σ} {l : List IN} {m : MS σ} (h : ¬ overF l.length m = true) (hx : l[m.place]? = none) : stepF H l m = (m, false, 0) := by
 unfold stepF; rw [if_neg h, hx]
theorem stepF_good {σ : Type} (H : HostM σ) (hrd : ∀ s x, H.rd s x ≠ none → reads x.op) (l : List IN) (m : MS σ) (h : m.good l.length) : (stepF H l m).1.good l.length ∧ (stepF H l m).1.fuel ≤ m.fuel ∧ ((stepF H l m).2.1 = true → (stepF H l m).1.fuel + 1 = m.fuel) := by
 obtain ⟨h1, h2, h3⟩ := h
 by_cases ho : overF l.length m = true
 ·rw [stepF_over ho]
  exact ⟨⟨h1, h2, h3⟩, Nat.le_refl _, fun e => Bool.noConfusion e⟩
 ·cases hx : l[m.place]? with
  | none =>
   rw [stepF_none ho hx]
   exact ⟨⟨h1, h2, h3⟩, Nat.le_refl _, fun e => Bool.noConfusion e⟩
  | some x =>
   rw [stepF_at ho hx]
   by_cases hc : chkF l.length m x ≠ 0
   ·rw [if_pos hc]
    exact ⟨⟨h1, h2, h3⟩, Nat.le_refl _, fun e => Bool.noConfusion e⟩
   ·rw [if_neg hc]
    have hc : chkF l.length m x = 0 := by omega
    obtain ⟨c1, c2, c3, c4, c5⟩ := chkF_ok hc
    have hp : m.place < l.length := by
     obtain ⟨hp, _⟩ := List.getElem?_eq_some_iff.1 hx
     exact hp
    obtain ⟨d1, d2, d3⟩ := doF_did H hrd (preF m x) x (m.st.drop (m.st.length - takesF x.op))
    have hb := rowF_bnd x.op
    have e : ((takesF x.op : Nat) : Int) = (rowF x.op).2.2.1 := by unfold takesF; omega
    have hl := laysN_eq x.op.toNat (by omega)
    rw [show ((x.op.toNat : Nat) : Int) = x.op by omega] at hl
    have d1 : _ = m.fuel - 1 := d1
    have d3 := d3 c2
    have e2 : (preF m x).st.length = m.st.length - takesF x.op := by
     show (m.st.take _).length = _
     rw [List.length_take]; omega
    rw [e2] at d3
    refine ⟨⟨?_, by show (doF H (preF m x) x _).st.length ≤ 16; omega, ?_⟩, ?_, fun _ => ?_⟩
    ·show (doF H (preF m x) x _).place ≤ _
     rcases d2 with d2 | ⟨hj, d2⟩
     ·rw [d2]; show m.place + 1 ≤ _; omega
     ·rw [d2]; have := c5 hj; omega
    ·show (doF H (preF m x) x _).fuel ≤ 4096
     rw [d1]; omega
    ·show (doF H (preF m x) x _).fuel ≤ m.fuel
     rw [d1]; omega
    ·show (doF H (preF m x) x _).fuel + 1 = m.fuel
     rw [d1]; omega
end
section
def f177_1 (x0 x1 : Value) (Q : PQ) (w : World) : Prop :=
 kbld [.int .i64 0, .int .i64 0, .slice none 0 0, .slice none 0 0] [(0, 1, x0), (1, 1, x1)] fun v11 =>
 knew (Value.cells v11) 382 w fun v12 w13 =>
 Q (.tuple #[v12, .nilIface]) w13
def f177_0 (x0 x1 x19 : Value) (Q : PQ) (w : World) : Prop :=
 kB x19 fun b14 => kIf b14
 (kld (.pointer (some ⟨2, 0, none⟩)) w fun v8 =>
 kcall Tryz.prog 25 #[(.string ⟨#[99, 111, 108, 117, 109, 110]⟩), v8] w fun v9 w10 =>
 Q (.tuple #[.pointer none, v9]) w10)
 (f177_1 x0 x1 Q w)
def f177 (x0 x1 : Value) (Q : PQ) (w : World) : Prop :=
 kint .i64 .lss x0 (.int .i64 0) fun v1 =>
 kB v1 fun b2 => kIf (!b2)
 (kint .i64 .geq x0 (.int .i64 16) fun v3 =>
 kB v3 fun b4 => kIf (!b4)
 (kint .i64 .lss x1 (.int .i64 1) fun v5 =>
 kB v5 fun b6 => kIf (!b6)
 (kint .i64 .gtr x1 (.int .i64 4) fun v7 =>
 f177_0 x0 x1 v7 Q w)
 (f177_0 x0 x1 (.bool true) Q w))
 (f177_0 x0 x1 (.bool true) Q w))
 (f177_0 x0 x1 (.bool true) Q w)
theorem f177_ok {x0 x1 : Value} {Q : PQ} {w : World} (h : f177 x0 x1 Q w) : Meets Tryz.prog 177 #[x0, x1] w Q :=
 sound' (c := Tryz.f177.body.get rfl) [] Tryz.func177 rfl rfl (args := [x0, x1]) rfl (by kernel_rfl) h
def f217 (x0 : Value) (Q : PQ) (w : World) : Prop :=
 kcall Tryz.prog 25 #[(.string ⟨#[99, 111, 108, 117, 109, 110]⟩), x0] w fun v1 w2 =>
 Q v1 w2
theorem f217_ok {x0 : Value} {Q : PQ} {w : World} (h : f217 x0 Q w) : Meets Tryz.prog 217 #[x0] w Q :=
 sound' (c := Tryz.f217.body.get rfl) [] Tryz.func217 rfl rfl (args := [x0]) rfl (by kernel_rfl) h
def f223_1 (x0 x1 : Value) (Q : PQ) (w : World) : Prop :=
 kN x0 <|
 kfld 1 x0 fun v16 =>
 kld v16 w fun v17 =>
 kint .i64 .mul x1 v17 fun v18 =>
 kN x0 <|
 kfld 2 x0 fun v19 =>
 kld v19 w.drew fun v20 =>
 kG (w.drew = w.drew) <|
 kN x0 <|
 kfld 1 x0 fun v21 =>
 kld v21 w.drew fun v22 =>
 kG (w.drew = w.drew) <|
 kint .i64 .add v18 v22 fun v23 =>
 ksl (some (.slice 3)) (some 1) v20 (some v18) (some v23) fun v24 =>
 Q (.tuple #[v24, .nilIface]) w.drew
def f223_0 (x0 x1 x12 : Value) (Q : PQ) (w : World) : Prop :=
 kB x12 fun b25 => kIf b25
 (kld (.pointer (some ⟨12, 0, none⟩)) w fun v13 =>
 kcall Tryz.prog 217 #[v13] w fun v14 w15 =>
 Q (.tuple #[.slice none 0 0, v14]) w15)
 (f223_1 x0 x1 Q w)
def f223 (x0 x1 : Value) (Q : PQ) (w : World) : Prop :=
 keq Tryz.prog .eql 321 false true x0 (.pointer none) w fun v1 w2 =>
 kB v1 fun b26 => kIf b26
 (kld (.pointer (some ⟨4, 0, none⟩)) w2 fun v3 =>
 kcall Tryz.prog 217 #[v3] w2 fun v4 w5 =>
 Q (.tuple #[.slice none 0 0, v4]) w5)
 (kint .i64 .lss x1 (.int .i64 0) fun v6 =>
 kB v6 fun b7 => kIf (!b7)
 (kN x0 <|
 kfld 3 x0 fun v8 =>
 kld v8 w2 fun v9 =>
 klen v9 fun v10 =>
 kint .i64 .geq x1 v10 fun v12 =>
 f223_0 x0 x1 v12 Q w2)
 (f223_0 x0 x1 (.bool true) Q w2))
theorem f223_ok {x0 x1 : Value} {Q : PQ} {w : World} (h : f223 x0 x1 Q w) : Meets Tryz.prog 223 #[x0, x1] w Q :=
 sound' (c := Tryz.f223.body.get rfl) [] Tryz.func223 rfl rfl (args := [x0, x1]) rfl (by kernel_rfl) h
def f218_2 (x0 x3 x12 x13 x14 : Value) (J2 : Value → World → Prop) (Q : PQ) (w : World) : Prop :=
 kint .i64 .add x14 (.int .i64 1) fun v13 =>
 J2 v13 w
def f218_1 (x0 x3 x12 x13 x14 : Value) (J2 : Value → World → Prop) (Q : PQ) (w : World) : Prop :=
 kix (some (.slice 3)) (some 1) x12 x14 fun v10 =>
 kld v10 w fun v11 =>
 kint .i64 .neq v11 (.int .i64 0) fun v12 =>
 kB v12 fun b14 => kIf b14
 (Q (.bool false) w)
 (f218_2 x0 x3 x12 x13 x14 J2 Q w)
def f218_3 (x0 x3 : Value) (Q : PQ) (w : World) : Prop :=
 kfld 0 x3 fun v15 =>
 kld v15 w.drew fun v16 =>
 kG (w.drew = w.drew) <|
 kN x0 <|
 kfld 0 x0 fun v17 =>
 kld v17 w.drew fun v18 =>
 kG (w.drew = w.drew) <|
 kint .i64 .eql v16 v18 fun v19 =>
 Q v19 w.drew
def f218_0 (x14 x0 x3 x12 x13 : Value) (J2 : Value → World → Prop) (Q : PQ) (w : World) : Prop :=
 kint .i64 .lss x14 x13 fun v9 =>
 kB v9 fun b20 => kIf b20
 (f218_1 x0 x3 x12 x13 x14 J2 Q w)
 (f218_3 x0 x3 Q w)
def f218 (x0 x1 : Value) (Q : PQ) (w : World) : Prop :=
 knew (Value.cells x1) 102 w fun v1 w2 =>
 kfld 1 v1 fun v3 =>
 kN x0 <|
 kfld 1 x0 fun v4 =>
 kld v4 w2 fun v5 =>
 ksl (some (.array 4 3)) (some 1) v3 (some v5) none fun v6 =>
 klen v6 fun v7 =>
 kL fun (I : Value → World → Prop) (μ : Value → World → Nat) => I (.int .i64 0) w2 ∧ ∀ (x14 : Value) (w1 : World), I x14 w1 →
 f218_0 x14 x0 v1 v6 v7 (fun y14 w2 => I y14 w2 ∧ μ y14 w2 < μ x14 w1) Q w1
theorem f218_ok {x0 x1 : Value} {Q : PQ} {w : World} (h : f218 x0 x1 Q w) : Meets Tryz.prog 218 #[x0, x1] w Q :=
 sound' (c := Tryz.f218.body.get rfl) [(2, [14])] Tryz.func218 rfl rfl (args := [x0, x1]) rfl (by kernel_rfl) h
def f224 (x0 x1 x2 : Value) (Q : PQ) (w : World) : Prop :=
 knew #[.int .i64 0, .int .i64 0, .int .i64 0, .int .i64 0, .int .i64 0, .int .i64 0] 102 w fun v1 w2 =>
 kN x0 <|
 kfld 0 x0 fun v3 =>
 kld v3 w2.drew fun v4 =>
 kG (w2.drew = w2.drew) <|
 kN x0 <|
 kfld 3 x0 fun v5 =>
 kld v5 w2.drew fun v6 =>
 kG (w2.drew = w2.drew) <|
 kix (some (.slice 3)) (some 1) v6 x1 fun v7 =>
 kld v7 w2.drew fun v8 =>
 kG (w2.drew = w2.drew) <|
 kbld [.int .i64 0, .int .i64 0, .int .i64 0, .int .i64 0, .int .i64 0, .int .i64 0] [(0, 1, v4), (5, 1, v8)] fun v9 =>
 knew #[.int .i64 0, .int .i64 0, .int .i64 0, .int .i64 0, .int .i64 0, .int .i64 0] 102 w2.drew fun v10 w11 =>
 kG (kld v7 w11 fun v22 =>
 v22 = v8 ∧ w11 = w11) <|
 kG (kld v5 w11 fun v21 =>
 v21 = v6 ∧ w11 = w11) <|
 kG (kld v3 w11 fun v20 =>
 v20 = v4 ∧ w11 = w11) <|
 kst 6 v10 v9 w11 fun w12 =>
 kfld 1 v10 fun v13 =>
 ksl (some (.array 4 3)) (some 1) v13 none none fun v14 =>
 ksem Tryz.prog (Builtin.copy_ #[57, 57] 0 #[v14, x2]) w12 fun v15 w16 =>
 kldN 6 v10 w16 fun v17 =>
 kst 6 v1 v17 w16 fun w18 =>
 kldN 6 v1 w18 fun v19 =>
 Q v19 w18
theorem f224_ok {x0 x1 x2 : Value} {Q : PQ} {w : World} (h : f224 x0 x1 x2 Q w) : Meets Tryz.prog 224 #[x0, x1, x2] w Q :=
 sound' (c := Tryz.f224.body.get rfl) [] Tryz.func224 rfl rfl (args := [x0, x1, x2]) rfl (by kernel_rfl) h
def f186_0 (x0 x3 : Value) (Q : PQ) (w : World) : Prop :=
 kN x0 <|
 kfld 2 x0 fun v15 =>
 kld v15 w.drew fun v16 =>
 kG (w.drew = w.drew) <|
 kfld 1 x3 fun v17 =>
 kN x0 <|
 kfld 1 x0 fun v18 =>
 kld v18 w.drew fun v19 =>
 kG (w.drew = w.drew) <|
 ksl (some (.array 4 3)) (some 1) v17 none (some v19) fun v20 =>
 ksem Tryz.prog (Builtin.append_ #[57, 57] 0 #[v16, v20]) w.drew fun v21 w22 =>
 kN x0 <|
 kfld 2 x0 fun v23 =>
 kst 1 v23 v21 w22 fun w24 =>
 kN x0 <|
 kfld 3 x0 fun v25 =>
 kld v25 w24.drew fun v26 =>
 kG (w24.drew = w24.drew) <|
 kfld 5 x3 fun v27 =>
 kld v27 w24.drew fun v28 =>
 kG (w24.drew = w24.drew) <|
 kbldS [.int .i64 0] 1 [(0, 1, v28)] 3 w24.drew fun v29 w30 =>
 kG (kld v25 w30 fun v40 =>
 v40 = v26 ∧ w30 = w30) <|
 ksem Tryz.prog (Builtin.append_ #[57, 57] 0 #[v26, v29]) w30 fun v31 w32 =>
 kN x0 <|
 kfld 3 x0 fun v33 =>
 kst 1 v33 v31 w32 fun w34 =>
 kN x0 <|
 kfld 3 x0 fun v35 =>
 kld v35 w34 fun v36 =>
 klen v36 fun v37 =>
 kint .i64 .sub v37 (.int .i64 1) fun v39 =>
 Q (.tuple #[v39, .nilIface]) w34
def f186 (x0 x1 : Value) (Q : PQ) (w : World) : Prop :=
 knew (Value.cells x1) 102 w fun v1 w2 =>
 keq Tryz.prog .eql 321 false true x0 (.pointer none) w2 fun v3 w4 =>
 kB v3 fun b42 => kIf b42
 (kld (.pointer (some ⟨4, 0, none⟩)) w4 fun v5 =>
 kcall Tryz.prog 217 #[v5] w4 fun v6 w7 =>
 Q (.tuple #[.int .i64 0, v6]) w7)
 (kldN 6 v1 w4 fun v8 =>
 kcall Tryz.prog 218 #[x0, v8] w4 fun v9 w10 =>
 kun .not (some .bool) v9 fun v11 =>
 kB v11 fun b41 => kIf b41
 (kld (.pointer (some ⟨2, 0, none⟩)) w10 fun v12 =>
 kcall Tryz.prog 217 #[v12] w10 fun v13 w14 =>
 Q (.tuple #[.int .i64 0, v13]) w14)
 (f186_0 x0 v1 Q w10))
theorem f186_ok {x0 x1 : Value} {Q : PQ} {w : World} (h : f186 x0 x1 Q w) : Meets Tryz.prog 186 #[x0, x1] w Q :=
 sound' (c := Tryz.f186.body.get rfl) [] Tryz.func186 rfl rfl (args := [x0, x1]) rfl (by kernel_rfl) h
def f243_0 (x0 x1 x4 x6 : Value) (Q : PQ) (w : World) : Prop :=
 kcall Tryz.prog 224 #[x0, x1, x6] w fun v12 w13 =>
 kst 6 x4 v12 w13 fun w14 =>
 kldN 6 x4 w14 fun v15 =>
 Q (.tuple #[v15, .nilIface]) w14
def f243 (x0 x1 : Value) (Q : PQ) (w : World) : Prop :=
 knew #[.int .i64 0, .int .i64 0, .int .i64 0, .int .i64 0, .int .i64 0, .int .i64 0] 102 w fun v1 w2 =>
 kcall Tryz.prog 223 #[x0, x1] w2 fun v3 w4 =>
 kext v3 0 fun v5 =>
 kext v3 1 fun v6 =>
 keq Tryz.prog .neq 33 false true v6 .nilIface w4 fun v7 w8 =>
 kB v7 fun b16 => kIf b16
 (kbld [.int .i64 0, .int .i64 0, .int .i64 0, .int .i64 0, .int .i64 0, .int .i64 0] [] fun v9 =>
 kst 6 v1 v9 w8 fun w10 =>
 kldN 6 v1 w10 fun v11 =>
 Q (.tuple #[v11, v6]) w10)
 (f243_0 x0 x1 v1 v5 Q w8)
theorem f243_ok {x0 x1 : Value} {Q : PQ} {w : World} (h : f243 x0 x1 Q w) : Meets Tryz.prog 243 #[x0, x1] w Q :=
 sound' (c := Tryz.f243.body.get rfl) [] Tryz.func243 rfl rfl (args := [x0, x1]) rfl (by kernel_rfl) h
def f230_1 (x0 x1 x2 x3 x4 x10 x12 : Value) (Q : PQ) (w : World) : Prop :=
 kcall Tryz.prog 224 #[x0, x1, x12] w fun v23 w24 =>
 knew #[.int .i64 0, .int .i64 0, .int .i64 0, .int .i64 0, .int .i64 0, .int .i64 0] 102 w24 fun v25 w26 =>
 kst 6 v25 v23 w26 fun w27 =>
 kix (some (.slice 3)) (some 1) x12 x2 fun v28 =>
 kst 1 v28 x3 w27 fun w29 =>
 kN x0 <|
 kfld 3 x0 fun v30 =>
 kld v30 w29 fun v31 =>
 kix (some (.slice 3)) (some 1) v31 x1 fun v32 =>
 kst 1 v32 x4 w29 fun w33 =>
 kldN 6 v25 w33 fun v34 =>
 kst 6 x10 v34 w33 fun w35 =>
 kldN 6 x10 w35 fun v36 =>
 Q (.tuple #[v36, .nilIface]) w35
def f230_0 (x0 x1 x2 x3 x4 x10 x12 x26 : Value) (Q : PQ) (w : World) : Prop :=
 kB x26 fun b37 => kIf b37
 (kbld [.int .i64 0, .int .i64 0, .int .i64 0, .int .i64 0, .int .i64 0, .int .i64 0] [] fun v17 =>
 kld (.pointer (some ⟨2, 0, none⟩)) w fun v18 =>
 kcall Tryz.prog 217 #[v18] w fun v19 w20 =>
 kst 6 x10 v17 w20 fun w21 =>
 kldN 6 x10 w21 fun v22 =>
 Q (.tuple #[v22, v19]) w21)
 (f230_1 x0 x1 x2 x3 x4 x10 x12 Q w)
def f230 (x0 x1 x2 x3 x4 : Value) (Q : PQ) (w : World) : Prop :=
 knew #[.int .i64 0, .int .i64 0, .int .i64 0, .int .i64 0, .int .i64 0, .int .i64 0] 102 w fun v1 w2 =>
 kcall Tryz.prog 223 #[x0, x1] w2 fun v3 w4 =>
 kext v3 0 fun v5 =>
 kext v3 1 fun v6 =>
 keq Tryz.prog .neq 33 false true v6 .nilIface w4 fun v7 w8 =>
 kB v7 fun b38 => kIf b38
 (kbld [.int .i64 0, .int .i64 0, .int .i64 0, .int .i64 0, .int .i64 0, .int .i64 0] [] fun v9 =>
 kst 6 v1 v9 w8 fun w10 =>
 kldN 6 v1 w10 fun v11 =>
 Q (.tuple #[v11, v6]) w10)
 (kint .i64 .lss x2 (.int .i64 0) fun v12 =>
 kB v12 fun b13 => kIf (!b13)
 (klen v5 fun v14 =>
 kint .i64 .geq x2 v14 fun v16 =>
 f230_0 x0 x1 x2 x3 x4 v1 v5 v16 Q w8)
 (f230_0 x0 x1 x2 x3 x4 v1 v5 (.bool true) Q w8))
theorem f230_ok {x0 x1 x2 x3 x4 : Value} {Q : PQ} {w : World} (h : f230 x0 x1 x2 x3 x4 Q w) : Meets Tryz.prog 230 #[x0, x1, x2, x3, x4] w Q :=
 sound' (c := Tryz.f230.body.get rfl) [] Tryz.func230 rfl rfl (args := [x0, x1, x2, x3, x4]) rfl (by kernel_rfl) h
end
section
attribute [local irreducible] kO kB kStr kInt kN kG kIf kfld kld kldN kst knew kmap kbld kbldS kext kcnv klenStr klen kcap kprt kprtN kbool kint kstr keq kun ksl kix kiv kta kmk kmm ksem ksemU kextf kcallV kcallM kcall kL
inductive Tag where
 | store | sch | spots | tabs | roll | places | row | atlas | nodes | amap
 | node (i : Nat) | table (i : Nat) | trows (i : Nat) | tmap (i : Nat)
 | col (i c : Nat) | ccells (i c : Nat) | cticks (i c : Nat)
abbrev Lab := Nat → Option Tag
def FP (o : Lab) (T : Tag → Prop) (k : Nat) : Prop := ∃ t, o k = some t ∧ T t
def LabEq (w : World) (o o' : Lab) : Prop := ∀ k, k < w.heap.size → o' k = o k
def ext (o : Lab) (n : Nat) (t : Tag) : Lab := fun k => if k < n then o k else some t
theorem LabEq.refl (w : World) (o : Lab) : LabEq w o o := fun _ _ => rfl
theorem LabEq.ext (w : World) (o : Lab) (t : Tag) : LabEq w o (ext o w.heap.size t) := fun k hk => by unfold Proofs.YtenokhokboicnaaGreatDoor.ext; rw [if_pos hk]
theorem LabEq.trans {w w' : World} {o o' o'' : Lab} (h : LabEq w o o') (h' : LabEq w' o' o'') (hs : w.heap.size ≤ w'.heap.size) : LabEq w o o'' := fun k hk => (h' k (by omega)).trans (h k hk)
theorem FP.mono {o : Lab} {T T' : Tag → Prop} (h : ∀ t, T t → T' t) {k : Nat} (hk : FP o T k) : FP o T' k := by
 obtain ⟨t, h1, h2⟩ := hk
 exact ⟨t, h1, h t h2⟩
theorem Mod.labs {w w1 w2 : World} {o o1 : Lab} {T : Tag → Prop} (h : Mod (FP o T) w w1) (hl : LabEq w o o1) (h' : Mod (FP o1 T) w1 w2) : Mod (FP o T) w w2 := by
 refine h.trans' (h'.mono fun k hk hf => ?_)
 rcases Nat.lt_or_ge k w.heap.size with hlt | hge
 ·left
  obtain ⟨t, h1, h2⟩ := hf
  exact ⟨t, by rw [← hl k hlt]; exact h1, h2⟩
 ·exact .inr hge
def nV (n : Int) : Value := .int .i64 n
theorem ones_nV (l : List Int) : oneCells (l.map nV) = true := ones_map nV (fun _ => rfl) l
def Part.vals (p : Part) : List Int := [p.v0, p.v1, p.v2, p.v3]
def Part.clean (p : Part) (wd : Nat) : Prop := ∀ x ∈ p.vals.drop wd, x = 0
def cellsF (wd : Nat) (p : Part) : List Value := (p.vals.take wd).map nV
def tickV (p : Part) : Value := nV p.tick
theorem cellsF_len {wd : Nat} (h : wd ≤ 4) (p : Part) : (cellsF wd p).length = wd := by
 simp [cellsF, Part.vals]; omega
theorem ptCol : isPtrT Tryz.prog 321 = true := by kernel_rfl
theorem sl1I : sl1 Tryz.prog 57 = true := by kernel_rfl
def colTag (i c : Nat) (t : Tag) : Prop := t = .col i c ∨ t = .ccells i c ∨ t = .cticks i c
def ColAt (o : Lab) (w : World) (b i c wd : Nat) (rows : List Part) : Prop :=
 o b = some (.col i c) ∧ 1 ≤ wd ∧ wd ≤ 4 ∧ c < 16 ∧ rows.length ≤ 1000000 ∧ (∀ p ∈ rows, p.comp = c ∧ p.clean wd) ∧
 ∃ cv tv, blk w b = some (.cells #[.int .i64 c, .int .i64 wd, cv, tv] 382) ∧ Own w cv 1 (rows.flatMap (cellsF wd)) ∧ Own w tv 1 (rows.map tickV) ∧ (∀ k, vblk cv k → o k = some (.ccells i c)) ∧ (∀ k, vblk tv k → o k = some (.cticks i c))
theorem ColAt.frame {o o' : Lab} {w w' : World} {b i c wd : Nat} {rows : List Part} (h : ColAt o w b i c wd rows) {fp : Nat → Prop} (hm : Mod fp w w') (hf : ∀ k t, o k = some t → colTag i c t → ¬ fp k) (ho : LabEq w o o') : ColAt o' w' b i c wd rows := by
 obtain ⟨h1, h2, h3, h4, h5, h6, cv, tv, hb, hc, ht, hcl, htl⟩ := h
 refine ⟨by rw [ho b (lt_of_blk hb)]; exact h1, h2, h3, h4, h5, h6, cv, tv, hm.get hb (hf b _ h1 (.inl rfl)), hc.mod hm fun k hk => hf k _ (hcl k hk) (.inr (.inl rfl)), ht.mod hm fun k hk => hf k _ (htl k hk) (.inr (.inr rfl)), fun k hk => ?_, fun k hk => ?_⟩
 ·rw [ho k (hc.vblk_lt hk)]; exact hcl k hk
 ·rw [ho k (ht.vblk_lt hk)]; exact htl k hk
theorem ColAt.same {o : Lab} {w w' : World} {b i c wd : Nat} {rows : List Part} (h : ColAt o w b i c wd rows) (hm : Same w w') : ColAt o w' b i c wd rows := h.frame hm (fun _ _ _ _ h => h) (LabEq.refl _ _)
theorem cells_eq {wd : Nat} {p : Part} (hwd : wd ≤ 4) (h : p.clean wd) : setAll (cellsF wd p) #[.int .i64 p.comp, .int .i64 0, .int .i64 0, .int .i64 0, .int .i64 0, .int .i64 p.tick] 1 = p.cells.toArray := by
 have hw : wd = 0 ∨ wd = 1 ∨ wd = 2 ∨ wd = 3 ∨ wd = 4 := by omega
 unfold Part.clean Part.vals at h
 rcases hw with rfl | rfl | rfl | rfl | rfl <;> simp [cellsF, Part.vals, nV, Part.cells] at h ⊢ <;> simp [h]
structure RowV (w : World) (b wd : Nat) (c : Nat) (rows : List Part) (n : Nat) (bc cp lt bt ct : Nat) (arr arrt : Array Value) (tc tt : TypeId) : Prop where
 col : blk w b = some (.cells #[.int .i64 c, .int .i64 wd, .slice (some ⟨bc, 0, none⟩) (rows.length * wd) cp, .slice (some ⟨bt, 0, none⟩) rows.length ct] 382)
 cells : blk w bc = some (.cells arr tc)
 ticks : blk w bt = some (.cells arrt tt)
 ccap : rows.length * wd ≤ cp
 at_ : (arr.toList.take (rows.length * wd)) = rows.flatMap (cellsF wd)
 att : (arrt.toList.take rows.length) = rows.map tickV
 csz : rows.length * wd ≤ arr.size
 tsz : rows.length ≤ arrt.size
 tcap : rows.length ≤ ct
theorem ColAt.view {o : Lab} {w : World} {b i c wd : Nat} {rows : List Part} (h : ColAt o w b i c wd rows) (hne : 0 < rows.length) :
  ∃ bc cp bt ct arr arrt tc tt, RowV w b wd c rows 0 bc cp 0 bt ct arr arrt tc tt ∧ o bc = some (.ccells i c) ∧ o bt = some (.cticks i c) ∧
   Own w (.slice (some ⟨bc, 0, none⟩) (rows.length * wd) cp) 1 (rows.flatMap (cellsF wd)) ∧ Own w (.slice (some ⟨bt, 0, none⟩) rows.length ct) 1 (rows.map tickV) := by
 obtain ⟨h1, h2, h3, h4, h5, h6, cv, tv, hb, hc, ht, hcl, htl⟩ := h
 have hcl' : (rows.flatMap (cellsF wd)).length = rows.length * wd := flat_len _ wd (cellsF_len h3) rows
 have hpos : 1 * 1 ≤ rows.length * wd := Nat.mul_le_mul hne h2
 obtain ⟨bc, n1, cp, arr, tc, rfl, hbc, l1, s1, q1, _, e1⟩ := hc.view (by intro e; rw [e] at hcl'; simp at hcl'; omega)
 obtain ⟨bt, n2, ct, arrt, tt, rfl, hbt, l2, s2, q2, _, e2⟩ := ht.view (by intro e; have := congrArg List.length e; simp at this; rw [this] at hne; simp at hne)
 obtain rfl : n1 = rows.length * wd := by omega
 obtain rfl : n2 = rows.length := by simpa using l2.symm
 rw [Nat.mul_one] at e1 e2 s1 s2
 exact ⟨bc, cp, bt, ct, arr, arrt, tc, tt, ⟨hb, hbc, hbt, q1, e1, e2, by omega, by omega, q2⟩, hcl bc ⟨_, _, _, rfl⟩, htl bt ⟨_, _, _, rfl⟩, hc, ht⟩
theorem RowV.mod {fp : Nat → Prop} {w w' : World} {b wd c : Nat} {rows : List Part} {n0 bc cp lt bt ct : Nat} {arr arrt : Array Value} {tc tt : TypeId} (h : RowV w b wd c rows n0 bc cp lt bt ct arr arrt tc tt) (hm : Mod fp w w') (h1 : ¬ fp b) (h2 : ¬ fp bc) (h3 : ¬ fp bt) : RowV w' b wd c rows n0 bc cp lt bt ct arr arrt tc tt :=
 ⟨hm.get h.col h1, hm.get h.cells h2, hm.get h.ticks h3, h.ccap, h.at_, h.att, h.csz, h.tsz, h.tcap⟩
theorem RowV.same {w w' : World} {b wd c : Nat} {rows : List Part} {n0 bc cp lt bt ct : Nat} {arr arrt : Array Value} {tc tt : TypeId} (h : RowV w b wd c rows n0 bc cp lt bt ct arr arrt tc tt) (hm : Same w w') : RowV w' b wd c rows n0 bc cp lt bt ct arr arrt tc tt := h.mod hm (fun h => h) (fun h => h) (fun h => h)
theorem RowV.tick {w : World} {b wd c : Nat} {rows : List Part} {n0 bc cp lt bt ct : Nat} {arr arrt : Array Value} {tc tt : TypeId} (h : RowV w b wd c rows n0 bc cp lt bt ct arr arrt tc tt) {n : Nat} (hn : n < rows.length) : arrt[n]? = some (nV rows[n].tick) := by
 have e := congrArg (fun l : List Value => l[n]?) h.att
 simp only [List.getElem?_take_of_lt hn, List.getElem?_map, List.getElem?_eq_getElem hn, Option.map_some] at e
 simpa [tickV] using e
theorem crow_spec {o : Lab} {w : World} {b i c wd : Nat} {rows : List Part} (h : ColAt o w b i c wd rows) {n : Nat} (hn : n < rows.length) {bc cp bt ct : Nat} {arr arrt : Array Value} {tc tt : TypeId} (hv : RowV w b wd c rows 0 bc cp 0 bt ct arr arrt tc tt) :
  Meets Tryz.prog 223 #[.pointer (some ⟨b, 0, none⟩), .int .i64 n] w fun v w' => v = .tuple #[.slice (some ⟨bc, n * wd, none⟩) wd (cp - n * wd), .nilIface] ∧ Same w w' := by
 obtain ⟨h1, h2, h3, h4, h5, h6, _⟩ := h
 have hb := hv.col
 have hnw : (n + 1) * wd ≤ rows.length * wd := Nat.mul_le_mul_right _ hn
 have hcap := hv.ccap
 have hbig : rows.length * wd ≤ 1000000 * 4 := Nat.mul_le_mul h5 h3
 rw [Nat.add_mul, Nat.one_mul] at hnw
 refine f223_ok ?_
 unfold f223
 rw [keq_ptr_nil ptCol]
 refine kB_at ?_
 refine kIf_F rfl ?_
 refine lss_at ?_
 refine kB_at ?_
 refine kIf_T rfl ?_
 refine kN_at ?_
 refine kfld_of ?_
 refine kld_at hb rfl ?_
 refine klen_at ?_
 refine geq_at ?_
 refine kB_at ?_
 refine kIf_F (decF (by omega)) ?_
 refine kN_at ?_
 refine kfld_of ?_
 refine kld_at hb rfl ?_
 have hmul : IntKind.i64.wrap ((n : Int) * (wd : Int)) = ((n * wd : Nat) : Int) := by
  rw [← Int.natCast_mul]
  rw [wrap_i64 (by omega) (by omega)]
 rw [kint_mul, hmul]
 have hb : blk w.drew b = _ := hb
 have hw := (Mod.refl (fun _ => False) w).drew
 generalize w.drew = wd1 at *
 refine kN_at ?_
 refine kfld_of ?_
 refine kld_at hb rfl ?_
 refine kG_of rfl ?_
 refine kN_at ?_
 refine kfld_of ?_
 refine kld_at hb rfl ?_
 refine kG_of rfl ?_
 refine add_at (by omega) (by omega) ?_
 rw [ksl_slice rfl rfl]
 refine kG_of (by simp only [loV_int, hiV_int]; omega) ?_
 simp only [loV_int, hiV_int, Int.toNat_natCast, Nat.mul_one]
 rw [if_neg (by omega)]
 simp only [Option.map_some, add_mk, Nat.zero_add]
 rw [show ((((n * wd : Nat) : Int) + (wd : Int)).toNat - n * wd) = wd by omega]
 exact ⟨rfl, hw⟩
theorem cpart_spec {o : Lab} {w : World} {b i c wd : Nat} {rows : List Part} (h : ColAt o w b i c wd rows) {n : Nat} (hn : n < rows.length) {bc cp bt ct : Nat} {arr arrt : Array Value} {tc tt : TypeId} (hv : RowV w b wd c rows 0 bc cp 0 bt ct arr arrt tc tt) (cpp : Nat) :
  Meets Tryz.prog 224 #[.pointer (some ⟨b, 0, none⟩), .int .i64 n, .slice (some ⟨bc, n * wd, none⟩) wd cpp] w fun v w' => v = .agg rows[n].cells.toArray ∧ Same w w' := by
 obtain ⟨h1, h2, h3, h4, h5, h6, _⟩ := h
 have hcl := h6 _ (List.getElem_mem hn)
 have htick := hv.tick hn
 have hb := hv.col
 have hbc := hv.cells
 have hbt := hv.ticks
 have hnw : (n + 1) * wd ≤ rows.length * wd := Nat.mul_le_mul_right _ hn
 rw [Nat.add_mul, Nat.one_mul] at hnw
 have hcsz := hv.csz
 have hcells : (arr.toList.drop (n * wd)).take wd = cellsF wd rows[n] := by
  have e := flat_get (cellsF wd) wd (cellsF_len h3) rows n hn
  rw [← hv.at_, List.drop_take, List.take_take, Nat.min_eq_left (by omega)] at e
  exact e
 refine f224_ok ?_
 unfold f224
 refine knew_of fun w2 h2' hs2 hb2 => ?_
 have m2 : Same w w2.drew := h2'.drew
 have hb2 : blk w2.drew w.heap.size = _ := hb2
 have hs2 : w2.drew.heap.size = w.heap.size + 1 := hs2
 generalize w2.drew = wa at *
 have hba := m2.get hb (fun h => h)
 have hbta := m2.get hbt (fun h => h)
 refine kN_at ?_
 refine kfld_of ?_
 refine kld_at hba rfl ?_
 refine kG_of rfl ?_
 refine kN_at ?_
 refine kfld_of ?_
 refine kld_at hba rfl ?_
 refine kG_of rfl ?_
 rw [kix_slice]
 refine kG_of (by omega) ?_
 rw [add_mk]
 refine kld_of (v := nV rows[n].tick) hbta (by simpa using htick) ?_
 refine kG_of rfl ?_
 refine kbld_of (cs := [.int .i64 c, .int .i64 0, .int .i64 0, .int .i64 0, .int .i64 0, nV rows[n].tick]) rfl ?_
 refine knew_of fun wb hb' hsb hbb => ?_
 have hbab := hb'.get hba (fun h => h)
 have hbtb := hb'.get hbta (fun h => h)
 refine kG_of (kld_of (v := nV rows[n].tick) hbtb (by simpa using htick) ⟨rfl, rfl⟩) ?_
 refine kG_of (kld_at hbab rfl ⟨rfl, rfl⟩) ?_
 refine kG_of (kld_at hbab rfl ⟨rfl, rfl⟩) ?_
 refine kst_of (vs := [.int .i64 c, .int .i64 0, .int .i64 0, .int .i64 0, .int .i64 0, nV rows[n].tick]) hbb rfl rfl rfl (by simp) (by simp) fun wc hc hsc hbc' => ?_
 have hbc' : blk wc wa.heap.size = some (.cells #[.int .i64 c, .int .i64 0, .int .i64 0, .int .i64 0, .int .i64 0, nV rows[n].tick] 102) := hbc'
 have mc : Same w wc := m2.trans (Mod.after hb' hc (fun b hb => by omega))
 refine kfld_of ?_
 refine ksl_arr_all ?_
 have hsl : SlIs wc (some ⟨bc, n * wd, none⟩) wd 1 (cellsF wd rows[n]) := ⟨by rw [cellsF_len h3]; omega, .inr ⟨bc, n * wd, arr, tc, _, rfl, mc.get hbc (fun h => h), by rw [Nat.mul_one]; exact hcells⟩⟩
 refine ksem_copy sl1I hbc' hsl (ones_nV _) (by rw [show min wd 4 = wd by omega]; simp; omega) fun wd' hd hsd hbd => ?_
 rw [show min wd 4 = wd by omega, show (cellsF wd rows[n]).take wd = cellsF wd rows[n] from List.take_of_length_le (by rw [cellsF_len h3]; omega), show (Value.int .i64 (c : Int)) = .int .i64 rows[n].comp by rw [hcl.1], show nV rows[n].tick = .int .i64 rows[n].tick from rfl, cells_eq h3 hcl.2] at hbd
 have md : Same w wd' := mc.trans' (hd.mono fun k hk e => .inr (by have := m2.size; omega))
 refine kldN_at hbd rfl (by omega) ?_
 have hb2d : blk wd' w.heap.size = some (.cells #[.int .i64 0, .int .i64 0, .int .i64 0, .int .i64 0, .int .i64 0, .int .i64 0] 102) := by
  have e1 := hb'.get hb2 (fun h => h)
  have e2 := hc.get e1 (by omega)
  exact hd.get e2 (by omega)
 refine kst_of (vs := rows[n].cells) hb2d rfl rfl rfl (by simp) (by simp [Part.cells]) fun we he hse hbe => ?_
 have hbe : blk we w.heap.size = some (.cells rows[n].cells.toArray 102) := hbe
 refine kldN_at hbe rfl (by omega) ?_
 exact ⟨rfl, md.trans' (he.mono fun k _ e => .inr (by omega))⟩
end
section
attribute [local irreducible] kO kB kStr kInt kN kG kIf kfld kld kldN kst knew kmap kbld kbldS kext kcnv klenStr klen kcap kprt kprtN kbool kint kstr keq kun ksl kix kiv kta kmk kmm ksem ksemU kextf kcallV kcallM kcall kL
theorem cRow_spec {o : Lab} {w : World} {b i c wd : Nat} {rows : List Part} (h : ColAt o w b i c wd rows) {n : Nat} (hn : n < rows.length) :
  Meets Tryz.prog 243 #[.pointer (some ⟨b, 0, none⟩), .int .i64 n] w fun v w' => v = .tuple #[.agg rows[n].cells.toArray, .nilIface] ∧ Same w w' := by
 refine f243_ok ?_
 unfold f243
 refine knew_of fun w2 h2 hs2 hb2 => ?_
 have hC := h.same h2
 obtain ⟨bc, cp, bt, ct, arr, arrt, tc, tt, hv, _⟩ := hC.view (by omega)
 refine kcall_of (crow_spec hC hn hv) ?_
 rintro v w4 ⟨rfl, h4⟩
 have m4 := h2.trans h4
 have hb4 := h4.get hb2 (fun h => h)
 refine kext_at rfl ?_
 refine kext_at rfl ?_
 rw [keq_nil_nil' ifErr]
 refine kB_at ?_
 refine kIf_F rfl ?_
 have hC4 := hC.same h4
 have hv4 := hv.same h4
 refine kcall_of (cpart_spec hC4 hn hv4 _) ?_
 rintro v w13 ⟨rfl, h13⟩
 have hb13 := h13.get hb4 (fun h => h)
 refine kst_of (vs := rows[n].cells) hb13 rfl rfl rfl (by simp) (by simp [Part.cells]) fun we he hse hbe => ?_
 have hbe : blk we w.heap.size = some (.cells rows[n].cells.toArray 102) := hbe
 refine kldN_at hbe rfl (by omega) ?_
 exact ⟨rfl, (m4.trans h13).trans' (he.mono fun k _ e => .inr (by omega))⟩
theorem rows_set_ok {c wd : Nat} {rows : List Part} {n : Nat} {x : Part} (h : ∀ p ∈ rows, p.comp = c ∧ p.clean wd) (hx : x.comp = c ∧ x.clean wd) : ∀ p ∈ rows.set n x, p.comp = c ∧ p.clean wd := by
 intro p hp
 rcases List.mem_or_eq_of_mem_set hp with h1 | rfl
 ·exact h p h1
 ·exact hx
theorem ColAt.write {o : Lab} {w w' : World} {b i c wd : Nat} {rows : List Part} (h : ColAt o w b i c wd rows) {n : Nat} (hn : n < rows.length) {bc cp bt ct : Nat} {arr arrt : Array Value} {tc tt : TypeId} (hv : RowV w b wd c rows 0 bc cp 0 bt ct arr arrt tc tt)
  (x : Part) (hx : x.comp = c ∧ x.clean wd) (hcl : o bc = some (.ccells i c)) (htl : o bt = some (.cticks i c)) (hO1 : Own w (.slice (some ⟨bc, 0, none⟩) (rows.length * wd) cp) 1 (rows.flatMap (cellsF wd))) (hO2 : Own w (.slice (some ⟨bt, 0, none⟩) rows.length ct) 1 (rows.map tickV))
  (hb : blk w' b = blk w b) (hbc : blk w' bc = some (.cells (setAll (cellsF wd x) arr (n * wd)) tc)) (hbt : blk w' bt = some (.cells (setAll [tickV x] arrt n) tt)) : ColAt o w' b i c wd (rows.set n x) := by
 obtain ⟨h1, h2, h3, h4, h5, h6, _⟩ := h
 have hnw : (n + 1) * wd ≤ rows.length * wd := Nat.mul_le_mul_right _ hn
 rw [Nat.add_mul, Nat.one_mul] at hnw
 have hcl' : (rows.flatMap (cellsF wd)).length = rows.length * wd := flat_len _ wd (cellsF_len h3) rows
 refine ⟨h1, h2, h3, h4, by simpa using h5, rows_set_ok h6 hx, .slice (some ⟨bc, 0, none⟩) (rows.length * wd) cp, .slice (some ⟨bt, 0, none⟩) rows.length ct, by rw [hb]; exact hv.col, ?_, ?_, ?_, ?_⟩
 ·have := hO1.put (us := cellsF wd x) (j := n * wd) hv.cells hbc (by rw [hcl', cellsF_len h3]; omega)
  rw [flat_set (cellsF_len h3) rows n x hn]
  rw [cellsF_len h3] at this
  exact this
 ·have := hO2.put (us := [tickV x]) (j := n) hv.ticks hbt (by simp; omega)
  rw [List.map_set]
  have e : (rows.map tickV).set n (tickV x) = (rows.map tickV).take n ++ [tickV x] ++ (rows.map tickV).drop (n + 1) := by
   rw [List.set_eq_take_append_cons_drop, if_pos (by simpa using hn)]; simp
  rw [e]; exact this
 ·rintro k ⟨_, _, _, e⟩; cases e; exact hcl
 ·rintro k ⟨_, _, _, e⟩; cases e; exact htl
def Part.setCell (p : Part) (cell : Nat) (v tick : Int) : Part := match cell with
 | 0 => { p with v0 := v, tick := tick }
 | 1 => { p with v1 := v, tick := tick }
 | 2 => { p with v2 := v, tick := tick }
 | _ => { p with v3 := v, tick := tick }
theorem setCell_comp (p : Part) (cell : Nat) (v tick : Int) : (p.setCell cell v tick).comp = p.comp := by unfold Part.setCell; split <;> rfl
theorem setCell_tick (p : Part) (cell : Nat) (v tick : Int) : (p.setCell cell v tick).tick = tick := by unfold Part.setCell; split <;> rfl
theorem setCell_clean {p : Part} {wd cell : Nat} (h : p.clean wd) (hc : cell < wd) (hw : wd ≤ 4) (v tick : Int) : (p.setCell cell v tick).clean wd := by
 have hw' : wd = 1 ∨ wd = 2 ∨ wd = 3 ∨ wd = 4 := by omega
 have hc' : cell = 0 ∨ cell = 1 ∨ cell = 2 ∨ cell = 3 := by omega
 unfold Part.clean Part.vals Part.setCell at *
 rcases hw' with rfl | rfl | rfl | rfl <;> rcases hc' with rfl | rfl | rfl | rfl <;> first | omega | simp_all
theorem setCell_cells {p : Part} {wd cell : Nat} (hc : cell < wd) (hw : wd ≤ 4) (v tick : Int) : cellsF wd (p.setCell cell v tick) = (cellsF wd p).set cell (nV v) := by
 have hw' : wd = 1 ∨ wd = 2 ∨ wd = 3 ∨ wd = 4 := by omega
 have hc' : cell = 0 ∨ cell = 1 ∨ cell = 2 ∨ cell = 3 := by omega
 unfold cellsF Part.vals Part.setCell
 rcases hw' with rfl | rfl | rfl | rfl <;> rcases hc' with rfl | rfl | rfl | rfl <;> first | omega | simp
theorem array_set_list {α : Type} (a : Array α) (i : Nat) (v : α) : (a.setIfInBounds i v).toList = a.toList.set i v := by simp
theorem arr_ext {a b : Array Value} (h : a.toList = b.toList) : a = b := Array.ext' h
theorem setAll_cell {arr : Array Value} {us : List Value} {j cell : Nat} {v : Value} (hj : j + us.length ≤ arr.size) (hc : cell < us.length) (hu : (arr.toList.drop j).take us.length = us) : arr.setIfInBounds (j + cell) v = setAll (us.set cell v) arr j := by
 apply arr_ext
 rw [array_set_list, setAll_list _ _ _ (by simpa using hj)]
 apply List.ext_getElem?
 intro k
 have hgu : ∀ m, m < us.length → arr.toList[j + m]? = us[m]? := by
  intro m hm
  have := congrArg (fun l : List Value => l[m]?) hu
  simp only [List.getElem?_take_of_lt hm, List.getElem?_drop] at this
  exact this
 have hl : arr.toList.length = arr.size := Array.length_toList
 have l1 : (arr.toList.take j).length = j := by rw [List.length_take]; omega
 rw [List.getElem?_set]
 rcases Nat.lt_or_ge k j with h1 | h1
 ·rw [if_neg (by omega), List.append_assoc, List.getElem?_append_left (by rw [l1]; exact h1), List.getElem?_take_of_lt h1]
 ·rw [List.append_assoc, List.getElem?_append_right (by rw [l1]; exact h1), l1]
  rcases Nat.lt_or_ge (k - j) us.length with h2 | h2
  ·rw [List.getElem?_append_left (by simpa using h2), List.getElem?_set]
   by_cases h3 : cell = k - j
   ·rw [if_pos (by omega), if_pos h3, if_pos (by omega), if_pos (by omega)]
   ·rw [if_neg (by omega), if_neg h3, ← hgu _ h2, show j + (k - j) = k by omega]
  ·rw [if_neg (by omega), List.getElem?_append_right (by simpa using h2), List.getElem?_drop, List.length_set]
   rw [show j + us.length + (k - j - us.length) = k by omega]
theorem setAll_one (v : Value) (arr : Array Value) (n : Nat) : setAll [v] arr n = arr.setIfInBounds n v := rfl
end
section
attribute [local irreducible] kO kB kStr kInt kN kG kIf kfld kld kldN kst knew kmap kbld kbldS kext kcnv klenStr klen kcap kprt kprtN kbool kint kstr keq kun ksl kix kiv kta kmk kmm ksem ksemU kextf kcallV kcallM kcall kL
def colW (i c : Nat) (t : Tag) : Prop := t = .ccells i c ∨ t = .cticks i c
theorem cSet_spec {o : Lab} {w : World} {b i c wd : Nat} {rows : List Part} (h : ColAt o w b i c wd rows) {n : Nat} (hn : n < rows.length) {cell : Nat} (hcell : cell < wd) (value frame : Int) :
  Meets Tryz.prog 230 #[.pointer (some ⟨b, 0, none⟩), .int .i64 n, .int .i64 cell, .int .i64 value, .int .i64 frame] w fun v w' =>
   v = .tuple #[.agg rows[n].cells.toArray, .nilIface] ∧ ColAt o w' b i c wd (rows.set n (rows[n].setCell cell value frame)) ∧ Mod (FP o (colW i c)) w w' := by
 obtain ⟨bc, cp, bt, ct, arr, arrt, tc, tt, hv, hbcl, hbtl, hO1, hO2⟩ := h.view (by omega)
 obtain ⟨hlab, hwd1, hwd4, hc16, hlen, hrows, _⟩ := id h
 have hnw : (n + 1) * wd ≤ rows.length * wd := Nat.mul_le_mul_right _ hn
 rw [Nat.add_mul, Nat.one_mul] at hnw
 have hcsz := hv.csz
 have htsz := hv.tsz
 have nbc : bc ≠ b := fun e => by rw [e, hlab] at hbcl; cases hbcl
 have nbt : bt ≠ b := fun e => by rw [e, hlab] at hbtl; cases hbtl
 have nct : bc ≠ bt := fun e => by rw [e, hbtl] at hbcl; cases hbcl
 have lb := lt_of_blk hv.col
 have lbc := lt_of_blk hv.cells
 have lbt := lt_of_blk hv.ticks
 refine f230_ok ?_
 unfold f230
 refine knew_of fun w2 h2 hs2 hb2 => ?_
 refine kcall_of (crow_spec (h.same h2) hn (hv.same h2)) ?_
 rintro v w4 ⟨rfl, h4⟩
 have m4 := h2.trans h4
 have hb4 := h4.get hb2 (fun h => h)
 refine kext_at rfl ?_
 refine kext_at rfl ?_
 rw [keq_nil_nil' ifErr]
 refine kB_at ?_
 refine kIf_F rfl ?_
 refine lss_at ?_
 refine kB_at ?_
 refine kIf_T rfl ?_
 refine klen_at ?_
 refine geq_at ?_
 refine kB_at ?_
 refine kIf_F (decF (by omega)) ?_
 refine kcall_of (cpart_spec (h.same m4) hn (hv.same m4) _) ?_
 rintro v w24 ⟨rfl, h24⟩
 have m24 := m4.trans h24
 have hb24 := h24.get hb4 (fun h => h)
 refine knew_of fun w26 h26 hs26 hb26 => ?_
 have m26 := m24.trans h26
 have hb26b := h26.get hb24 (fun h => h)
 have hs24 : w.heap.size + 1 ≤ w24.heap.size := by have := h4.size; have := h24.size; omega
 refine kst_of (vs := rows[n].cells) hb26 rfl rfl rfl (by simp) (by simp [Part.cells]) fun w27 h27 hs27 hb27 => ?_
 have hb27 : blk w27 w24.heap.size = some (.cells rows[n].cells.toArray 102) := hb27
 have m27 : Same w w27 := m26.trans' (h27.mono fun k _ e => .inr (by omega))
 have hv27 := hv.same m27
 rw [kix_slice]
 refine kG_of (by omega) ?_
 rw [add_mk]
 refine kst_of (vs := [nV value]) hv27.cells rfl rfl rfl (by simp; omega) (by simp) fun w29 h29 hs29 hb29 => ?_
 have hcol29 := h29.get hv27.col (fun e => nbc e.symm)
 have htk29 := h29.get hv27.ticks (fun e => nct e.symm)
 refine kN_at ?_
 refine kfld_of ?_
 refine kld_at hcol29 rfl ?_
 rw [kix_slice]
 refine kG_of (by omega) ?_
 rw [add_mk]
 refine kst_of (vs := [nV frame]) htk29 rfl rfl rfl (by simp; omega) (by simp) fun w33 h33 hs33 hb33 => ?_
 have hp33 := h33.get (h29.get hb27 (by omega)) (by omega)
 refine kldN_at hp33 rfl (by omega) ?_
 have hb33b := h33.get (h29.get (h27.get hb26b (by omega)) (by omega)) (by omega)
 refine kst_of (vs := rows[n].cells) hb33b rfl rfl rfl (by simp) (by simp [Part.cells]) fun w35 h35 hs35 hb35 => ?_
 have hb35 : blk w35 w.heap.size = some (.cells rows[n].cells.toArray 102) := hb35
 refine kldN_at hb35 rfl (by omega) ?_
 have hm : Mod (fun k => k = bc ∨ k = bt) w w35 := by
  have a1 : Mod (fun k => k = bc ∨ k = bt) w w33 := (Mod.of_same m27).trans ((h29.mono fun k _ e => .inl e).trans (h33.mono fun k _ e => .inr e))
  exact a1.trans' (h35.mono fun k _ e => .inr (by omega))
 refine ⟨rfl, ?_, hm.mono fun k _ e => ?_⟩
 ·have hcl := hrows _ (List.getElem_mem hn)
  refine ColAt.write h hn hv _ ⟨by rw [setCell_comp]; exact hcl.1, setCell_clean hcl.2 hcell hwd4 value frame⟩ hbcl hbtl hO1 hO2 ?_ ?_ ?_
  ·exact hm.kept b lb (by rintro (e | e); exact nbc e.symm; exact nbt e.symm)
  ·have e1 := h35.get (h33.get hb29 nct) (by omega)
   rw [e1]
   have hcells : (arr.toList.drop (n * wd)).take wd = cellsF wd rows[n] := by
    have e := flat_get (cellsF wd) wd (cellsF_len hwd4) rows n hn
    rw [← hv.at_, List.drop_take, List.take_take, Nat.min_eq_left (by omega)] at e
    exact e
   rw [setCell_cells hcell hwd4, setAll_one]
   have e2 := setAll_cell (arr := arr) (us := cellsF wd rows[n]) (j := n * wd) (cell := cell) (v := nV value) (by rw [cellsF_len hwd4]; omega) (by rw [cellsF_len hwd4]; exact hcell) (by rw [cellsF_len hwd4]; exact hcells)
   rw [← e2]
   simp
  ·have e1 := h35.get hb33 (by omega)
   rw [e1]
   simp [tickV, setCell_tick]
 ·rcases e with rfl | rfl
  ·exact ⟨_, hbcl, .inl rfl⟩
  ·exact ⟨_, hbtl, .inr rfl⟩
end
section
attribute [local irreducible] kO kB kStr kInt kN kG kIf kfld kld kldN kst knew kmap kbld kbldS kext kcnv klenStr klen kcap kprt kprtN kbool kint kstr keq kun ksl kix kiv kta kmk kmm ksem ksemU kextf kcallV kcallM kcall kL
theorem cNew_spec (o : Lab) (w : World) (i c wd : Nat) (hc : c < 16) (h1 : 1 ≤ wd) (h4 : wd ≤ 4) : Meets Tryz.prog 177 #[.int .i64 c, .int .i64 wd] w fun v w' =>
  v = .tuple #[.pointer (some ⟨w.heap.size, 0, none⟩), .nilIface] ∧ Same w w' ∧ w'.heap.size = w.heap.size + 1 ∧ ColAt (ext o w.heap.size (.col i c)) w' w.heap.size i c wd [] := by
 refine f177_ok ?_
 unfold f177
 refine lss_at ?_
 refine kB_at ?_
 refine kIf_T rfl ?_
 refine geq_at ?_
 refine kB_at ?_
 refine kIf_T (notT (decF (by omega))) ?_
 refine lss_at ?_
 refine kB_at ?_
 refine kIf_T (notT (decF (by omega))) ?_
 refine gtr_at ?_
 refine kB_at ?_
 refine kIf_F (decF (by omega)) ?_
 refine kbld_of (cs := [.int .i64 c, .int .i64 wd, .slice none 0 0, .slice none 0 0]) rfl ?_
 refine knew_of fun w2 hm2 hs2 hb2 => ?_
 have hb2 : blk w2 w.heap.size = some (.cells #[.int .i64 c, .int .i64 wd, .slice none 0 0, .slice none 0 0] 382) := hb2
 have nv : ∀ k, ¬ vblk (.slice none 0 0) k := by
  rintro k ⟨_, _, _, e⟩; cases e
 exact ⟨rfl, hm2, hs2, by simp [ext], h1, h4, hc, by simp, (fun p hp => by cases hp), _, _, hb2, Own.nil _ _, Own.nil _ _, fun k hk => absurd hk (nv k), fun k hk => absurd hk (nv k)⟩
theorem cfits_spec {o : Lab} {w : World} {b i c wd : Nat} {rows : List Part} (h : ColAt o w b i c wd rows) (p : Part) (hp : p.comp = c ∧ p.clean wd) :
  Meets Tryz.prog 218 #[.pointer (some ⟨b, 0, none⟩), .agg p.cells.toArray] w fun v w' => v = .bool true ∧ Same w w' := by
 obtain ⟨h1, h2, h3, h4, h5, h6, cv, tv, hb, _⟩ := id h
 refine f218_ok ?_
 unfold f218
 refine knew_of fun w2 hm2 hs2 hb2 => ?_
 have hb2 : blk w2 w.heap.size = some (.cells p.cells.toArray 102) := hb2
 have hbw := hm2.get hb (fun h => h)
 refine kfld_of ?_
 refine kN_at ?_
 refine kfld_of ?_
 refine kld_at hbw rfl ?_
 refine ksl_arr_lo h3 ?_
 refine klen_at ?_
 refine kL1_of (4 - wd) (fun j x wr => x = .int .i64 j ∧ Same w2 wr) ⟨lI1_0 ⟨rfl, Mod.refl _ _⟩, fun x wr hx => ?_⟩
 obtain ⟨j, hj, ⟨rfl, hm⟩, hJ⟩ := lI1_step hx
 unfold f218_0
 refine lss_at ?_
 refine kB_at ?_
 refine kIf_dec (fun hlt => ?_) (fun hge => ?_)
 ·have hlt : j < 4 - wd := by omega
  unfold f218_1
  rw [kix_slice]
  refine kG_of (by omega) ?_
  rw [add_mk, if_neg (by omega)]
  have hz : p.cells[1 + wd * 1 + ((j : Int)).toNat * 1]? = some (.int .i64 0) := by
   have hcl := hp.2
   unfold Part.clean Part.vals at hcl
   have hw' : wd = 1 ∨ wd = 2 ∨ wd = 3 := by omega
   have hj' : j = 0 ∨ j = 1 ∨ j = 2 := by omega
   rcases hw' with rfl | rfl | rfl <;> rcases hj' with rfl | rfl | rfl <;> first | omega | (simp at hcl; simp [Part.cells, hcl])
  refine kld_of (v := .int .i64 0) (hm.get hb2 (fun h => h)) ?_ ?_
  ·simpa using hz
  refine neq_at ?_
  refine kB_at ?_
  refine kIf_F rfl ?_
  refine add_at (by omega) (by omega) ?_
  rw [cast_succ]
  exact hJ _ _ hlt ⟨rfl, hm⟩
 ·have hb2r := hm.get hb2 (fun h => h)
  have hbr := hm.get hbw (fun h => h)
  have hm' := (hm2.trans hm).drew
  have hb2r : blk wr.drew _ = _ := hb2r
  have hbr : blk wr.drew _ = _ := hbr
  unfold f218_3
  generalize wr.drew = wd' at *
  refine kfld_of ?_
  refine kld_of (v := .int .i64 c) hb2r (by simp [Part.cells, hp.1]) ?_
  refine kG_of rfl ?_
  refine kN_at ?_
  refine kfld_of ?_
  refine kld_at hbr rfl ?_
  refine kG_of rfl ?_
  refine eql_at ?_
  exact ⟨by simp, hm'⟩
theorem cPush_spec {o : Lab} {w : World} {b i c wd : Nat} {rows : List Part} (h : ColAt o w b i c wd rows) (p : Part) (hp : p.comp = c ∧ p.clean wd) (hl : rows.length < 1000000) :
  Meets Tryz.prog 186 #[.pointer (some ⟨b, 0, none⟩), .agg p.cells.toArray] w fun v w' =>
   v = .tuple #[.int .i64 rows.length, .nilIface] ∧ ∃ o', LabEq w o o' ∧ ColAt o' w' b i c wd (rows ++ [p]) ∧ Mod (FP o (colTag i c)) w w' := by
 obtain ⟨h1, h2, h3, h4, h5, h6, cv, tv, hb, hc, ht, hcl, htl⟩ := id h
 have hlb := lt_of_blk hb
 have hcl' : (rows.flatMap (cellsF wd)).length = rows.length * wd := flat_len _ wd (cellsF_len h3) rows
 have hbig : rows.length * wd ≤ 1000000 * 4 := Nat.mul_le_mul h5 h3
 refine f186_ok ?_
 unfold f186
 refine knew_of fun w2 hm2 hs2 hb2 => ?_
 have hb2 : blk w2 w.heap.size = some (.cells p.cells.toArray 102) := hb2
 rw [keq_ptr_nil ptCol]
 refine kB_at ?_
 refine kIf_F rfl ?_
 refine kldN_at hb2 rfl (by omega) ?_
 refine kcall_of (cfits_spec (h.same hm2) p hp) ?_
 rintro v w10 ⟨rfl, h10⟩
 have m10 := (hm2.trans h10).drew
 have hbp : blk w10.drew w.heap.size = _ := h10.get hb2 (fun h => h)
 refine not_at ?_
 refine kB_at ?_
 refine kIf_F rfl ?_
 unfold f186_0
 generalize w10.drew = wa at *
 have hba := m10.get hb (fun h => h)
 refine kN_at ?_
 refine kfld_of ?_
 refine kld_at hba rfl ?_
 refine kG_of rfl ?_
 refine kfld_of ?_
 refine kN_at ?_
 refine kfld_of ?_
 refine kld_at hba rfl ?_
 refine kG_of rfl ?_
 refine ksl_arr_hi h3 ?_
 have hsl : SlIs wa (some ⟨w.heap.size, 0 + 1, none⟩) wd 1 (cellsF wd p) := by
  refine ⟨by rw [cellsF_len h3]; omega, .inr ⟨_, _, _, _, _, rfl, hbp, ?_⟩⟩
  rw [Nat.mul_one]
  have hw' : wd = 1 ∨ wd = 2 ∨ wd = 3 ∨ wd = 4 := by omega
  rcases hw' with rfl | rfl | rfl | rfl <;> rfl
 refine ksem_append apInt (by omega) (hc.same m10) (Src.ofSlIs (hk := slInt_is.choose_spec) 4 hsl (ones_nV _)) (by rw [hcl', cellsF_len h3]; omega) (by rw [hcl', cellsF_len h3]; omega) ?_
 intro v22 w22 ho22 hm22 hf22
 have ncb : ¬ vblk cv b := fun e => by have := hcl b e; rw [h1] at this; cases this
 have ntb : ¬ vblk tv b := fun e => by have := htl b e; rw [h1] at this; cases this
 have hb22 := hm22.get hba ncb
 have hp22 := hm22.get hbp (fun e => by have := hc.vblk_lt e; omega)
 obtain ⟨a', n', c', rfl, _⟩ := ho22.is
 refine kN_at ?_
 refine kfld_of ?_
 refine kst1_of hb22 rfl rfl (by simp) fun w24 h24 hs24 hb24 => ?_
 simp only [List.setIfInBounds_toArray, List.set_cons_succ, List.set_cons_zero] at hb24
 have hp24 := h24.get hp22 (by omega)
 have hsa := m10.size
 have n22 : ∀ k, vblk (.slice a' n' c') k → k ≠ b := fun k hk e => by
  subst e
  rcases hf22 _ hk with h | h
  ·exact ncb h
  ·omega
 have ho24 := (ho22.mod h24 fun k hk e => n22 k hk e)
 have ht24 : Own w24 tv 1 (rows.map tickV) := ((ht.same m10).mod hm22 fun k hk e => by
  have e1 := htl k hk
  have e2 := hcl k e
  rw [e1] at e2; cases e2).mod h24 fun k hk e => ntb (e ▸ hk)
 have hb24 : blk w24.drew b = _ := hb24
 have hp24 : blk w24.drew _ = _ := hp24
 have ho24 : Own w24.drew _ _ _ := ho24.same ((Mod.refl _ _).drew)
 have ht24 : Own w24.drew _ _ _ := ht24.same ((Mod.refl _ _).drew)
 have hA : Mod (fun k => k = b ∨ vblk cv k) w w24.drew := ((Mod.of_same m10).trans ((hm22.mono fun k _ h => .inr h).trans (h24.mono fun k _ h => .inl h))).drew
 have hs24 : w24.drew.heap.size = w22.heap.size := hs24
 generalize w24.drew = wb at *
 refine kN_at ?_
 refine kfld_of ?_
 refine kld_at hb24 rfl ?_
 refine kG_of rfl ?_
 refine kfld_of ?_
 refine kld_of (v := tickV p) hp24 (by simp [Part.cells, tickV, nV]) ?_
 refine kG_of rfl ?_
 refine kbldS_of (cs := [tickV p]) rfl fun w30 h30 hs30 hb30 => ?_
 have hb30b := h30.get hb24 (fun h => h)
 refine kG_of (kld_at hb30b rfl ⟨rfl, rfl⟩) ?_
 refine ksem_append apInt (by omega) (ht24.same h30) (Src.ofSlIs (hk := slInt_is.choose_spec) 1 (SlIs.blk hb30 rfl) rfl) (by simp; omega) (by simp; omega) ?_
 intro v32 w32 ho32 hm32 hf32
 have hb32 := hm32.get hb30b ntb
 obtain ⟨a2, n2, c2, rfl, _, hn2⟩ := ho32.is
 have hn2 : n2 = rows.length + 1 := by have := hn2 rfl; simpa using this
 subst hn2
 refine kN_at ?_
 refine kfld_of ?_
 refine kst1_of hb32 rfl rfl (by simp) fun w34 h34 hs34 hb34 => ?_
 simp only [List.setIfInBounds_toArray, List.set_cons_succ, List.set_cons_zero] at hb34
 refine kN_at ?_
 refine kfld_of ?_
 refine kld_at hb34 rfl ?_
 refine klen_at ?_
 refine sub_at (by omega) (by omega) ?_
 have hsz : w.heap.size ≤ wa.heap.size ∧ wa.heap.size ≤ w22.heap.size ∧ w22.heap.size ≤ w30.heap.size := ⟨hsa, hm22.size, by have := h30.size; omega⟩
 have n32 : ∀ k, vblk (.slice a2 (rows.length + 1) c2) k → k ≠ b := fun k hk e => by
  subst e
  rcases hf32 _ hk with h | h
  ·exact ntb h
  ·omega
 have hco : ∀ k, vblk (.slice a' n' c') k → ¬ vblk tv k := fun k hk e => by
  have e1 := htl k e
  rcases hf22 _ hk with h | h
  ·rw [hcl k h] at e1; cases e1
  ·have := ht.vblk_lt e; omega
 refine ⟨by rw [show (((rows.length + 1 : Nat) : Int) - 1) = (rows.length : Int) by omega], ext (ext o wa.heap.size (.ccells i c)) w30.heap.size (.cticks i c), ?_, ⟨?_, h2, h3, h4, by simp; omega, ?_, _, _, hb34, ?_, ?_, ?_, ?_⟩, ?_⟩
 ·intro k hk
  unfold ext
  rw [if_pos (by omega), if_pos (by omega)]
 ·unfold ext
  rw [if_pos (by omega), if_pos (by omega)]; exact h1
 ·intro q hq
  rcases List.mem_append.1 hq with h | h
  ·exact h6 q h
  ·obtain rfl : q = p := by simpa using h
   exact hp
 ·rw [List.flatMap_append, List.flatMap_cons, List.flatMap_nil, List.append_nil]
  exact ((ho24.same h30).mod hm32 hco).mod h34 fun k hk e => n22 k hk e
 ·rw [List.map_append]
  exact ho32.mod h34 fun k hk e => n32 k hk e
 ·intro k hk
  have hlt := ho22.vblk_lt hk
  unfold ext
  rw [if_pos (by omega)]
  rcases hf22 _ hk with h | h
  ·have := hc.vblk_lt h
   rw [if_pos (by omega)]; exact hcl k h
  ·rw [if_neg (by omega)]
 ·intro k hk
  unfold ext
  rcases hf32 _ hk with h | h
  ·have := ht.vblk_lt h
   rw [if_pos (by omega), if_pos (by omega)]; exact htl k h
  ·rw [if_neg (by omega)]
 ·have hB : Mod (fun k => k = b ∨ vblk cv k ∨ vblk tv k) w w34 := (hA.mono fun k _ h => h.imp id .inl).trans ((Mod.of_same h30).trans ((hm32.mono fun k _ h => .inr (.inr h)).trans (h34.mono fun k _ h => .inl h)))
  refine hB.mono fun k _ hk => ?_
  rcases hk with rfl | hk | hk
  ·exact ⟨_, h1, .inl rfl⟩
  ·exact ⟨_, hcl k hk, .inr (.inl rfl)⟩
  ·exact ⟨_, htl k hk, .inr (.inr rfl)⟩
end
section
attribute [local irreducible] kO kB kStr kInt kN kG kIf kfld kld kldN kst knew kmap kbld kbldS kext kcnv klenStr klen kcap kprt kprtN kbool kint kstr keq kun ksl kix kiv kta kmk kmm ksem ksemU kextf kcallV kcallM kcall kL
end
section
def f116_4 (x4 x18 x19 : Value) (J5 : Value → World → Prop) (Q : PQ) (w : World) : Prop :=
 kint .i64 .add x19 (.int .i64 1) fun v21 =>
 J5 v21 w
def f116_3 (x4 x18 x19 : Value) (J5 : Value → World → Prop) (Q : PQ) (w : World) : Prop :=
 kN x4 <|
 kfld 1 x4 fun v13 =>
 kld v13 w fun v14 =>
 kbldS [.int .i64 0] 1 [(0, 1, x19)] 3 w fun v15 w16 =>
 ksem Tryz.prog (Builtin.append_ #[57, 57] 0 #[v14, v15]) w16 fun v17 w18 =>
 kN x4 <|
 kfld 1 x4 fun v19 =>
 kst 1 v19 v17 w18 fun w20 =>
 f116_4 x4 x18 x19 J5 Q w20
def f116_5 (x4 : Value) (Q : PQ) (w : World) : Prop :=
 kN x4 <|
 kfld 1 x4 fun v22 =>
 kld v22 w fun v23 =>
 kcall Tryz.prog 171 #[v23] w fun v24 w25 =>
 Q (.tuple #[x4, .nilIface]) w25
def f116_2 (x19 x4 x18 : Value) (J5 : Value → World → Prop) (Q : PQ) (w : World) : Prop :=
 kint .i64 .lss x19 x18 fun v12 =>
 kB v12 fun b26 => kIf b26
 (f116_3 x4 x18 x19 J5 Q w)
 (f116_5 x4 Q w)
def f116_1 (x0 : Value) (Q : PQ) (w : World) : Prop :=
 kmk (.agg #[.int .i64 0, .bool false]) 16 344 x0 x0 w fun v7 w8 =>
 kbld [.slice none 0 0, .slice none 0 0] [(0, 1, v7)] fun v9 =>
 knew (Value.cells v9) 307 w8 fun v10 w11 =>
 kL fun (I : Value → World → Prop) (μ : Value → World → Nat) => I (.int .i64 0) w11 ∧ ∀ (x19 : Value) (w1 : World), I x19 w1 →
 f116_2 x19 v10 x0 (fun y19 w2 => I y19 w2 ∧ μ y19 w2 < μ x19 w1) Q w1
def f116_0 (x0 x11 : Value) (Q : PQ) (w : World) : Prop :=
 kB x11 fun b27 => kIf b27
 (kld (.pointer (some ⟨2, 0, none⟩)) w fun v4 =>
 kcall Tryz.prog 25 #[(.string ⟨#[114, 111, 108, 108]⟩), v4] w fun v5 w6 =>
 Q (.tuple #[.pointer none, v5]) w6)
 (f116_1 x0 Q w)
def f116 (x0 : Value) (Q : PQ) (w : World) : Prop :=
 kint .i64 .lss x0 (.int .i64 0) fun v1 =>
 kB v1 fun b2 => kIf (!b2)
 (kint .i64 .gtr x0 (.int .i64 64) fun v3 =>
 f116_0 x0 v3 Q w)
 (f116_0 x0 (.bool true) Q w)
theorem f116_ok {x0 : Value} {Q : PQ} {w : World} (h : f116 x0 Q w) : Meets Tryz.prog 116 #[x0] w Q :=
 sound' (c := Tryz.f116.body.get rfl) [(5, [19])] Tryz.func116 rfl rfl (args := [x0]) rfl (by kernel_rfl) h
def f127_1 (x0 x2 x4 : Value) (Q : PQ) (w : World) : Prop :=
 kN x0 <|
 kfld 1 x0 fun v23 =>
 kld v23 w fun v24 =>
 kix (some (.slice 3)) (some 1) v24 x4 fun v25 =>
 kld v25 w fun v26 =>
 kN x0 <|
 kfld 1 x0 fun v27 =>
 kld v27 w fun v28 =>
 ksl (some (.slice 3)) (some 1) v28 none (some x4) fun v29 =>
 kN x0 <|
 kfld 1 x0 fun v30 =>
 kst 1 v30 v29 w fun w31 =>
 kN x0 <|
 kfld 0 x0 fun v32 =>
 kld v32 w31 fun v33 =>
 kix (some (.slice 344)) (some 2) v33 v26 fun v34 =>
 kN v34 <|
 kfld 0 v34 fun v35 =>
 kld v35 w31 fun v36 =>
 kint .i64 .add v36 (.int .i64 1) fun v37 =>
 kN v34 <|
 kfld 0 v34 fun v38 =>
 kst 1 v38 v37 w31 fun w39 =>
 kN v34 <|
 kfld 1 v34 fun v40 =>
 kst 1 v40 (.bool true) w39 fun w41 =>
 kN v34 <|
 kfld 0 v34 fun v42 =>
 kld v42 w41 fun v43 =>
 kbld [.int .i64 0, .int .i64 0] [(0, 1, v26), (1, 1, v43)] fun v44 =>
 kst 2 x2 v44 w41 fun w45 =>
 kldN 2 x2 w45 fun v46 =>
 Q (.tuple #[v46, .nilIface]) w45
def f127_0 (x0 x2 : Value) (Q : PQ) (w : World) : Prop :=
 kN x0 <|
 kfld 1 x0 fun v11 =>
 kld v11 w fun v12 =>
 klen v12 fun v13 =>
 kint .i64 .sub v13 (.int .i64 1) fun v15 =>
 kint .i64 .lss v15 (.int .i64 0) fun v16 =>
 kB v16 fun b47 => kIf b47
 (kbld [.int .i64 0, .int .i64 0] [] fun v17 =>
 kld (.pointer (some ⟨7, 0, none⟩)) w fun v18 =>
 kcall Tryz.prog 25 #[(.string ⟨#[114, 111, 108, 108]⟩), v18] w fun v19 w20 =>
 kst 2 x2 v17 w20 fun w21 =>
 kldN 2 x2 w21 fun v22 =>
 Q (.tuple #[v22, v19]) w21)
 (f127_1 x0 x2 v15 Q w)
def f127 (x0 : Value) (Q : PQ) (w : World) : Prop :=
 knew #[.int .i64 0, .int .i64 0] 176 w fun v1 w2 =>
 keq Tryz.prog .eql 234 false true x0 (.pointer none) w2 fun v3 w4 =>
 kB v3 fun b48 => kIf b48
 (kbld [.int .i64 0, .int .i64 0] [] fun v5 =>
 kld (.pointer (some ⟨4, 0, none⟩)) w4 fun v6 =>
 kcall Tryz.prog 25 #[(.string ⟨#[114, 111, 108, 108]⟩), v6] w4 fun v7 w8 =>
 kst 2 v1 v5 w8 fun w9 =>
 kldN 2 v1 w9 fun v10 =>
 Q (.tuple #[v10, v7]) w9)
 (f127_0 x0 v1 Q w4)
theorem f127_ok {x0 : Value} {Q : PQ} {w : World} (h : f127 x0 Q w) : Meets Tryz.prog 127 #[x0] w Q :=
 sound' (c := Tryz.f127.body.get rfl) [] Tryz.func127 rfl rfl (args := [x0]) rfl (by kernel_rfl) h
def f191_1 (x0 x3 : Value) (Q : PQ) (w : World) : Prop :=
 kN x0 <|
 kfld 0 x0 fun v17 =>
 kld v17 w.drew fun v18 =>
 kG (w.drew = w.drew) <|
 kfld 0 x3 fun v19 =>
 kld v19 w.drew fun v20 =>
 kG (w.drew = w.drew) <|
 kix (some (.slice 344)) (some 2) v18 v20 fun v21 =>
 kldN 2 v21 w.drew fun v22 =>
 kG (w.drew = w.drew) <|
 knew #[.int .i64 0, .bool false] 344 w.drew fun v23 w24 =>
 kG (kldN 2 v21 w24 fun v36 =>
 v36 = v22 ∧ w24 = w24) <|
 kG (kld v19 w24 fun v35 =>
 v35 = v20 ∧ w24 = w24) <|
 kG (kld v17 w24 fun v34 =>
 v34 = v18 ∧ w24 = w24) <|
 kst 2 v23 v22 w24 fun w25 =>
 kfld 1 v23 fun v26 =>
 kld v26 w25 fun v27 =>
 kB v27 fun b28 => kIf b28
 (kfld 0 v23 fun v29 =>
 kld v29 w25 fun v30 =>
 kfld 1 x3 fun v31 =>
 kld v31 w25 fun v32 =>
 kint .i64 .eql v30 v32 fun v33 =>
 Q v33 w25)
 (Q (.bool false) w25)
def f191_0 (x0 x3 x22 : Value) (Q : PQ) (w : World) : Prop :=
 kB x22 fun b37 => kIf b37
 (Q (.bool false) w)
 (f191_1 x0 x3 Q w)
def f191 (x0 x1 : Value) (Q : PQ) (w : World) : Prop :=
 knew (Value.cells x1) 176 w fun v1 w2 =>
 keq Tryz.prog .eql 234 false true x0 (.pointer none) w2.drew fun v3 w4 =>
 kG (w4 = w2.drew) <|
 kB v3 fun b5 => kIf (!b5)
 (kfld 0 v1 fun v6 =>
 kld v6 w4 fun v7 =>
 kG (w4 = w4) <|
 kint .i64 .lss v7 (.int .i64 0) fun v8 =>
 kB v8 fun b9 => kIf (!b9)
 (kfld 0 v1 fun v10 =>
 kld v10 w4 fun v11 =>
 kG (w4 = w4) <|
 kN x0 <|
 kfld 0 x0 fun v12 =>
 kld v12 w4 fun v13 =>
 kG (w4 = w4) <|
 klen v13 fun v14 =>
 kint .i64 .geq v11 v14 fun v16 =>
 f191_0 x0 v1 v16 Q w4)
 (f191_0 x0 v1 (.bool true) Q w4))
 (f191_0 x0 v1 (.bool true) Q w4)
theorem f191_ok {x0 x1 : Value} {Q : PQ} {w : World} (h : f191 x0 x1 Q w) : Meets Tryz.prog 191 #[x0, x1] w Q :=
 sound' (c := Tryz.f191.body.get rfl) [] Tryz.func191 rfl rfl (args := [x0, x1]) rfl (by kernel_rfl) h
def f171_2 (x0 x2 x3 : Value) (J1 : Value → Value → World → Prop) (Q : PQ) (w : World) : Prop :=
 kint .i64 .add x2 (.int .i64 1) fun v13 =>
 kint .i64 .sub x3 (.int .i64 1) fun v14 =>
 J1 v13 v14 w
def f171_1 (x0 x2 x3 : Value) (J1 : Value → Value → World → Prop) (Q : PQ) (w : World) : Prop :=
 kix (some (.slice 3)) (some 1) x0 x3 fun v5 =>
 kld v5 w.drew fun v6 =>
 kG (w.drew = w.drew) <|
 kix (some (.slice 3)) (some 1) x0 x2 fun v7 =>
 kld v7 w.drew fun v8 =>
 kG (w.drew = w.drew) <|
 kix (some (.slice 3)) (some 1) x0 x2 fun v9 =>
 kst 1 v9 v6 w.drew fun w10 =>
 kix (some (.slice 3)) (some 1) x0 x3 fun v11 =>
 kst 1 v11 v8 w10 fun w12 =>
 f171_2 x0 x2 x3 J1 Q w12
def f171_0 (x2 x3 x0 : Value) (J1 : Value → Value → World → Prop) (Q : PQ) (w : World) : Prop :=
 kint .i64 .lss x2 x3 fun v4 =>
 kB v4 fun b15 => kIf b15
 (f171_1 x0 x2 x3 J1 Q w)
 (Q (.tuple #[]) w)
def f171 (x0 : Value) (Q : PQ) (w : World) : Prop :=
 klen x0 fun v1 =>
 kint .i64 .sub v1 (.int .i64 1) fun v3 =>
 kL fun (I : Value → Value → World → Prop) (μ : Value → Value → World → Nat) => I (.int .i64 0) v3 w ∧ ∀ (x2 x3 : Value) (w1 : World), I x2 x3 w1 →
 f171_0 x2 x3 x0 (fun y2 y3 w2 => I y2 y3 w2 ∧ μ y2 y3 w2 < μ x2 x3 w1) Q w1
theorem f171_ok {x0 : Value} {Q : PQ} {w : World} (h : f171 x0 Q w) : Meets Tryz.prog 171 #[x0] w Q :=
 sound' (c := Tryz.f171.body.get rfl) [(1, [2, 3])] Tryz.func171 rfl rfl (args := [x0]) rfl (by kernel_rfl) h
end
end Go.Proofs.YtenokhokboicnaaGreatDoor
