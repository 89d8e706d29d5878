/-
Lemmas for the statements of this seat: no statement of the seat is proved in this part (2 of 8); the conditions stand in each theorem.
-/
import Derived.Test.YtcmijampbjcbgaaGreatDoorMruns1
import Derived.Test.YtcmijampbjcbgaaGreatDoorProg
import Derived.ChangeArms
import Derived.OpenShut
import Derived.Stop.LaidErr
import Derived.MakeChecks
import Derived.Test.YtcmijampbjcbgaaGreatDoorRows
import Derived.ProofKit
import Derived.Stop.Joined
import Derived.LaidMore
import Derived.LaidHandle
import Derived.LaidSub
import Derived.Laws.IdiomCopy
import Derived.Maps.RangeRun
set_option autoImplicit true
set_option relaxedAutoImplicit true
set_option linter.unusedSimpArgs false
set_option linter.unusedVariables false
set_option maxRecDepth 100000
namespace Go.Proofs.YtcmijampbjcbgaaGreatDoor
open Go Go.Ev
section
def FA x0 x1 (Q:PQ) w:=bd Tryz.prog 58 [x1] w fun v8 w9=>aL Tryz.prog v8 "Comparable" [] w9 fun v10 w11=>ae Tryz.prog 59 #[x0,x1,v10] w11 fun v12 w13=>Q v12 w13
def xF x0 x1 x11 (Q:PQ) w:=kB x11 fun b14=>aA b14 (keq Tryz.prog .eql 37 false false x0 x1 w fun v6 w7=>Q v6 w7) (FA x0 x1 Q w)
def f28 x0 x1 (Q:PQ) w:=keq Tryz.prog .eql 37 false true x0 .nilIface w fun v1 w2=>kB v1 fun b3=>aA (!b3) (keq Tryz.prog .eql 37 false true x1 .nilIface w2 fun v4 w5=>xF x0 x1 v4 Q w5) (xF x0 x1 (.bool true) Q w2)
theorem IE (h:f28 x0 x1 Q w):af Tryz.prog 28 #[x0,x1] w Q :=
 ax (c:=Tryz.f28.body.get rfl) [] Tryz.func28 rfl rfl (args:=[x0,x1]) rfl (by kernel_rfl) h
def MK (x1 x2 x43 x44:Value) x45 (J17:Value→World→Prop) (J1:Value→World→Prop) (Q:PQ) w:=kint .i64 .add x45 (.int .i64 1) fun v33=>J17 v33 w
def ML x1 x2 x43 x44 x45 (J17:Value→World→Prop) (J1:Value→World→Prop) (Q:PQ) w:=bz (some (.slice 37)) (some 1) x43 x45 fun v29=>aw v29 w fun v30=>ae Tryz.prog 59 #[v30,x1,x2] w fun v31 w32=>kB v31 fun b34=>aA b34 (Q (.bool true) w32) (MK x1 x2 x43 x44 x45 J17 J1 Q w32)
def MM (J1:Value→World→Prop) (Q:PQ) w:=Q (.bool false) w
def MN x45 x1 x2 x43 x44 (J17:Value→World→Prop) (J1:Value→World→Prop) (Q:PQ) w:=kint .i64 .lss x45 x44 fun v28=>kB v28 fun b35=>aA b35 (ML x1 x2 x43 x44 x45 J17 J1 Q w) (MM J1 Q w)
def xG x0 x1 x2 (J1:Value→World→Prop) (Q:PQ) w:=ksem Tryz.prog (Instr.typeAssert x0 37 203 true) w fun v11 w12=>aE v11 1 fun v13=>aE v11 0 fun v14=>kB v13 fun b37=>aA b37 (aL Tryz.prog v14 "Unwrap" [] w12 fun v15 w16=>keq Tryz.prog .eql 37 false true v15 .nilIface w16 fun v17 w18=>kB v17 fun b19=>aA b19 (Q (.bool false) w18) (J1 v15 w18)) (ksem Tryz.prog (Instr.typeAssert x0 37 204 true) w12 fun v20 w21=>aE v20 1 fun v22=>aE v20 0 fun v23=>kB v22 fun b36=>aA b36 (aL Tryz.prog v23 "Unwrap" [] w21 fun v24 w25=>aU v24 fun v26=>kL fun(I:Value→World→Prop) (μ:Value→World→Nat)=>I (.int .i64 0) w25∧∀(x45:Value) (w1:World),I x45 w1→MN x45 x1 x2 v24 v26 (fun y45 w2=>I y45 w2∧μ y45 w2<μ x45 w1) J1 Q w1) (Q (.bool false) w21))
def FB x0 x1 x2 x30 (J1:Value→World→Prop) (Q:PQ) w:=kB x30 fun b38=>aA b38 (Q (.bool true) w) (xG x0 x1 x2 J1 Q w)
def xH x0 x1 x2 (J1:Value→World→Prop) (Q:PQ) w:=ksem Tryz.prog (Instr.typeAssert x0 37 200 true) w fun v4 w5=>aE v4 0 fun v6=>aE v4 1 fun v7=>kB v7 fun b8=>aA b8 (aL Tryz.prog v6 "Is" [x1] w5 fun v9 w10=>FB x0 x1 x2 v9 J1 Q w10) (FB x0 x1 x2 (.bool false) J1 Q w5)
def FC x0 x1 x2 x19 (J1:Value→World→Prop) (Q:PQ) w:=kB x19 fun b39=>aA b39 (Q (.bool true) w) (xH x0 x1 x2 J1 Q w)
def FD x0 x1 x2 (J1:Value→World→Prop) (Q:PQ) w:=kB x2 fun b1=>aA b1 (keq Tryz.prog .eql 37 false false x0 x1 w fun v2 w3=>FC x0 x1 x2 v2 J1 Q w3) (FC x0 x1 x2 (.bool false) J1 Q w)
def Ru x0 x1 x2 (Q:PQ) w:=kL fun(I:Value→World→Prop) (μ:Value→World→Nat)=>I x0 w∧∀(x0:Value) (w1:World),I x0 w1→FD x0 x1 x2 (fun y0 w2=>I y0 w2∧μ y0 w2<μ x0 w1) Q w1
theorem IG (h:Ru x0 x1 x2 Q w):af Tryz.prog 59 #[x0,x1,x2] w Q :=
 ax (c:=Tryz.f59.body.get rfl) [(1,[0]),(17,[45])] Tryz.func59 rfl rfl (args:=[x0,x1,x2]) rfl (by kernel_rfl) h
def Rw x0 x1 (Q:PQ) w:=ae Tryz.prog 77 #[x1] w fun v1 w2=>keq Tryz.prog .neq 37 false true v1 .nilIface w2 fun v3 w4=>kB v3 fun b5=>aA b5 (ae Tryz.prog 28 #[x0,v1] w4 fun v6 w7=>Q v6 w7) (Q (.bool false) w4)
theorem IH (h:Rw x0 x1 Q w):af Tryz.prog 38 #[x0,x1] w Q :=
 ax (c:=Tryz.f38.body.get rfl) [] Tryz.func38 rfl rfl (args:=[x0,x1]) rfl (by kernel_rfl) h
def FE (x0:Value) x6 (J4:Value→World→Prop) (Q:PQ) w:=kint .i64 .add x6 (.int .i64 1) fun v8=>J4 v8 w
def FF x0 x6 (J4:Value→World→Prop) (Q:PQ) w:=kint .i64 .add x6 (.int .i64 1) fun v4=>ae Tryz.prog 38 #[x0,v4] w fun v5 w6=>kB v5 fun b9=>aA b9 (kint .i64 .add x6 (.int .i64 1) fun v7=>Q v7 w6) (FE x0 x6 J4 Q w6)
def MO (Q:PQ) w:=Q (.int .i64 (-1)) w
def FG x6 x0 (J4:Value→World→Prop) (Q:PQ) w:=kint .i64 .lss x6 (.int .i64 18) fun v3=>kB v3 fun b10=>aA b10 (FF x0 x6 J4 Q w) (MO Q w)
def FH x0 (Q:PQ) w:=kL fun(I:Value→World→Prop) (μ:Value→World→Nat)=>I (.int .i64 0) w∧∀(x6:Value) (w1:World),I x6 w1→FG x6 x0 (fun y6 w2=>I y6 w2∧μ y6 w2<μ x6 w1) Q w1
def Qn x0 (Q:PQ) w:=keq Tryz.prog .eql 37 false true x0 .nilIface w fun v1 w2=>kB v1 fun b11=>aA b11 (Q (.int .i64 0) w2) (FH x0 Q w2)
theorem xI (h:Qn x0 Q w):af Tryz.prog 10 #[x0] w Q :=
 ax (c:=Tryz.f10.body.get rfl) [(4,[6])] Tryz.func10 rfl rfl (args:=[x0]) rfl (by kernel_rfl) h
def MP x0 x1 (Q:PQ) w:=aP [(.string ⟨#[]⟩),.nilIface] [(0,1,x0),(1,1,x1)] fun v3=>knew (Value.cells v3) 246 w fun v4 w5=>Q (.iface 244 v4) w5
def Rx x0 x1 (Q:PQ) w:=keq Tryz.prog .eql 37 false true x1 .nilIface w fun v1 w2=>kB v1 fun b6=>aA b6 (Q .nilIface w2) (MP x0 x1 Q w2)
theorem II (h:Rx x0 x1 Q w):af Tryz.prog 80 #[x0,x1] w Q :=
 ax (c:=Tryz.f80.body.get rfl) [] Tryz.func80 rfl rfl (args:=[x0,x1]) rfl (by kernel_rfl) h
def xJ x3 (Q:PQ) w:=aP [.slice none 0 0] [(0,1,x3)] fun v9=>knew (Value.cells v9) 294 w fun v10 w11=>Q (.iface 292 v10) w11
def MQ x0 (Q:PQ) w:=ae Tryz.prog 159 #[x0] w fun v1 w2=>aU v1 fun v3=>kint .i64 .eql v3 (.int .i64 0) fun v5=>kB v5 fun b13=>aA b13 (Q .nilIface w2) (kint .i64 .eql v3 (.int .i64 1) fun v6=>kB v6 fun b12=>aA b12 (bz (some (.slice 37)) (some 1) v1 (.int .i64 0) fun v7=>aw v7 w2 fun v8=>Q v8 w2) (xJ v1 Q w2))
theorem CZ (h:MQ x0 Q w):af Tryz.prog 108 #[x0] w Q :=
 ax (c:=Tryz.f108.body.get rfl) [] Tryz.func108 rfl rfl (args:=[x0]) rfl (by kernel_rfl) h
def jr x2 (x8 x9:Value) x10 (J2:Value→Value→World→Prop) (Q:PQ) w:=kint .i64 .add x10 (.int .i64 1) fun v8=>J2 x2 v8 w
def xK x2 x8 x9 x10 (J2:Value→Value→World→Prop) (Q:PQ) w:=bz (some (.slice 37)) (some 1) x8 x10 fun v4=>aw v4 w fun v5=>keq Tryz.prog .eql 37 false true v5 .nilIface w fun v6 w7=>kB v6 fun b23=>aA b23 (jr x2 x8 x9 x10 J2 Q w7) (kta 292 (.pointer none) true v5 fun v9=>aE v9 1 fun v10=>aE v9 0 fun v11=>kB v10 fun b22=>aA b22 (ae Tryz.prog 196 #[v11] w7 fun v12 w13=>ae Tryz.prog 159 #[v12] w13 fun v14 w15=>ksem Tryz.prog (Builtin.append_ #[205,205] 0 #[x2,v14]) w15 fun v16 w17=>jr v16 x8 x9 x10 J2 Q w17) (ay [.nilIface] 1 [(0,1,v5)] 37 w7 fun v18 w19=>ksem Tryz.prog (Builtin.append_ #[205,205] 0 #[x2,v18]) w19 fun v20 w21=>jr v20 x8 x9 x10 J2 Q w21))
def xL x2 (Q:PQ) w:=Q x2 w
def xM x2 x10 x8 x9 (J2:Value→Value→World→Prop) (Q:PQ) w:=kint .i64 .lss x10 x9 fun v3=>kB v3 fun b24=>aA b24 (xK x2 x8 x9 x10 J2 Q w) (xL x2 Q w)
def MR x0 (Q:PQ) w:=aU x0 fun v1=>kL fun(I:Value→Value→World→Prop) (μ:Value→Value→World→Nat)=>I (.slice none 0 0) (.int .i64 0) w∧∀(x2 x10:Value) (w1:World),I x2 x10 w1→xM x2 x10 x0 v1 (fun y2 y10 w2=>I y2 y10 w2∧μ y2 y10 w2<μ x2 x10 w1) Q w1
theorem C0 (h:MR x0 Q w):af Tryz.prog 159 #[x0] w Q :=
 ax (c:=Tryz.f159.body.get rfl) [(2,[2,10])] Tryz.func159 rfl rfl (args:=[x0]) rfl (by kernel_rfl) h
def IJ x0 (Q:PQ) w:=kN x0<|ai 1 x0 fun v3=>aw v3 w fun v4=>Q v4 w
def MT x0 (Q:PQ) w:=keq Tryz.prog .eql 244 false true x0 (.pointer none) w fun v1 w2=>kB v1 fun b5=>aA b5 (Q .nilIface w2) (IJ x0 Q w2)
theorem C1 (h:MT x0 Q w):af Tryz.prog 280 #[x0] w Q :=
 ax (c:=Tryz.f280.body.get rfl) [] Tryz.func280 rfl rfl (args:=[x0]) rfl (by kernel_rfl) h
def xN x0 (Q:PQ) w:=kN x0<|ai 0 x0 fun v3=>aw v3 w fun v4=>ae Tryz.prog 215 #[v4] w fun v5 w6=>Q v5 w6
def MU x0 (Q:PQ) w:=keq Tryz.prog .eql 292 false true x0 (.pointer none) w fun v1 w2=>kB v1 fun b7=>aA b7 (Q (.slice none 0 0) w2) (xN x0 Q w2)
theorem C2 (h:MU x0 Q w):af Tryz.prog 196 #[x0] w Q :=
 ax (c:=Tryz.f196.body.get rfl) [] Tryz.func196 rfl rfl (args:=[x0]) rfl (by kernel_rfl) h
def xO x0 (Q:PQ) w:=ay [.nilIface] 0 [] 37 w fun v3 w4=>ksem Tryz.prog (Builtin.append_ #[205,205] 0 #[v3,x0]) w4 fun v5 w6=>Q v5 w6
def MV x0 (Q:PQ) w:=keq Tryz.prog .eql 205 false true x0 (.slice none 0 0) w fun v1 w2=>kB v1 fun b7=>aA b7 (Q (.slice none 0 0) w2) (xO x0 Q w2)
theorem C3 (h:MV x0 Q w):af Tryz.prog 215 #[x0] w Q :=
 ax (c:=Tryz.f215.body.get rfl) [] Tryz.func215 rfl rfl (args:=[x0]) rfl (by kernel_rfl) h
def MW (Q:PQ) w:=Q .nilIface w
def Ry x0 (Q:PQ) w:=kint .i64 .eql x0 (.int .i64 1) fun v1=>kB v1 fun b54=>aA b54 (aw (.pointer (some ⟨3,0,none⟩)) w fun v2=>Q v2 w) (kint .i64 .eql x0 (.int .i64 2) fun v3=>kB v3 fun b53=>aA b53 (aw (.pointer (some ⟨2,0,none⟩)) w fun v4=>Q v4 w) (kint .i64 .eql x0 (.int .i64 3) fun v5=>kB v5 fun b52=>aA b52 (aw (.pointer (some ⟨9,0,none⟩)) w fun v6=>Q v6 w) (kint .i64 .eql x0 (.int .i64 4) fun v7=>kB v7 fun b51=>aA b51 (aw (.pointer (some ⟨7,0,none⟩)) w fun v8=>Q v8 w) (kint .i64 .eql x0 (.int .i64 5) fun v9=>kB v9 fun b50=>aA b50 (aw (.pointer (some ⟨10,0,none⟩)) w fun v10=>Q v10 w) (kint .i64 .eql x0 (.int .i64 6) fun v11=>kB v11 fun b49=>aA b49 (aw (.pointer (some ⟨4,0,none⟩)) w fun v12=>Q v12 w) (kint .i64 .eql x0 (.int .i64 7) fun v13=>kB v13 fun b48=>aA b48 (aw (.pointer (some ⟨11,0,none⟩)) w fun v14=>Q v14 w) (kint .i64 .eql x0 (.int .i64 8) fun v15=>kB v15 fun b47=>aA b47 (aw (.pointer (some ⟨12,0,none⟩)) w fun v16=>Q v16 w) (kint .i64 .eql x0 (.int .i64 9) fun v17=>kB v17 fun b46=>aA b46 (aw (.pointer (some ⟨8,0,none⟩)) w fun v18=>Q v18 w) (kint .i64 .eql x0 (.int .i64 10) fun v19=>kB v19 fun b45=>aA b45 (aw (.pointer (some ⟨13,0,none⟩)) w fun v20=>Q v20 w) (kint .i64 .eql x0 (.int .i64 11) fun v21=>kB v21 fun b44=>aA b44 (aw (.pointer (some ⟨14,0,none⟩)) w fun v22=>Q v22 w) (kint .i64 .eql x0 (.int .i64 12) fun v23=>kB v23 fun b43=>aA b43 (aw (.pointer (some ⟨1,0,none⟩)) w fun v24=>Q v24 w) (kint .i64 .eql x0 (.int .i64 13) fun v25=>kB v25 fun b42=>aA b42 (aw (.pointer (some ⟨6,0,none⟩)) w fun v26=>Q v26 w) (kint .i64 .eql x0 (.int .i64 14) fun v27=>kB v27 fun b41=>aA b41 (aw (.pointer (some ⟨5,0,none⟩)) w fun v28=>Q v28 w) (kint .i64 .eql x0 (.int .i64 15) fun v29=>kB v29 fun b40=>aA b40 (aw (.pointer (some ⟨0,0,none⟩)) w fun v30=>Q v30 w) (kint .i64 .eql x0 (.int .i64 16) fun v31=>kB v31 fun b39=>aA b39 (aw (.pointer (some ⟨15,0,none⟩)) w fun v32=>Q v32 w) (kint .i64 .eql x0 (.int .i64 17) fun v33=>kB v33 fun b38=>aA b38 (aw (.pointer (some ⟨16,0,none⟩)) w fun v34=>Q v34 w) (kint .i64 .eql x0 (.int .i64 18) fun v35=>kB v35 fun b37=>aA b37 (aw (.pointer (some ⟨17,0,none⟩)) w fun v36=>Q v36 w) (MW Q w))))))))))))))))))
theorem IK (h:Ry x0 Q w):af Tryz.prog 77 #[x0] w Q :=
 ax (c:=Tryz.f77.body.get rfl) [] Tryz.func77 rfl rfl (args:=[x0]) rfl (by kernel_rfl) h
end
section

theorem bU:eT Tryz.prog 37=true:=by kernel_rfl
theorem xP:xE Tryz.prog 380=true:=by kernel_rfl
theorem Qo:CY Tryz.prog 380 200=some false:=by kernel_rfl
theorem Qp:CY Tryz.prog 380 203=some false:=by kernel_rfl
theorem Qq:CY Tryz.prog 380 204=some false:=by kernel_rfl
theorem Rz:(Tryz.prog.info? 200).map (·.zero)=some (some .nilIface):=by kernel_rfl
theorem SE:(Tryz.prog.info? 203).map (·.zero)=some (some .nilIface):=by kernel_rfl
theorem SF:(Tryz.prog.info? 204).map (·.zero)=some (some .nilIface):=by kernel_rfl
theorem MX:dM Tryz.prog 244=true:=by kernel_rfl
theorem MY:dM Tryz.prog 292=true:=by kernel_rfl
theorem MZ:je Tryz.prog 205=true:=by kernel_rfl
theorem xQ:appT Tryz.prog 205 1 16=true:=by kernel_rfl
def gErr:Nat→Nat
  | 1=>3 | 2=>2 | 3=>9 | 4=>7 | 5=>10 | 6=>4 | 7=>11 | 8=>12 | 9=>8
  | 10=>13 | 11=>14 | 12=>1 | 13=>6 | 14=>5 | 15=>0 | 16=>15 | 17=>16 | _=>17
def errV (S:Nat→Addr) (k:Nat):Value:=.iface 380 (.pointer (some (S k)))
structure iH (N:Nat) (S:Nat→Addr) (w:World):Prop where
  glob:∀k,1≤k→k≤N→∃c t f,aX w (gErr k)=some (.cells c t f)∧c[0]?=some (errV S k)
  ne:∀j k,1≤j→j≤N→1≤k→k≤N→j≠k→S j≠S k
  live:∀k,1≤k→k≤N→∃c t,aX w (S k).block=some (.cells c t (0,0))
abbrev lS:=iH 18
structure cO (p:Nat→Prop) (S:Nat→Addr) (w:World):Prop where
  glob:∀k,p k→∃c t f,aX w (gErr k)=some (.cells c t f)∧c[0]?=some (errV S k)
  ne:∀j k,p j→p k→j≠k→S j≠S k
  live:∀k,p k→∃c t,aX w (S k).block=some (.cells c t (0,0))
theorem cO.mod {p:Nat→Prop} {fp:Nat→Prop} {S:Nat→Addr} (h:cO p S w) (hm:aH fp w w') (hf:∀k,p k→¬fp (gErr k)∧¬fp (S k).block):cO p S w' where
  glob k h1:=by
    obtain⟨c,t,f,hb,hc⟩:=h.glob k h1;exact⟨c,t,f,hm.get hb (hf k h1).1,hc⟩
  ne:=h.ne
  live k h1:=by
    obtain⟨c,t,hb⟩:=h.live k h1;exact⟨c,t,hm.get hb (hf k h1).2⟩
theorem cO.same (h:cO p S w) (hm:Same w w'):cO p S w':=h.mod hm fun _ _=>⟨fun h=>h,fun h=>h⟩
theorem iH.toP (h:iH N S w):cO (fun k=>1≤k∧k≤N) S w :=
  ⟨fun k hk=>h.glob k hk.1 hk.2,fun j k hj hk=>h.ne j k hj.1 hj.2 hk.1 hk.2,fun k hk=>h.live k hk.1 hk.2⟩
theorem iH.mod {fp:Nat→Prop} {S:Nat→Addr} (h:iH N S w) (hm:aH fp w w') (hf:∀k,1≤k→k≤N→¬fp (gErr k)∧¬fp (S k).block):iH N S w' where
  glob k h1 h2:=by
    obtain⟨c,t,f,hb,hc⟩:=h.glob k h1 h2;exact⟨c,t,f,hm.get hb (hf k h1 h2).1,hc⟩
  ne:=h.ne
  live k h1 h2:=by
    obtain⟨c,t,hb⟩:=h.live k h1 h2;exact⟨c,t,hm.get hb (hf k h1 h2).2⟩
theorem iH.same (h:iH N S w) (hm:Same w w'):iH N S w':=h.mod hm fun _ _ _=>⟨fun h=>h,fun h=>h⟩
theorem iH.read (h:iH N S w) {k g:Nat} (h1:1≤k) (h2:k≤N) (hg:gErr k=g):cellO (aX w g) 0=some (errV S k):=by
  obtain⟨c,t,f,hb,hc⟩:=h.glob k h1 h2;rw[←hg,hb]; exact hc

theorem C6 (hL:lS S w) (k:Nat) (h1:1≤k) (h2:k≤18):af Tryz.prog 77 #[.int .i64 k] w fun v w'=>v=errV S k∧w'=w:=by
  refine IK ?_;unfold Ry;have hk:k=1∨k=2∨k=3∨k=4∨k=5∨k=6∨k=7∨k=8∨k=9∨k=10∨k=11∨k=12∨k=13∨k=14∨k=15∨k=16∨k=17∨k=18:=by omega
  rcases hk with rfl | rfl | rfl | rfl | rfl | rfl | rfl | rfl | rfl | rfl | rfl | rfl | rfl | rfl | rfl | rfl | rfl | rfl <;>
    (have hr:=hL.read h1 h2 rfl
     simp only[gErr]at hr;simp -dsimp [hr])

theorem IL (x0 v:Value) (Q:Value→World→Prop) (w:World):FA x0 (.iface 380 v) Q w=ae Tryz.prog 59 #[x0,.iface 380 v,.bool true] w (fun v12 w13=>Q v12 w13):=by kernel_rfl
end
end Go.Proofs.YtcmijampbjcbgaaGreatDoor
namespace Go.Ev
open Go Go.RowKit
section
theorem ar {t:TypeId} {K:Value→World→Prop} (h:∀w2,Same w w2→w2.heap.size=w.heap.size+1→aX w2 w.heap.size=some (.cells cs t)→K (.pointer (some ⟨w.heap.size,0,none⟩)) w2):knew cs t w K :=
 h _ ((aH.refl _ _).alloc _) (by simp) (cq _ _)
theorem aR {ty:TypeId} {K:Value→World→Prop} (hf:fillL (zrow z n) qs=some cs)
  (h:∀w2,Same w w2→w2.heap.size=w.heap.size+1→aX w2 w.heap.size=some (.cells cs.toArray ty)→K (.slice (some ⟨w.heap.size,0,none⟩) n n) w2):ay z n qs ty w K:=by
 rw[xy,hf];exact h _ ((aH.refl _ _).alloc _) (by simp) (cq _ _)
theorem aW {K:Value→Prop} (hf:fillL z qs=some cs) (h:K (.agg cs.toArray)):aP z qs K:=by
 rw[CW,hf];exact h
theorem aZ.blk {t:TypeId} (hb:aX w b=some (.cells arr t f)) {n sz:Nat} (h:arr.size=n*sz):aZ w (some ⟨b,0,none⟩) n sz arr.toList :=
 ⟨by simpa using h,.inr ⟨_,0,arr,t,f,rfl,hb,by rw[List.drop_zero,←h,←Array.length_toList,List.take_length]⟩⟩
theorem bV.blk {t:TypeId} (hb:aX w b=some (.cells arr t)) {n sz:Nat} (h:arr.size=n*sz) (hn:n≤maxLen):bV w (.slice (some ⟨b,0,none⟩) n n) sz arr.toList :=
 ⟨_,n,n,rfl,by simpa using h,Nat.le_refl _,hn,.inr ⟨_,arr,t,rfl,hb,h,by rw[←h,←Array.length_toList,List.take_length]⟩⟩
theorem aa {K:Value→Prop} (h:K (.pointer (some ⟨b,o+n,none⟩))):ai n (.pointer (some ⟨b,o,none⟩)) K:=by
 rw[xw,add_mk]; exact h
theorem ao {K:Value→Prop} {t:TypeId} (hb:Ev.aX w b=some (.cells c t f)) (hc:c[o]?=some v) (h:K v):aw (.pointer (some ⟨b,o,none⟩)) w K:=by
 rw[CU,cell_mk,hb,dU,hc]; exact h
theorem fy {K:Value→Prop} {t:TypeId} (hb:Ev.aX w b=some (.cells c t f)) (hle:o+n≤c.size) (hc:(c.toList.drop o).take n=cs) (hn:0<n) (h:K (.agg cs.toArray)):aB n (.pointer (some ⟨b,o,none⟩)) w K:=by
 rw[xx,qi _ _ _ _ hn,hb,qj hle,hc]; exact h
theorem aQ {v:Value} {K:World→Prop} {t:TypeId} (hb:Ev.aX w b=some (.cells c t)) (hv:v.cells.toList=vs) (hn:vs.length=n) (h1:oneCells vs=true) (hle:o+n≤c.size) (hne:vs≠[])
  (h:∀w2,aH (fun k=>k=b) w w2→w2.heap.size=w.heap.size→Ev.aX w2 b=some (.cells (setAll vs c o) t)→K w2):bj n (.pointer (some ⟨b,o,none⟩)) v w K:=by
 have hst:=jq (b:=b) (o:=o) (t:=t) vs 0 w c hb h1 (by simpa [hn] using hle) hne;have hsz:v.cells.size=n:=by rw[←hn,←hv,Array.length_toList]
 rw[CV,hv,hst,CT];refine ah hsz (h _ ((aH.refl _ _).setBlk _ (.inl rfl)) (dC _ _ _) ?_);rw[cN,if_pos rfl,hb]; rfl
end
end Go.Ev
namespace Go.Ev
open Go Go.RowKit Go.ChangeShapes
section
def Rd (P:Program) (w:World):Nat→TypeId→List Value→Prop
 | 0,_,_=>True
 | n+1,t,cs=>match P.underlying t with
  | some (.int k)=>∃i,cs=[.int k i]∧(Lit.int k i).wf=true
  | some .bool=>∃b,cs=[.bool b]
  | some .string=>∃s,cs=[.string s]∧s.size≤maxLen
  | some (.slice e)=>cs=[.slice none 0 0]∨∃a len cap,cs=[.slice (some a) len cap]∧len≤cap∧cap≤maxLen ∧
    ∀i,i<len→∃ec,w.cells? 0 (a.add (i*P.cellsOf e)) (P.cellsOf e)=some ec∧Rd P w n e ec
  | some (.struct fs)=>cs.length=P.cellsOf t∧∀f,f∈fs.toList→Rd P w n f.type ((cs.drop f.offset).take (P.cellsOf f.type))
  | some (.array m e)=>cs.length=P.cellsOf t∧∀i,i<m→Rd P w n e ((cs.drop (i*P.cellsOf e)).take (P.cellsOf e))
  | _=>True
theorem r7 {H:Type} {enc:TypeId×Value→H} :
  ∀(fuel:Nat) (t:TypeId) (cs:List Value) (x:DataW H×List MemPlace),DataW.trod enc P w 0 sp held fuel t cs=some x→∀n,Rd P w n t cs:=by
 intro fuel;induction fuel with
 | zero=>intro t cs x h; simp[DataW.trod]at h
 | succ m ih =>
  intro t cs x h n;cases n with
  | zero=>trivial
  | succ n =>
   unfold Rd;split
   ·rename_i k hu;obtain⟨i,h1,_,h2⟩:=DataW.trod_int hu h;exact⟨i,h1,h2⟩
   ·rename_i hu;obtain⟨b,h1,_⟩:=DataW.trod_bool hu h;exact⟨b,h1⟩
   ·rename_i hu;obtain⟨s,h1,_,h2⟩:=DataW.trod_string hu h;exact⟨s,h1,h2⟩
   ·rename_i e hu;rcases DataW.trod_slice hu h with⟨h1,_⟩ | ⟨a,len,cap,elems,rest,m',e1,h1,_,_,h2,h3,h4,h5,_⟩
    ·exact Or.inl h1
    ·refine Or.inr ⟨a,len,cap,h1,h2,h3,fun i hi=>?_⟩;have h5:=h5 i hi;have hi':i<elems.length:=by omega
     rw[List.getElem?_eq_getElem hi']at h5;obtain⟨ec,h6,h7⟩:=Option.bind_eq_some_iff.1 h5;obtain rfl:m'=m:=by omega
     exact⟨ec,h6,ih _ _ _ h7 n⟩
   ·rename_i fs hu;obtain⟨xs,m',e1,_,h2,h3,h4⟩:=DataW.trod_struct hu h;obtain rfl:m'=m:=by omega
    refine⟨h2,fun f hf=>?_⟩;obtain⟨i,hi,rfl⟩:=List.mem_iff_getElem.1 hf;have hi':i<fs.size:=by simpa using hi
    have:=h4 i (fs.toList[i]) (by simp[hi']);rw[List.getElem?_eq_getElem (show i<xs.length by omega)]at this;exact ih _ _ _ this n
   ·rename_i k e hu;obtain⟨xs,m',e1,_,h2,h3,h4⟩:=DataW.trod_array hu h;obtain rfl:m'=m:=by omega
    refine⟨h2,fun i hi=>?_⟩;have:=h4 i hi;rw[List.getElem?_eq_getElem (show i<xs.length by omega)]at this;exact ih _ _ _ this n
   ·trivial
theorem lT {H:Type} {enc:TypeId×Value→H} {P:Program} {w:World} {sp:Nat→Bool} {held:Bool} {t:TypeId} {v:Value} {d:DataW H} {ps:List MemPlace} (h:DataW.Trod enc P w 0 sp held t v d ps) (n:Nat):Rd P w n t v.cells.toList:=by
 obtain⟨fuel,h⟩:=h;exact r7 _ _ _ _ h n
def RdF (P:Program) (w:World) (n:Nat) (cs:List Value):List Field→Prop
 | []=>True
 | f::l=>Rd P w n f.type ((cs.drop f.offset).take (P.cellsOf f.type))∧RdF P w n cs l
section
variable {P:Program} {w:World} {n:Nat} {t:TypeId} {cs:List Value}
theorem nU {l:List Field} (hu:P.underlying t=some (.struct l.toArray)) (h:Rd P w (n+1) t cs):cs.length=P.cellsOf t∧RdF P w n cs l:=by
 unfold Rd at h;rw[hu]at h;refine⟨h.1,?_⟩;have h2:=h.2;clear hu h;simp only at h2;induction l with
 | nil=>trivial
 | cons f l ih=>exact⟨h2 f (by simp),ih fun g hg=>h2 g (by simp at hg ⊢; exact .inr hg)⟩
theorem xR {e:TypeId} (hu:P.underlying t=some (.array m e)) (h:Rd P w (n+1) t cs):cs.length=P.cellsOf t∧∀i,i<m→Rd P w n e ((cs.drop (i*P.cellsOf e)).take (P.cellsOf e)):=by
 unfold Rd at h;rw[hu]at h;exact h
theorem iI (hu:P.underlying t=some (.int k)) (h:Rd P w (n+1) t cs):∃i,cs=[.int k i]∧(Lit.int k i).wf=true:=by
 unfold Rd at h;rw[hu]at h;exact h
theorem tL (hu:P.underlying t=some .bool) (h:Rd P w (n+1) t cs):∃b,cs=[.bool b]:=by
 unfold Rd at h;rw[hu]at h;exact h
theorem xS {e:TypeId} (hu:P.underlying t=some (.slice e)) (h:Rd P w (n+1) t cs):cs=[.slice none 0 0]∨∃a len cap,cs=[.slice (some a) len cap]∧len≤cap∧cap≤maxLen ∧
    ∀i,i<len→∃ec,w.cells? 0 (a.add (i*P.cellsOf e)) (P.cellsOf e)=some ec∧Rd P w n e ec:=by
 unfold Rd at h;rw[hu]at h;exact h
end
def FI (nm:String) (x:String×List UInt8):String×DataW Unit:=(x.1,.iface nm (.ptr (.agg [.lit (.string x.2)])))
theorem vf {P:Program} {W:World} {nm:String} {ti tp te ts:TypeId} {ms:Array (String×TypeId)} {f:Field}
  (hi:P.underlying ti=some (.interface ms)) (hrow:∀u,P.typeName? 3 u=some nm→u=tp)
  (hp:P.underlying tp=some (.pointer te)) (he:P.underlying te=some (.struct #[f])) (hft:f.type=ts) (hfo:f.offset=0) (hs:P.underlying ts=some .string) (hc:P.cellsOf te=1) (hcs:P.cellsOf ts=1) :
  ∀(l:List (String×List UInt8)) (ps:List MemPlace),DataW.LaidVars P W (l.map (FI nm)) ps →
   (∀x∈l,∃g,P.globalNamed x.1=some g∧(P.globals[g]?).map (·.type)=some ti) →
   (∀b off,MemPlace.cell b off∈ps→(∃c t,W.heap[b]?=some (.cells c t (0,0)))∧∀u v,W.cell? ⟨b,off,none⟩=some (.iface u v)→Value.okWide P W .any 0 u v) →
   ∃zs:List Addr,zs.length=l.length∧(zs.map fun a=>MemPlace.cell a.block a.off).Sublist ps ∧
    ∀(i:Nat) (x:String×List UInt8),l[i]?=some x→∃a s,zs[i]?=some a∧W.var? P x.1=some #[.iface tp (.pointer (some a))]∧W.cell? a=some (.string s)∧s.data.toList=x.2∧s.size≤maxLen ∧
     ∃c t,W.heap[a.block]?=some (.cells c t (0,0)):=by
 intro l;induction l with
 | nil=>intro ps _ _ _; exact⟨[],rfl,by simp,by simp⟩
 | cons y l ih =>
  intro ps hv hg hrows;obtain⟨g0',t0',cs0,f0,p0,q0,hg0',ht0',hv0,hd0,hq,e0⟩:=hv;subst e0;obtain⟨g,hg1,hg2⟩:=hg y (by simp);obtain rfl:=Option.some.inj (hg1.symm.trans hg0');obtain rfl:=Option.some.inj (hg2.symm.trans ht0');obtain⟨l0⟩:=cs0;have ok0:∀u v,l0=[.iface u v]→Value.okWide P W .any 0 u v:=fun u v e=>by
   subst e;exact(hrows g 0 (by simp[MemPlace.row])).2 u v (by simpa using World.var?_cell hg0' hv0 0)
  obtain⟨a0,s0,rfl,hc0,hs0,hz0,rfl⟩:=errorString_of_trod hi hrow hp he hft hfo hs hc hcs hd0 ok0;obtain⟨zs,h1,h2,h3⟩:=ih q0 hq (fun x hx=>hg x (by simp[hx])) (fun b off hm=>hrows b off (List.mem_append_right _ hm));refine⟨a0::zs,by simp[h1],?_,?_⟩
  ·have e:MemPlace.row a0 1=[.cell a0.block a0.off]:=by simp[MemPlace.row]
   rw[e,List.map_cons,List.append_assoc];exact(h2.cons_cons _).trans (List.sublist_append_right _ _)
  ·intro i x hx;cases i with
   | zero =>
    simp only[List.getElem?_cons_zero,Option.some.injEq]at hx;subst hx;exact⟨a0,s0,rfl,hv0,hc0,hs0,hz0,(hrows a0.block a0.off (by simp[MemPlace.row])).1⟩
   | succ i=>exact h3 i x (by simpa using hx)
theorem C7 {zs:List Addr} {ps:List MemPlace} (h:(zs.map fun a=>MemPlace.cell a.block a.off).Sublist ps) (hn:ps.Nodup) {i j:Nat} {a b:Addr} (hi:zs[i]?=some a) (hj:zs[j]?=some b) (hne:i≠j):a≠b:=by
 have hd:=List.pairwise_iff_getElem.1 (List.Nodup.sublist h hn);rintro rfl;obtain⟨hi1,hi2⟩:=List.getElem?_eq_some_iff.1 hi;obtain⟨hj1,hj2⟩:=List.getElem?_eq_some_iff.1 hj;rcases Nat.lt_or_gt_of_ne hne with hlt | hlt
 ·exact hd i j (by simpa using hi1) (by simpa using hj1) hlt (by simp[hi2,hj2])
 ·exact hd j i (by simpa using hj1) (by simpa using hi1) hlt (by simp[hi2,hj2])
theorem js {P:Program} {W:World} (hg:P.globalNamed n=some g) (h:W.var? P n=some cs):∃t f,aX W g=some (.cells cs t f):=by
 unfold World.var? at h;rw[hg]at h;simp only[Option.bind_some]at h;unfold aX;split at h
 ·rename_i c t f hb;simp only[Option.some.injEq]at h;subst h;exact⟨t,f,hb⟩
 ·cases h
end
end Go.Ev
namespace Go.Ev
open Go Go.RowKit
section
theorem aZ.cell (h:aZ w a n sz vs) {i j:Nat} (hi:i<n) (hj:j<sz) :
  ∃b o c t f,a=some ⟨b,o,none⟩∧Ev.aX w b=some (.cells c t f)∧c[o+i*sz+j]?=vs[i*sz+j]?:=by
 obtain⟨b,o,c,t,f,ha,hb,hle,hc⟩:=h.at hi (by omega);refine⟨b,o,c,t,f,ha,hb,?_⟩;have e:=congrArg (fun l:List Value=>l[j]?) hc;simp only[List.getElem?_take_of_lt hj,List.getElem?_drop]at e;simpa using e
theorem iY {α:Type} {F:α→List Value} (hF:∀x,(F x).length=sz) {l:List α} {i j:Nat} (hi:i<l.length) (hj:j<sz):(l.flatMap F)[i*sz+j]?=(F l[i])[j]?:=by
 have e:=congrArg (fun l:List Value=>l[j]?) (d5 F sz hF l i hi);simp only[List.getElem?_take_of_lt hj,List.getElem?_drop]at e;exact e
theorem bL {α:Type} {F:α→List Value} (hF:∀x,(F x).length=sz) {w w':World} {a:Option Addr} {l:List α} {c:Nat} {e:TypeId} {k:IntKind} {i j:Nat} {K:Value→Prop} {v:Value}
  (h:aZ w a l.length sz (l.flatMap F)) (hi:i<l.length) (hv:(F l[i])[j]?=some v) (hw:w'.heap=w.heap) (hK:K v) :
  bz (some (.slice e)) (some sz) (.slice a l.length c) (.int k i) fun v1=>ai j v1 fun v2=>aw v2 w' K:=by
 have hj:j<sz:=by rw[←hF l[i]]; exact(List.getElem?_eq_some_iff.1 hv).1
 obtain⟨b,o,cs,t,f,rfl,hb,hc⟩:=h.cell hi hj;rw[iY hF hi hj,hv]at hc;rw[ce];refine ah (by omega) ?_;rw[add_mk];refine aa ?_;refine ao (c:=cs) (t:=t) (f:=f) (v:=v) (by unfold aX at *; rw[hw]; exact hb) ?_ hK;simpa using hc
theorem cF {α:Type} {F:α→Value} {w w':World} {l:List α} {e:TypeId} {K:Value→Prop}
  (h:aZ w a l.length 1 (l.map F)) (hi:i<l.length) (hw:w'.heap=w.heap) (hK:K (F l[i])) :
  bz (some (.slice e)) (some 1) (.slice a l.length c) (.int k i) fun v1=>aw v1 w' K:=by
 obtain⟨b,o,cs,t,f,rfl,hb,hc⟩:=h.cell (j:=0) hi (by omega);rw[ce];refine ah (by omega) ?_;rw[add_mk];refine ao (c:=cs) (t:=t) (f:=f) (v:=F l[i]) (by unfold aX at *; rw[hw]; exact hb) ?_ hK;have:(l.map F)[i*1+0]?=some (F l[i]):=by simp[hi]
 rw[this]at hc;simpa using hc
theorem cK {α:Type} {F:α→List Value} (hF:∀x,(F x).length=sz) (hs:0<sz) {w w':World} {a:Option Addr} {l:List α} {c:Nat} {e:TypeId} {k:IntKind} {i:Nat} {K:Value→Prop}
  (h:aZ w a l.length sz (l.flatMap F)) (hi:i<l.length) (hw:w'.heap=w.heap) (hK:K (.agg (F l[i]).toArray)) :
  bz (some (.slice e)) (some sz) (.slice a l.length c) (.int k i) fun v1=>aB sz v1 w' K:=by
 obtain⟨b,o,cs,t,f,rfl,hb,hle,hc⟩:=h.at hi hs;rw[d5 F sz hF l i hi]at hc;rw[ce];refine ah (by omega) ?_;rw[add_mk];exact fy (c:=cs) (t:=t) (f:=f) (by unfold aX at *; rw[hw]; exact hb) (by simpa using hle) (by simpa using hc) hs hK
theorem C8 {K:Value→Prop} (h:vs[i]?=some v) (hk:K v):aE (.tuple vs) i K:=by
 rw[rW,h]; exact hk
theorem FJ {α:Type} {o:Option α} {a:α} {K:α→Prop} (h:o=some a) (hk:K a):kO o K:=by
 rw[h]; exact hk
theorem r8 {e:TypeId} {K:Value→Prop} (h:n≤l) (hK:K (.slice (some ⟨b,o,none⟩) n l)):ksl (some (.array l e)) (some sz) (.pointer (some ⟨b,o,none⟩)) none (some (.int k n)) K:=by
 rw[kk rfl rfl];refine ah (by simp only[loV_none,hiV_int]; omega) ?_;have e1:(if l=(gZ none).toNat then(⟨b,o,none⟩:Addr) else Addr.add ⟨b,o,none⟩ ((gZ none).toNat*sz))=⟨b,o,none⟩:=by
  split
  ·rfl
  ·simp
 have e2:((rN l (some (Value.int k (n:Int)))).toNat-(gZ none).toNat)=n:=by simp
 have e3:l-(gZ none).toNat=l:=by simp
 rw[e1,e2,e3];exact hK
end
end Go.Ev
namespace Go.Ev
open Go Go.RowKit Go.ChangeShapes
section
theorem lU {α:Type} {F:α→List Value} (hF:∀x,(F x).length=sz) (hsz:0<sz) {ok:α→Prop} {P:Program} {w:World} {n:Nat} {t e:TypeId} {cs:List Value}
  (hu:P.underlying t=some (.slice e)) (he:P.cellsOf e=sz) (hel:∀ec,Rd P w n e ec→∃x,ok x∧F x=ec) (h:Rd P w (n+1) t cs) :
  ∃(a:Option Addr) (l:List α) (c:Nat),cs=[.slice a l.length c]∧(∀x∈l,ok x)∧l.length≤c∧c≤maxLen∧aZ w a l.length sz (l.flatMap F):=by
 rcases xS hu h with rfl | ⟨a,len,cap,rfl,h1,h2,h3⟩
 ·exact⟨none,[],0,rfl,by simp,by simp,by simp,aZ.nil _ _ _⟩
 rw[he]at h3;have key:∀m,m≤len→∃l:List α,l.length=m∧(∀x∈l,ok x)∧∀i (hi:i<l.length),∀j,j<sz→w.cell? ((a.add (i*sz)).add j)=(F l[i])[j]?:=by
  intro m;induction m with
  | zero=>intro _; exact⟨[],rfl,by simp,by simp⟩
  | succ m ih =>
   intro hm;obtain⟨l,hl,hok,hc⟩:=ih (by omega);obtain⟨ec,g1,g2⟩:=h3 m (by omega);obtain⟨x,hx,rfl⟩:=hel ec g2;refine⟨l++[x],by simp[hl],?_,?_⟩
   ·intro y hy;rcases List.mem_append.1 hy with hy | hy
    ·exact hok y hy
    ·rw[List.mem_singleton.1 hy]; exact hx
   ·intro i hi j hj;by_cases hlt:i<l.length
    ·rw[List.getElem_append_left hlt]; exact hc i hlt j hj
    ·have:i=m:=by simp at hi; omega
     subst this;have e:(l++[x])[i]'hi=x:=by rw[List.getElem_append_right (by omega)]; simp
     rw[e];unfold World.cells? at g1;rw[if_pos (Nat.zero_le _)]at g1;exact mapM_some_get g1 j j (by simp[hj])
 obtain⟨l,hl,hok,hc⟩:=key len (Nat.le_refl _);refine⟨some a,l,cap,by rw[hl],hok,by omega,h2,?_⟩;by_cases h0:l.length=0
 ·have:l=[]:=List.length_eq_zero_iff.1 h0;subst this;exact aZ.nil _ _ _
 have hlen:=flat_len F sz hF l;refine⟨hlen,.inr ?_⟩;obtain⟨b,o,s⟩:=a;have hc0:=hc 0 (by omega) 0 hsz;have hF0:(F l[0])[0]?=some ((F (l[0]'(by omega)))[0]'(by rw[hF]; exact hsz)):=by rw[List.getElem?_eq_getElem]
 rw[hF0]at hc0;have ea:Addr.add ⟨b,o,s⟩ 0=⟨b,o,s⟩:=rfl;rw[Nat.zero_mul,ea,ea]at hc0;have hb:∃c t f,Ev.aX w b=some (.cells c t f)∧s=none:=by
  unfold World.cell? at hc0;split at hc0
  ·rename_i c t f hh;refine⟨c,t,f,hh,?_⟩;split at hc0
   ·cases hc0
   ·rename_i hs;cases s with
    | none=>rfl
    | some s=>exact absurd (show(some s).isSome=true from rfl) hs
  ·cases hc0
 obtain⟨c,t',f,hb,rfl⟩:=hb;refine⟨b,o,c,t',f,rfl,hb,?_⟩;apply List.ext_getElem?;intro k;by_cases hk:k<l.length*sz
 ·have hi:k/sz<l.length:=Nat.div_lt_of_lt_mul (by rw[Nat.mul_comm]; exact hk);have hj:k%sz<sz:=Nat.mod_lt _ hsz;have e:k/sz*sz+k%sz=k:=by rw[Nat.mul_comm]; exact Nat.div_add_mod k sz
  have h4:=hc (k/sz) hi (k%sz) hj;rw[add_mk,add_mk,cell_mk,hb,dU,Nat.add_assoc,e]at h4;have h5:=iY hF hi hj;rw[e]at h5;rw[List.getElem?_take_of_lt hk,List.getElem?_drop,h5,←h4];simp
 ·rw[List.getElem?_eq_none (by rw[List.length_take]; omega),List.getElem?_eq_none (by rw[hlen]; omega)]
end
end Go.Ev
namespace Go.Ev
open Go Go.RowKit
section
def nth {α:Type}:List α→Nat→Option α
 | [],_=>none
 | x::_,0=>some x
 | _::l,n+1=>nth l n
theorem nth_eq {α:Type}:∀(l:List α) (n:Nat),nth l n=l[n]?
 | [],_=>by simp[nth]
 | _::_,0=>by simp[nth]
 | _::l,n+1=>by simp[nth,nth_eq l n]
def segL {α:Type}:List α→Nat→Nat→Option (List α)
 | _,0,0=>some []
 | [],0,_+1=>none
 | x::l,0,n+1=>match segL l 0 n with
  | some r=>some (x::r)
  | none=>none
 | [],_+1,_=>none
 | _::l,o+1,n=>segL l o n
theorem dY {α:Type}:∀(l:List α) (o n:Nat) (r:List α),segL l o n=some r→o+n≤l.length∧(l.drop o).take n=r
 | l,0,0,r,h=>by cases l<;>(simp[segL]at h; subst h; simp)
 | [],0,_+1,_,h=>by simp[segL]at h
 | x::l,0,n+1,r,h=>by
  simp only[segL]at h;split at h
  ·rename_i r' hr;cases h;obtain⟨h1,h2⟩:=dY l 0 n r' hr;refine⟨by simp only[List.length_cons]; omega,?_⟩;simp only[List.drop_zero]at h2 ⊢;simp[h2]
  ·cases h
 | [],_+1,_,_,h=>by simp[segL]at h
 | _::l,o+1,n,r,h=>by
  obtain⟨h1,h2⟩:=dY l o n r (by simpa [segL] using h);exact⟨by simp only[List.length_cons]; omega,by simpa using h2⟩
section
variable {P:Program} {w:World}
theorem aq (h:K):kN (.pointer (some a)) K:=h
theorem dN (h:K):kN (.func (.func f) x y) K:=h
theorem dP {t:TypeId} (h:K):kN (.iface t x) K:=h
theorem ey {α:Type} {a:α} {K:α→Prop} (h:K a):kO (some a) K:=h
theorem ac {K:Bool→Prop} (h:K b):kB (.bool b) K:=h
theorem aj {K:Value→Prop} {t:TypeId} (hb:Ev.aX w b=some (.cells c t f)) (hc:nth c.toList o=some v) (h:K v):aw (.pointer (some ⟨b,o,none⟩)) w K :=
 ao hb (by rw[nth_eq]at hc; simpa using hc) h
theorem au {K:Value→Prop} {t:TypeId} (hb:Ev.aX w b=some (.cells c t f)) (hc:segL c.toList o n=some cs) (hn:0<n) (h:K (.agg cs.toArray)):aB n (.pointer (some ⟨b,o,none⟩)) w K:=by
 obtain⟨h1,h2⟩:=dY _ _ _ _ hc;exact fy hb (by simpa using h1) h2 hn h
theorem ak {vs:Array Value} {K:Value→Prop} (h:nth vs.toList i=some v) (hk:K v):aE (.tuple vs) i K :=
 C8 (by rw[nth_eq]at h; simpa using h) hk
theorem df {vs:Array Value} {i:Nat} {v:Value} {K:Value→Prop} (h:nth vs.toList i=some v) (hk:K v):bD (.agg vs) i K:=by
 rw[xA];exact FJ (by rw[nth_eq]at h; simpa using h) hk
theorem cP {vs:Array Value} {K:Value→Prop} (h:segL vs.toList i n=some cs) (hk:K (.agg cs.toArray)):a8 (.agg vs) i n K:=by
 rw[ve];obtain⟨h1,h2⟩:=dY _ _ _ _ h;have:vs.extract i (i+n)=cs.toArray:=by
  apply Array.ext';rw[←h2];simp[List.take_drop]
 rw[this]; exact hk
theorem aK {a:Option Addr} {n c:Nat} {K:Value→Prop} (h:K (.int .i64 n)):aU (.slice a n c) K:=h
theorem dg {a:Option Addr} {n c:Nat} {K:Value→Prop} (h:K (.int .i64 c)):bC (.slice a n c) K:=h
theorem bQ {s:ByteArray} {K:Value→Prop} (h:K (.int .i64 s.size)):aD (.string s) K:=h
theorem aN (h:b=true) (x:X):aA b X Y:=by subst h; exact x
theorem az (h:b=false) (y:Y):aA b X Y:=by subst h; exact y
theorem co [Decidable p] (h:p):decide p=true:=decide_eq_true h
theorem bT [Decidable p] (h:¬p):decide p=false:=decide_eq_false h
theorem fG (h:b=false):(!b)=true:=by rw[h]; rfl
theorem gy (h:b=true):(!b)=false:=by rw[h]; rfl
section
variable {k:IntKind} {a b:Int} {K:Value→Prop}
theorem aY {K:Value→Prop} (h1: -9223372036854775808≤a+b) (h2:a+b≤9223372036854775807) (h:K (.int .i64 (a+b))):kint .i64 .add (.int .i64 a) (.int .i64 b) K:=by
 rw[eS,dV h1 h2]; exact h
theorem cM {K:Value→Prop} (h1: -9223372036854775808≤a-b) (h2:a-b≤9223372036854775807) (h:K (.int .i64 (a-b))):kint .i64 .sub (.int .i64 a) (.int .i64 b) K:=by
 rw[lN,dV h1 h2]; exact h
theorem aF (h:K (.bool (decide (a=b)))):kint k .eql (.int k a) (.int k b) K:=by rw[gD]; exact h
theorem cu (h:K (.bool (decide (a≠b)))):kint k .neq (.int k a) (.int k b) K:=by rw[lO]; exact h
theorem aM (h:K (.bool (decide (a<b)))):kint k .lss (.int k a) (.int k b) K:=by rw[gE]; exact h
theorem db (h:K (.bool (decide (a≤b)))):kint k .leq (.int k a) (.int k b) K:=by rw[qe]; exact h
theorem bO (h:K (.bool (decide (b<a)))):kint k .gtr (.int k a) (.int k b) K:=by rw[xB]; exact h
theorem bI (h:K (.bool (decide (b≤a)))):kint k .geq (.int k a) (.int k b) K:=by rw[qf]; exact h
theorem bP {d:Option TypeDesc} {b:Bool} (h:K (.bool (!b))):kun .not d (.bool b) K:=by rw[CX]; exact h
theorem iJ (h:K (.bool (decide (x=y)))):kstr .eql (.string x) (.string y) K:=by rw[lP]; exact h
end
end
theorem bJ {v:Value} {K:World→Prop} {t:TypeId} (hb:Ev.aX w b=some (.cells c t)) (hv:v.cells=#[v]) (h1:v.oneCell'=true) (hle:o<c.size)
  (h:∀w2,aH (fun k=>k=b) w w2→w2.heap.size=w.heap.size→Ev.aX w2 b=some (.cells (c.setIfInBounds o v) t)→K w2):bj 1 (.pointer (some ⟨b,o,none⟩)) v w K :=
 aQ (vs:=[v]) hb (congrArg Array.toList hv) rfl (by unfold oneCells; rw[h1]; rfl) hle (by simp) h
open Classical in
noncomputable def qn (p:Nat→Prop):Nat→Nat
 | 0=>0
 | n+1=>if p (n+1) then n+1 else qn p n
theorem kl (p:Nat→Prop):∀n,(∃i,i≤n∧p i)→p (qn p n)∧qn p n≤n∧∀i,i≤n→p i→i≤qn p n
 | 0,⟨i,hi,h⟩=>by
  obtain rfl:i=0:=by omega
  exact⟨h,Nat.le_refl _,fun j hj _=>hj⟩
 | n+1,⟨i,hi,h⟩=>by
  unfold qn;by_cases hp:p (n+1)
  ·rw[if_pos hp]; exact⟨hp,Nat.le_refl _,fun j hj _=>hj⟩
  ·rw[if_neg hp];have hin:i≤n:=by
    rcases Nat.lt_or_ge i (n+1)with h1 | h1
    ·omega
    ·have e:i=n+1:=by omega
     exact absurd (e▸h) hp
   obtain⟨h1,h2,h3⟩:=kl p n ⟨i,hin,h⟩;refine⟨h1,by omega,fun j hj hpj=>?_⟩;rcases Nat.lt_or_ge j (n+1)with h4 | h4
   ·exact h3 j (by omega) hpj
   ·have:j=n+1:=by omega
    subst this; exact absurd hpj hp
noncomputable def lI {σ:Type} (n:Nat) (Inv:Nat→σ→Prop) (s:σ):Prop:=∃i,i≤n∧Inv i s
noncomputable def lM {σ:Type} (n:Nat) (Inv:Nat→σ→Prop) (s:σ):Nat:=n-qn (fun i=>Inv i s) n
theorem xT {σ:Type} {n:Nat} {Inv:Nat→σ→Prop} {s:σ} (h:Inv 0 s):lI n Inv s:=⟨0,by omega,h⟩
theorem jN {σ:Type} {n:Nat} {Inv:Nat→σ→Prop} {s:σ} (hs:lI n Inv s):∃i,i≤n∧Inv i s∧∀s',i<n→Inv (i+1) s'→lI n Inv s'∧lM n Inv s'<lM n Inv s:=by
 obtain⟨h1,h2,h3⟩:=kl (fun i=>Inv i s) n hs;refine⟨_,h2,h1,fun s' hlt hs'=>?_⟩;have hex:∃i,i≤n∧Inv i s':=⟨_,hlt,hs'⟩
 obtain⟨g1,g2,g3⟩:=kl (fun i=>Inv i s') n hex;have:=g3 _ hlt hs';exact⟨hex,by
  show n-qn (fun i=>Inv i s') n<n-qn (fun i=>Inv i s) n;omega⟩
def qo (Inv:Nat→Value→World→Prop):Nat→Value×World→Prop:=fun i s=>Inv i s.1 s.2
def lV (Inv:Nat→Value→Value→World→Prop):Nat→Value×Value×World→Prop:=fun i s=>Inv i s.1 s.2.1 s.2.2
def jO (Inv:Nat→Value→Value→Value→World→Prop):Nat→Value×Value×Value×World→Prop:=fun i s=>Inv i s.1 s.2.1 s.2.2.1 s.2.2.2
theorem xU (n:Nat) (Inv:Nat→World→Prop) {F:(World→Prop)→(World→Nat)→Prop} (h:F (lI n Inv) (lM n Inv)):kL F:=⟨_,_,h⟩
theorem cA (n:Nat) (Inv:Nat→Value→World→Prop) {F:(Value→World→Prop)→(Value→World→Nat)→Prop} (h:F (fun x w=>lI n (qo Inv) (x,w)) (fun x w=>lM n (qo Inv) (x,w))):kL F:=⟨_,_,h⟩
theorem ib (n:Nat) (Inv:Nat→Value→Value→World→Prop) {F:(Value→Value→World→Prop)→(Value→Value→World→Nat)→Prop} (h:F (fun x y w=>lI n (lV Inv) (x,y,w)) (fun x y w=>lM n (lV Inv) (x,y,w))):kL F:=⟨_,_,h⟩
theorem oT (n:Nat) (Inv:Nat→Value→Value→Value→World→Prop) {F:(Value→Value→Value→World→Prop)→(Value→Value→Value→World→Nat)→Prop} (h:F (fun x y z w=>lI n (jO Inv) (x,y,z,w)) (fun x y z w=>lM n (jO Inv) (x,y,z,w))):kL F:=⟨_,_,h⟩
theorem c8 {n:Nat} {Inv:Nat→Value→World→Prop} {x:Value} {w:World} (h:Inv 0 x w):lI n (qo Inv) (x,w):=xT (Inv:=qo Inv) h
theorem jP {n:Nat} {Inv:Nat→Value→Value→World→Prop} {x y:Value} {w:World} (h:Inv 0 x y w):lI n (lV Inv) (x,y,w):=xT (Inv:=lV Inv) h
theorem tM {n:Nat} {Inv:Nat→Value→Value→Value→World→Prop} {x y z:Value} {w:World} (h:Inv 0 x y z w):lI n (jO Inv) (x,y,z,w):=xT (Inv:=jO Inv) h
theorem bK {n:Nat} {Inv:Nat→Value→World→Prop} {x:Value} {w:World} (hs:lI n (qo Inv) (x,w)):∃i,i≤n∧Inv i x w∧∀x' w',i<n→Inv (i+1) x' w'→lI n (qo Inv) (x',w')∧lM n (qo Inv) (x',w')<lM n (qo Inv) (x,w):=by
 obtain⟨i,h1,h2,h3⟩:=jN hs;exact⟨i,h1,h2,fun x' w' hlt h=>h3 (x',w') hlt h⟩
theorem eX {n:Nat} {Inv:Nat→Value→Value→World→Prop} {x y:Value} {w:World} (hs:lI n (lV Inv) (x,y,w)):∃i,i≤n∧Inv i x y w∧∀x' y' w',i<n→Inv (i+1) x' y' w'→lI n (lV Inv) (x',y',w')∧lM n (lV Inv) (x',y',w')<lM n (lV Inv) (x,y,w):=by
 obtain⟨i,h1,h2,h3⟩:=jN hs;exact⟨i,h1,h2,fun x' y' w' hlt h=>h3 (x',y',w') hlt h⟩
theorem jQ {n:Nat} {Inv:Nat→Value→Value→Value→World→Prop} {x y z:Value} {w:World} (hs:lI n (jO Inv) (x,y,z,w)):∃i,i≤n∧Inv i x y z w∧∀x' y' z' w',i<n→Inv (i+1) x' y' z' w'→lI n (jO Inv) (x',y',z',w')∧lM n (jO Inv) (x',y',z',w')<lM n (jO Inv) (x,y,z,w):=by
 obtain⟨i,h1,h2,h3⟩:=jN hs;exact⟨i,h1,h2,fun x' y' z' w' hlt h=>h3 (x',y',z',w') hlt h⟩
theorem a7 (i:Nat):(i:Int)+1=((i+1:Nat):Int):=by omega
end
end Go.Ev
namespace Go.Proofs.YtcmijampbjcbgaaGreatDoor
open Go Go.Ev Go.RowKit Go.ChangeShapes
section
theorem own:ownKnob Tryz.prog.godebug=none:=by kernel_rfl
theorem tN:laidOutB Tryz.prog=true:=by kernel_rfl
theorem M0 : "*" ++ "errors.errorString" = "*errors.errorString" :=by decide
theorem IM (u:TypeId) (h:Tryz.prog.typeName? 3 u=some "*errors.errorString"):u=380 :=
 typeName_ptr_named (nm := "errors.errorString") (by rw[M0]; kernel_rfl) (by kernel_rfl) (by decide) u (by rw[M0]; exact h)
theorem Qr:Tryz.prog.cellsOf 404=1:=by kernel_rfl
theorem cStr:Tryz.prog.cellsOf 9=1:=by kernel_rfl
theorem c3:Tryz.prog.cellsOf 3=1:=by kernel_rfl
theorem qIO (h:(Lit.int .i64 n).wf=true): -9223372036854775808≤n∧n≤9223372036854775807:=by
 simp[Lit.wf,IntKind.min,IntKind.max,IntKind.signed,IntKind.bits]at h;exact h
theorem IP (h:(Lit.int .u32 n).wf=true):0≤n∧n<4294967296:=by
 simp[Lit.wf,IntKind.min,IntKind.max,IntKind.signed,IntKind.bits]at h;omega
def IQ:String×DataW Unit→String×List UInt8
 | (n,.iface _ (.ptr (.agg [.lit (.string s)])))=>(n,s)
 | (n,_)=>(n,[])
def r9:String×DataW Unit→Bool
 | (_,.iface _ (.ptr (.agg [.lit (.string _)])))=>true
 | _=>false
def xW:Nat→String
 | 1 => "pasodoble/api.ErrArg" | 2 => "pasodoble/api.ErrNil" | 3 => "pasodoble/api.ErrForm" | 4 => "pasodoble/api.ErrLong" | 5 => "pasodoble/api.ErrSum" | 6 => "pasodoble/api.ErrFull" | 7 => "pasodoble/api.ErrNone" | 8 => "pasodoble/api.ErrState" | 9 => "pasodoble/api.ErrTwice"
 | 10 => "pasodoble/api.ErrName" | 11 => "pasodoble/api.ErrCycle" | 12 => "pasodoble/api.ErrStack" | 13 => "pasodoble/api.ErrJump" | 14 => "pasodoble/api.ErrOp" | 15 => "pasodoble/api.ErrFuel" | 16 => "pasodoble/api.ErrRange" | 17 => "pasodoble/api.ErrDead" | _ => "pasodoble/api.ErrWord"
theorem vg {W:World} {L:List (String×DataW Unit)} (ks:List Nat) (sl:List (String×List UInt8)) (hpl:(L.all fun x=>x.2.handleName?.isNone)=true) (hs:L.filter r9=sl.map (FI "*errors.errorString")) (hn:sl.map (·.1)=ks.map xW)
  (hk:∀k∈ks,Tryz.prog.globalNamed (xW k)=some (gErr k)∧(Tryz.prog.globals[gErr k]?).map (·.type)=some 37) (hnd:ks.Nodup) (h:laidMetH Tryz.prog L W):∃S,cO (·∈ks) S W:=by
 rw[MakeChecks.laidMetH_plain _ _ _ hpl]at h;obtain⟨ps,hv,hps,hrows⟩:=laidMet.filter r9 h;rw[hs]at hv;have hlen:sl.length=ks.length:=by
  have:=congrArg List.length hn;simpa using this
 have hat:∀i (hi:i<ks.length),∃t,sl[i]?=some (xW ks[i],t):=by
  intro i hi;have hi':i<sl.length:=by omega
  have e:=congrArg (fun l:List String=>l[i]?) hn;simp only[List.getElem?_map,List.getElem?_eq_getElem hi,List.getElem?_eq_getElem hi',Option.map_some,Option.some.injEq]at e;exact⟨sl[i].2,by rw[List.getElem?_eq_getElem hi',←e]⟩
 obtain⟨zs,h1,h2,h3⟩:=vf Tryz.underlying37 IM Tryz.underlying380 Tryz.underlying404 rfl rfl Tryz.underlying9 Qr cStr sl ps hv
  (fun x hx=>by
   obtain⟨i,hi,rfl⟩:=List.mem_iff_getElem.1 hx;obtain⟨t,e1⟩:=hat i (by omega);rw[List.getElem?_eq_getElem hi,Option.some.injEq]at e1;rw[e1];exact⟨_,hk _ (List.getElem_mem (show i<ks.length by omega))⟩) hrows
 have key:∀k∈ks,∃i a,i<ks.length∧ks[i]?=some k∧ks.idxOf k=i∧zs[i]?=some a∧W.var? Tryz.prog (xW k)=some #[.iface 380 (.pointer (some a))]∧∃c t,W.heap[a.block]?=some (.cells c t (0,0)):=by
  intro k hkm;have hi:ks.idxOf k<ks.length:=List.idxOf_lt_length_of_mem hkm;obtain⟨t,e1⟩:=hat _ hi;rw[List.getElem_idxOf hi]at e1;obtain⟨a,s,g1,g2,_,_,_,g3⟩:=h3 _ _ e1;exact⟨_,a,hi,by rw[List.getElem?_eq_getElem hi,List.getElem_idxOf hi],rfl,g1,g2,g3⟩
 refine⟨fun k=>(zs[ks.idxOf k]?).getD ⟨0,0,none⟩,?_,?_,?_⟩
 ·intro k hkm;obtain⟨i,a,hi,hik,e,g1,g2,_⟩:=key k hkm;obtain⟨t,f,hb⟩:=js (hk k hkm).1 g2;refine⟨_,t,f,hb,?_⟩;simp[errV,e,g1]
 ·intro j k hj hkm hne;obtain⟨i,a,hi,hik,e,g1,_⟩:=key j hj;obtain⟨i',b,hi',hik',e',g1',_⟩:=key k hkm;simp only[e,e',g1,g1',Option.getD_some];refine C7 h2 hps g1 g1' ?_;rintro rfl;rw[hik]at hik';exact hne (Option.some.inj hik')
 ·intro k hkm;obtain⟨i,a,hi,hik,e,g1,_,c,t,g2⟩:=key k hkm;simp only[e,g1,Option.getD_some];exact⟨c,t,g2⟩
theorem qp {W:World} {L:List (String×DataW Unit)} (hpl:(L.all fun x=>x.2.handleName?.isNone)=true) (keep:String×DataW Unit→Bool) (n:String) (d:DataW Unit) (hs:L.filter keep=[(n,d)]) (h:laidMetH Tryz.prog L W) :
  ∃g t cs f p,Tryz.prog.globalNamed n=some g∧(Tryz.prog.globals[g]?).map (·.type)=some t∧W.var? Tryz.prog n=some cs∧DataW.trod (fun _=>()) Tryz.prog W 0 (fun _=>true) false f t cs.toList=some (d,p):=by
 rw[MakeChecks.laidMetH_plain _ _ _ hpl]at h;obtain⟨ps,hv,_,_⟩:=laidMet.filter keep h;rw[hs]at hv;obtain⟨g,t,cs,f,p,q,h1,h2,h3,h4,_⟩:=hv;exact⟨g,t,cs,f,p,h1,h2,h3,h4⟩
end
end Go.Proofs.YtcmijampbjcbgaaGreatDoor
namespace Go.Ev
open Go Go.RowKit
section
def Qs (P:Program) (t:TypeId):Bool:=match P.underlying t with
 | some (.slice e)=>(P.info? e).map (·.size) ==some 1
 | _=>false
theorem nt (h1:oneCells us=true):∀v∈us.take n,v.oneCell'=true:=by
 intro v hv;replace hv:=List.mem_of_mem_take hv;clear n;induction us with
 | nil=>cases hv
 | cons u r ih =>
  simp only[oneCells,Bool.and_eq_true]at h1;rcases List.mem_cons.1 hv with rfl | hv
  ·exact h1.1
  ·exact ih h1.2 hv
theorem vh {t tx ty:TypeId} {K:Value→World→Prop} (ht:Qs P t=true) {b o nd cd:Nat} {c:Array Value} {tt:TypeId} (hb:aX w b=some (.cells c tt)) {a:Option Addr} {n cs:Nat} {us:List Value} (hs:aZ w a n 1 us) (h1:oneCells us=true)
  (hle:o+min n nd≤c.size)
  (h:∀w2,aH (fun k=>k=b) w w2→w2.heap.size=w.heap.size→aX w2 b=some (.cells (setAll (us.take (min n nd)) c o) tt)→K (.int .i64 ((min n nd:Nat):Int)) w2) :
  ksem P (Builtin.copy_ #[t,tx] ty #[.slice (some ⟨b,o,none⟩) nd cd,.slice a n cs]) w K:=by
 unfold Qs at ht;split at ht<;>try cases ht
 rename_i e hu;have hsz:(P.info? e).map (·.size)=some 1:=by simpa using ht
 have hlen:us.length=n:=by simpa using hs.1
 by_cases h0:min n nd=0
 ·have hr:(Builtin.copy_ #[t,tx] ty #[.slice (some ⟨b,o,none⟩) nd cd,.slice a n cs]).run P w=.ok (goInt 0) w:=run_copy_none w t tx ty e (some ⟨b,o,none⟩) a nd cd n cs hu hsz h0;rw[dA hr];have:=h w (aH.refl _ _) rfl (by rw[h0,List.take_zero]; exact hb);rw[h0]at this;exact this
 ·rcases hs.2 with hn | ⟨b2,o2,c2,t2,f2,rfl,hb2,hc2⟩
  ·subst hn; simp at h0
  ·have hr:=run_copy_cells (P:=P) w t tx ty e b o nd cd ⟨b2,o2,none⟩ n cs (us.take (min n nd)) hu hsz (by rw[List.length_take,hlen]; exact Nat.min_eq_left (Nat.min_le_left _ _))
    (fun j v hj=>by
     have hjl:j<min n nd:=by
      have:=(List.getElem?_eq_some_iff.1 hj).1;simp only[List.length_take]at this; omega
     rw[add_mk,cell_mk,hb2,dU];rw[List.getElem?_take_of_lt hjl,←hc2]at hj;have hjn:j<n*1:=by omega
     rw[List.getElem?_take_of_lt hjn,List.getElem?_drop]at hj;simpa using hj)
    (fun j hj=>by
     have:j<min n nd:=by simp only[List.length_take]at hj; omega
     rw[cell_mk,hb,dU]; simp; omega)
    (fun j hj=>by simp[World.frozen?,show w.heap[b]?=_ from hb]) (nt h1)
   rw[dA hr,eW _ _ _ _ hb];have e1:(us.take (min n nd)).length=min n nd:=by rw[List.length_take,hlen]; exact Nat.min_eq_left (Nat.min_le_left _ _)
   rw[e1];exact h _ ((aH.refl _ _).setBlk _ (.inl rfl)) (dC _ _ _) (by rw[cN,if_pos rfl,hb]; rfl)
def ents (k:IntKind):Nat→List (Int×Value)→List MapEntry
 | _,[]=>[]
 | i,(n,v)::r=>{ key:=.int k n,val:=v,born:=i }::ents k (i+1) r
def lkI (n:Int):List (Int×Value)→Option (Nat×Value)
 | []=>none
 | (m,v)::r=>if n=m then some (0,v) else(lkI n r).map fun x=>(x.1+1,x.2)
def eA (w:World) (b:Nat) (k:IntKind) (kv:List (Int×Value)):Prop:=aX w b=some (.map (ents k 0 kv).toArray kv.length)
theorem ents_len (k:IntKind):∀(i:Nat) (kv:List (Int×Value)),(ents k i kv).length=kv.length
 | _,[]=>rfl
 | i,(n,v)::r=>by simp[ents,ents_len k (i+1) r]
theorem ents_get (k:IntKind):∀(i:Nat) (kv:List (Int×Value)) (j:Nat),(ents k i kv)[j]?=kv[j]?.map fun x=>{ key:=.int k x.1,val:=x.2,born:=i+j }
 | _,[],_=>by simp[ents]
 | i,(n,v)::r,0=>by simp[ents]
 | i,(n,v)::r,j+1=>by
  simp only[ents,List.getElem?_cons_succ,ents_get k (i+1) r j];rw[show i+1+j=i+(j+1) by omega]
theorem ents_append (k:IntKind):∀(i:Nat) (kv:List (Int×Value)) (x:Int×Value),ents k i (kv++[x])=ents k i kv++[{ key:=.int k x.1,val:=x.2,born:=i+kv.length }]
 | i,[],x=>by simp[ents]
 | i,(n,v)::r,x=>by simp[ents,ents_append k (i+1) r x]; omega
theorem findNow_ents (k:IntKind) (n:Int):∀(i j:Nat) (kv:List (Int×Value)),Instr.findNow (.int k) (.int k n) (ents k i kv) j=some ((lkI n kv).map fun x=>(j+x.1,x.2))
 | _,_,[]=>by simp[ents,Instr.findNow,lkI]
 | i,j,(m,v)::r=>by
  simp only[ents,Instr.findNow,Instr.sameNow,if_true,lkI];by_cases h:n=m
  ·subst h; simp
  ·have hb:(n ==m)=false:=by simpa using h
   rw[hb];simp only[h,if_false];rw[findNow_ents k n (i+1) (j+1) r];cases lkI n r with
   | none=>simp
   | some x=>simp; omega
theorem run_checkKey_int {P:Program} {t:TypeId} (hk:P.underlying t=some (.int k)) (e:Bool) (n:Int):(Instr.checkKey e 10000 t (.int k n)).run P w=.ok () w:=by
 rw[Instr.checkKey];simp[run_underlying hk]
theorem iK {P:Program} {t kt vt:TypeId} (ht:P.underlying t=some (.map kt vt)) (hk:P.underlying kt=some (.int k)) (hz:eP P vt=some z) {b:Nat} {kv:List (Int×Value)} (hm:eA w b k kv) (n:Int) (ok:Bool) :
  (Instr.lookup t (.map (some b)) (.int k n) ok).run P w=.ok (match lkI n kv with | some (_,v)=>if ok then .tuple #[v,.bool true] else v | none=>if ok then .tuple #[z,.bool false] else z) w:=by
 have hh:w.heap[b]?=some (.map (ents k 0 kv).toArray kv.length):=hm;simp only[Instr.lookup,Sem.run_bind,run_underlying ht,Result.andThen_ok,getObj,Sem.run,hh,Result.andThen,run_checkKey_int hk,Instr.findKey,run_underlying hk,Sem.run_pure,findNow_ents];cases lkI n kv with
 | none=>cases ok<;>simp[Sem.run,run_zero' hz]
 | some x=>cases ok<;>simp[Sem.run]
theorem jR {P:Program} {t kt vt:TypeId} (ht:P.underlying t=some (.map kt vt)) (hk:P.underlying kt=some (.int k)) {b:Nat} {kv:List (Int×Value)} (hm:eA w b k kv) (n:Int) (v:Value) (hn:lkI n kv=none) :
  (Instr.mapUpdate t (.map (some b)) (.int k n) v).run P w=.ok () (World.setBlk w b (.map (ents k 0 (kv++[(n,v)])).toArray (kv++[(n,v)]).length)):=by
 have hh:w.heap[b]?=some (.map (ents k 0 kv).toArray kv.length):=hm;simp only[Instr.mapUpdate,Sem.run_bind,run_underlying ht,Result.andThen_ok,getObj,Sem.run,hh,Result.andThen,run_checkKey_int hk,Instr.findKey,run_underlying hk,Sem.run_pure,findNow_ents,hn,Option.map_none,setObj];rw[ents_append];simp[World.setBlk]
theorem eA.mod {fp:Nat→Prop} (h:eA w b k kv) (hm:aH fp w w') (hf:¬fp b):eA w' b k kv:=hm.get h hf
theorem eA.same (h:eA w b k kv) (hm:Same w w'):eA w' b k kv:=hm.get h fun h=>h
section
variable {P:Program} {w:World} {K:Value→World→Prop}
theorem jS (h:∀w2,Same w w2→w2.heap.size=w.heap.size+1→(∀k,eA w2 w.heap.size k [])→K (.map (some w.heap.size)) w2):bB w K :=
 h _ ((aH.refl _ _).alloc _) (by simp) (fun k=>cq _ _)
theorem lW {t kt vt:TypeId} (ht:P.underlying t=some (.map kt vt)) (hk:P.underlying kt=some (.int k)) (hz:eP P vt=some z) {b:Nat} {kv:List (Int×Value)} (hm:eA w b k kv) {n:Int} {r:Option (Nat×Value)} (hr:lkI n kv=r)
  (h:K (match r with | some (_,v)=>v | none=>z) w):ksem P (Instr.lookup t (.map (some b)) (.int k n) false) w K:=by
 rw[dA (iK ht hk hz hm n false),hr];cases r with
 | none=>exact h
 | some x=>exact h
theorem lX {t kt vt:TypeId} (ht:P.underlying t=some (.map kt vt)) (hk:P.underlying kt=some (.int k)) (hz:eP P vt=some z) {b:Nat} {kv:List (Int×Value)} (hm:eA w b k kv) {n:Int} {r:Option (Nat×Value)} (hr:lkI n kv=r)
  (h:K (match r with | some (_,v)=>.tuple #[v,.bool true] | none=>.tuple #[z,.bool false]) w):ksem P (Instr.lookup t (.map (some b)) (.int k n) true) w K:=by
 rw[dA (iK ht hk hz hm n true),hr];cases r with
 | none=>exact h
 | some x=>exact h
theorem nW {K:Value→World→Prop} {t kt vt:TypeId} (ht:P.underlying t=some (.map kt vt)) (hk:P.underlying kt=some (.int k)) {b:Nat} {kv:List (Int×Value)} (hm:eA w b k kv) {n:Int} {v:Value} (hn:lkI n kv=none)
  (h:∀w2,aH (fun j=>j=b) w w2→w2.heap.size=w.heap.size→eA w2 b k (kv++[(n,v)])→K undef w2):ksemU P (Instr.mapUpdate t (.map (some b)) (.int k n) v) w K:=by
 rw[lQ (jR ht hk hm n v hn)];refine h _ ((aH.refl _ _).setBlk _ (.inl rfl)) (dC _ _ _) ?_;unfold eA;rw[cN,if_pos rfl,show aX w b=_ from hm]; rfl
theorem vi {t kt vt:TypeId} (ht:P.underlying t=some (.map kt vt)) {b:Nat} {k:IntKind} {kv:List (Int×Value)} (hm:eA w b k kv)
  (h:∀w2,Same w w2→w2.heap.size=w.heap.size+1→aX w2 w.heap.size=some (.mapIter (some b) kv.length #[] kv.length)→K (.pointer (some ⟨w.heap.size,0,none⟩)) w2):ksem P (Instr.range t (.map (some b))) w K:=by
 have hh:w.heap[b]?=some (.map (ents k 0 kv).toArray kv.length):=hm;have hr:(Instr.range t (.map (some b))).run P w=.ok (.pointer (some ⟨w.heap.size,0,none⟩)) (w.alloc (.mapIter (some b) kv.length #[] kv.length)):=by
  simp[Instr.range,run_underlying ht,getObj,Sem.run,hh]
 rw[dA hr];exact h _ ((aH.refl _ _).alloc _) (by simp) (cq _ _)
theorem qq (hx:x∈ents k 0 kv):∃j,∃h:j<kv.length,x={ key:=.int k kv[j].1,val:=kv[j].2,born:=j }:=by
 obtain⟨j,hj,rfl⟩:=List.mem_iff_getElem.1 hx;rw[ents_len]at hj;have:=ents_get k 0 kv j;rw[List.getElem?_eq_getElem (by rw[ents_len]; exact hj),List.getElem?_eq_getElem hj,Option.map_some,Option.some.injEq]at this;exact⟨j,hj,by rw[this,Nat.zero_add]⟩
theorem qr {kv:List (Int×Value)} (h:j<kv.length):{ key:=.int k kv[j].1,val:=kv[j].2,born:=j }∈ents k 0 kv:=by
 have:=ents_get k 0 kv j;rw[List.getElem?_eq_getElem h,Option.map_some,Nat.zero_add]at this;exact List.mem_of_getElem? this
theorem xX {ty:TypeId} {kv:List (Int×Value)} {seen:List Nat} (hr:aX w r=some (.mapIter (some b) kv.length seen.toArray kv.length)) (hm:eA w b k kv)
  (h0:(∀i,i<kv.length→i∈seen)→K (.tuple #[.bool false]) w)
  (h1:∀i (hi:i<kv.length),i∉seen→∀w2,aH (fun j=>j=r) w w2→w2.heap.size=w.heap.size→aX w2 r=some (.mapIter (some b) kv.length (seen++[i]).toArray kv.length)→K (.tuple #[.bool true,.int k (kv[i]'hi).1,(kv[i]'hi).2]) w2) :
  ksem P (Instr.next (.pointer (some ⟨r,0,none⟩)) false ty) w K:=by
 have hold:∀x∈(ents k 0 kv).toArray.toList,x.born<kv.length:=by
  intro x hx;obtain⟨j,hj,rfl⟩:=qq hx;exact hj
 rcases run_next_at (P:=P) w ty r b kv.length kv.length seen.toArray (ents k 0 kv).toArray kv.length hr hm hold (Nat.le_refl _)with⟨hz,hrun⟩ | ⟨e,he,w1,hw1,hrun⟩
 ·rw[dA hrun];refine h0 fun i hi=>?_;have:leftOf (ents k 0 kv).toArray seen.toArray=#[]:=Array.eq_empty_of_size_eq_zero hz;unfold leftOf at this;rw[Array.filter_eq_empty_iff]at this;have:=this _ (by simpa using qr (k:=k) hi);simpa using this
 ·rw[dA hrun];have hel:e∈ents k 0 kv∧e.born∉seen:=by
   unfold leftOf at he;simpa using he
  obtain⟨j,hj,rfl⟩:=qq hel.1;have hm1:Same w w1:=by
   rcases hw1 with rfl | rfl
   ·exact aH.refl _ _
   ·exact(aH.refl _ _).drew
  have hs1:w1.heap=w.heap:=by rcases hw1 with rfl | rfl<;>rfl
  have e1:ChangeMaps.setBlock w1 r (.mapIter (some b) kv.length (seen.toArray.push j) kv.length)=World.setBlk w1 r (.mapIter (some b) kv.length (seen++[j]).toArray kv.length):=by
   unfold ChangeMaps.setBlock World.setBlk; simp
  rw[e1];refine h1 j hj hel.2 _ ((aH.of_same hm1).setBlk _ (.inl rfl)) (by rw[dC,hs1]) ?_;rw[cN,if_pos rfl];have:aX w1 r=aX w r:=by unfold aX; rw[hs1]
  rw[this,hr]; rfl
theorem vj {r b:Nat} {k:IntKind} {kv:List (Int×Value)} {seen:List Nat} {i:Nat} (hi:i<kv.length) (hr:aX w r=some (.mapIter (some b) kv.length (seen++[i]).toArray kv.length)) (hm:eA w b k kv)
  (h:K (.tuple #[.int k (kv[i]'hi).1,(kv[i]'hi).2]) w):ksem P (Instr.entry (.pointer (some ⟨r,0,none⟩))) w K:=by
 have hr':w.heap[r]?=some (.mapIter (some b) kv.length (seen.toArray.push i) kv.length):=by
  have:(seen++[i]).toArray=seen.toArray.push i:=by simp
  rw[←this]; exact hr
 have hnd:((ents k 0 kv).toArray.toList.map (·.born)).Nodup:=by
  have:(ents k 0 kv).map (·.born)=List.range kv.length:=by
   apply List.ext_getElem?;intro j;rw[List.getElem?_map,ents_get];by_cases hj:j<kv.length
   ·rw[List.getElem?_eq_getElem hj]; simp[hj]
   ·rw[List.getElem?_eq_none (by omega)]; simp; omega
  rw[show(ents k 0 kv).toArray.toList=ents k 0 kv from rfl,this];exact List.nodup_range
 have:=run_entry_at (P:=P) w r b kv.length seen.toArray (ents k 0 kv).toArray kv.length { key:=.int k kv[i].1,val:=kv[i].2,born:=i } hr' hm (by simpa using qr (k:=k) hi) hnd;rw[dA this];exact h
end
theorem bV.view (h:bV w v sz vs) (hne:vs≠[]):∃bc n cp arr t,v=.slice (some ⟨bc,0,none⟩) n cp∧Ev.aX w bc=some (.cells arr t)∧vs.length=n*sz∧arr.size=cp*sz∧n≤cp∧cp≤maxLen∧arr.toList.take (n*sz)=vs:=by
 obtain⟨a,n,c,rfl,h1,h2,h3,h4⟩:=h;rcases h4 with⟨rfl,h4⟩ | ⟨b,arr,t,rfl,hb,hs,h5⟩
 ·obtain rfl:n=0:=by omega
  rw[Nat.zero_mul]at h1;exact absurd (List.eq_nil_of_length_eq_zero h1) hne
 ·exact⟨b,n,c,arr,t,rfl,hb,h1,hs,h2,h3,h5⟩
theorem bV.put {t:TypeId} (h:bV w (.slice (some ⟨bc,0,none⟩) n cp) sz vs) (hb:Ev.aX w bc=some (.cells arr t)) (hb':Ev.aX w' bc=some (.cells (setAll us arr j) t)) (hj:j+us.length≤vs.length) :
  bV w' (.slice (some ⟨bc,0,none⟩) n cp) sz (vs.take j++us++vs.drop (j+us.length)):=by
 obtain⟨a,n',c',e,h1,h2,h3,h4⟩:=h;cases e;rcases h4 with⟨h4,_⟩ | ⟨b,arr0,t0,e,hb0,hs,h5⟩
 ·cases h4
 ·cases e;rw[hb]at hb0;cases hb0;have hN:n*sz≤arr.toList.length:=by
   have:=congrArg List.length h5;rw[List.length_take,h1]at this;omega
  refine⟨_,n,cp,rfl,?_,h2,h3,.inr ⟨_,_,t,rfl,hb',by rw[setAll_size]; exact hs,?_⟩⟩
  ·simp only[List.length_append,List.length_take,List.length_drop]; omega
  ·rw[dS _ _ _ (by simp at hN ⊢; omega)];have e1:vs.take j=arr.toList.take j:=by rw[←h5,List.take_take,Nat.min_eq_left (by omega)]
   have e2:vs.drop (j+us.length)=(arr.toList.drop (j+us.length)).take (n*sz-(j+us.length)):=by rw[←h5,List.drop_take]
   rw[e1,e2,List.append_assoc,List.append_assoc,List.take_append,List.take_append];have l1:(arr.toList.take j).length=j:=by rw[List.length_take]; omega
   rw[l1,List.take_of_length_le (by omega:(arr.toList.take j).length≤n*sz),List.take_of_length_le (by omega:us.length≤n*sz-j)];rw[show n*sz-j-us.length=n*sz-(j+us.length) by omega]
theorem bV.cutN (h:bV w (.slice a n c) sz vs) {k:Nat} (hk:k≤n):bV w (.slice a k c) sz (vs.take (k*sz)):=by
 obtain⟨a',n',c',e,h1,h2,h3,h4⟩:=h;cases e;have hle:k*sz≤n*sz:=Nat.mul_le_mul_right _ hk;refine⟨a,k,c,rfl,by rw[List.length_take,h1]; omega,by omega,h3,h4.imp id ?_⟩;rintro⟨b,arr,t,ha,hb,hs,ht⟩;refine⟨b,arr,t,ha,hb,hs,?_⟩;rw[←ht,List.take_take,Nat.min_eq_left hle]
theorem lY {α:Type} {F:α→List Value} (hF:∀x,(F x).length=sz):∀(l:List α) (i:Nat) (x:α),i<l.length→(l.set i x).flatMap F=(l.flatMap F).take (i*sz)++F x++(l.flatMap F).drop (i*sz+sz)
 | y::l,0,x,_=>by
  simp only[List.set_cons_zero,List.flatMap_cons,Nat.zero_mul,List.take_zero,List.nil_append,Nat.zero_add];rw[←hF y,List.drop_left]
 | y::l,i+1,x,h=>by
  have ih:=lY hF l i x (by simpa using h);have e1:(i+1)*sz=(F y).length+i*sz:=by rw[hF,Nat.add_mul]; omega
  rw[List.set_cons_succ,List.flatMap_cons,ih,List.flatMap_cons,e1,List.take_length_add_append,Nat.add_assoc,List.drop_length_add_append];simp
theorem vk {α:Type} {F:α→List Value} (hF:∀x,(F x).length=sz) (l:List α) (k:Nat):(l.take k).flatMap F=(l.flatMap F).take (k*sz):=by
 induction l generalizing k with
 | nil=>simp
 | cons y l ih =>
  cases k with
  | zero=>simp
  | succ k =>
   have e1:(k+1)*sz=(F y).length+k*sz:=by rw[hF,Nat.add_mul]; omega
   rw[List.take_succ_cons,List.flatMap_cons,ih,List.flatMap_cons,e1,List.take_length_add_append]
theorem qt {e:TypeId} {K:Value→Prop} (hK:K (.slice (some ⟨b,o,none⟩) l l)):ksl (some (.array l e)) (some sz) (.pointer (some ⟨b,o,none⟩)) none none K:=by
 rw[kk rfl rfl];refine ah (by simp only[loV_none,hiV_none]; omega) ?_;have e1:(if l=(gZ none).toNat then(⟨b,o,none⟩:Addr) else Addr.add ⟨b,o,none⟩ ((gZ none).toNat*sz))=⟨b,o,none⟩:=by
  split
  ·rfl
  ·simp
 rw[e1];simpa using hK
theorem jt {b o l n sz:Nat} {e:TypeId} {K:Value→Prop} (h:n≤l) (hK:K (.slice (some ⟨b,if l=n then o else o+n*sz,none⟩) (l-n) (l-n))):ksl (some (.array l e)) (some sz) (.pointer (some ⟨b,o,none⟩)) (some (.int k n)) none K:=by
 rw[kk rfl rfl];refine ah (by simp only[loV_int,hiV_none]; omega) ?_;have e1:(if l=(gZ (some (.int k n))).toNat then(⟨b,o,none⟩:Addr) else Addr.add ⟨b,o,none⟩ ((gZ (some (.int k n))).toNat*sz))=⟨b,if l=n then o else o+n*sz,none⟩:=by
  have e0:(gZ (some (Value.int k (n:Int)))).toNat=n:=by simp
  by_cases h0:l=n
  ·rw[if_pos (by rw[e0]; exact h0),if_pos h0]
  ·rw[if_neg (by rw[e0]; exact h0),if_neg h0,add_mk,e0]
 rw[e1];simpa using hK
theorem nX {e:TypeId} {K:Value→Prop} (h:m≤c) (hK:K (.slice (some ⟨b,o,none⟩) m c)):ksl (some (.slice e)) (some sz) (.slice (some ⟨b,o,none⟩) l c) none (some (.int k m)) K:=by
 rw[ff rfl rfl];refine ah (by simp only[loV_none,hiV_int]; omega) ?_;have e1:(if c=(gZ none).toNat then(some ⟨b,o,none⟩:Option Addr) else(some ⟨b,o,none⟩:Option Addr).map (·.add ((gZ none).toNat*sz)))=some ⟨b,o,none⟩:=by
  split
  ·rfl
  ·simp
 rw[e1];simpa using hK
theorem vl {e:TypeId} {K:Value→Prop} (h:m≤l) (hl:l≤c) (hne:c≠m) (hK:K (.slice (some ⟨b,o+m*sz,none⟩) (l-m) (c-m))):ksl (some (.slice e)) (some sz) (.slice (some ⟨b,o,none⟩) l c) (some (.int k m)) none K:=by
 rw[ff rfl rfl];refine ah (by simp only[loV_int,hiV_none]; omega) ?_;have e0:(gZ (some (Value.int k (m:Int)))).toNat=m:=by simp
 rw[if_neg (by rw[e0]; exact hne)];simp only[Option.map_some,add_mk,e0];simpa using hK
theorem bV.set1 {t:TypeId} (h:bV w (.slice (some ⟨bc,0,none⟩) n cp) sz vs) (hb:Ev.aX w bc=some (.cells arr t)) (hb':Ev.aX w' bc=some (.cells (setAll [v] arr j) t)) (hj:j<vs.length) :
  bV w' (.slice (some ⟨bc,0,none⟩) n cp) sz (vs.set j v):=by
 have:=h.put hb hb' (by simp; omega);rw[List.set_eq_take_append_cons_drop,if_pos hj];rw[List.append_assoc]at this;exact this
theorem bV.setF {α:Type} {F:α→List Value} {sz:Nat} (hF:∀x,(F x).length=sz) {w w':World} {bc n cp:Nat} {l:List α} {x:α} {arr:Array Value} {t:TypeId} {i:Nat} (h:bV w (.slice (some ⟨bc,0,none⟩) n cp) sz (l.flatMap F)) (hb:Ev.aX w bc=some (.cells arr t)) (hb':Ev.aX w' bc=some (.cells (setAll (F x) arr (i*sz)) t)) (hi:i<l.length) :
  bV w' (.slice (some ⟨bc,0,none⟩) n cp) sz ((l.set i x).flatMap F):=by
 have h1:(i+1)*sz≤l.length*sz:=Nat.mul_le_mul_right _ hi;rw[Nat.add_mul,Nat.one_mul]at h1;have:=h.put hb hb' (by rw[flat_len F sz hF,hF]; exact h1);rw[lY hF l i x hi];rw[hF]at this;exact this
theorem bV.viewF {α:Type} {F:α→List Value} (hF:∀x,(F x).length=sz) (hs:0<sz) {w:World} {v:Value} {l:List α} (h:bV w v sz (l.flatMap F)) (hne:0<l.length) :
  ∃bc cp arr t,v=.slice (some ⟨bc,0,none⟩) l.length cp∧Ev.aX w bc=some (.cells arr t)∧l.length≤cp∧l.length*sz≤arr.size∧∀i (hi:i<l.length),segL arr.toList (i*sz) sz=some (F l[i]):=by
 have hl:=flat_len F sz hF l;have hp:1*1≤l.length*sz:=Nat.mul_le_mul hne hs;obtain⟨bc,n,cp,arr,t,rfl,hb,h1,h2,h3,_,h5⟩:=h.view (by intro e; rw[e]at hl; simp at hl; omega);have hn:n=l.length:=Nat.eq_of_mul_eq_mul_right hs (by omega);subst hn;refine⟨bc,cp,arr,t,rfl,hb,h3,by rw[h2]; exact Nat.mul_le_mul_right _ h3,fun i hi=>?_⟩;have hg:=d5 F sz hF l i hi;have h6:(i+1)*sz≤l.length*sz:=Nat.mul_le_mul_right _ hi;rw[Nat.add_mul,Nat.one_mul]at h6;rw[←h5,List.drop_take,List.take_take,Nat.min_eq_left (by omega)]at hg;have hsz:l.length*sz≤arr.toList.length:=by
  have:=congrArg List.length h5;rw[List.length_take,hl]at this; omega
 rw[←hg];generalize arr.toList=L at *;clear hg h5 hb h h2;have:∀(o n:Nat) (L:List Value),o+n≤L.length→segL L o n=some ((L.drop o).take n):=by
  intro o;induction o with
  | zero =>
   intro n;induction n with
   | zero=>intro L _; cases L<;>simp[segL]
   | succ n ih =>
    intro L h;cases L with
    | nil=>simp at h
    | cons x L =>
     have:=ih L (by simp at h; omega);simp only[List.drop_zero]at this;simp[segL,this]
  | succ o ih =>
   intro n L h;cases L with
   | nil=>simp at h
   | cons x L =>
    rw[segL];exact ih n L (by simp at h; omega)
 exact this _ _ _ (by omega)
theorem qu {α:Type} (f:α→Value):∀l:List α,l.map f=l.flatMap fun x=>[f x]
 | []=>rfl
 | x::l=>by rw[List.map_cons,List.flatMap_cons,qu f l]; rfl
theorem bV.viewM {α:Type} {f:α→Value} {l:List α} (h:bV w v 1 (l.map f)) (hne:0<l.length) :
  ∃bc cp arr t,v=.slice (some ⟨bc,0,none⟩) l.length cp∧Ev.aX w bc=some (.cells arr t)∧l.length≤cp∧l.length≤arr.size∧∀i (hi:i<l.length),arr[i]?=some (f l[i]):=by
 have e:=qu f l;obtain⟨bc,cp,arr,t,h1,h2,h3,h4,h5⟩:=bV.viewF (F:=fun x=>[f x]) (sz:=1) (fun _=>rfl) (by omega) (e▸h) hne;refine⟨bc,cp,arr,t,h1,h2,h3,by omega,fun i hi=>?_⟩;obtain⟨g1,g2⟩:=dY _ _ _ _ (h5 i hi);have:=congrArg (fun l:List Value=>l[0]?) g2;simpa [List.getElem?_take,List.getElem?_drop] using this
end
end Go.Ev
namespace Go.Proofs.YtcmijampbjcbgaaGreatDoor
open Go Go.Ev
section
abbrev ic:=List ByteArray×Nat
def dZ (S:Nat→Addr) (w:World):Nat→Value→List ic→Prop
 | 0,v,ls=>∃k,1≤k∧k≤18∧v=errV S k∧ls=[([],k)]
 | d+1,v,ls=>dZ S w d v ls ∨
   (∃b wh u ls' t f,v=.iface 244 (.pointer (some ⟨b,0,none⟩))∧aX w b=some (.cells #[.string wh,u] t f)∧dZ S w d u ls'∧ls=ls'.map (fun l=>(wh::l.1,l.2))) ∨
   (∃(b:Nat) (a:Option Addr) (n c:Nat) (zs:List (Value×List ic)) (t:TypeId) (f:Nat×Nat),v=.iface 292 (.pointer (some ⟨b,0,none⟩))∧aX w b=some (.cells #[.slice a n c] t f)∧aZ w a n 1 (zs.map (·.1))∧zs≠[] ∧
    (∀p∈zs,dZ S w d p.1 p.2)∧ls=zs.flatMap (·.2))
theorem dZ.same (hm:Same w w'):∀{d:Nat} {v:Value} {ls:List ic},dZ S w d v ls→dZ S w' d v ls
 | 0,_,_,h=>h
 | d+1,v,ls,h=>by
  rcases h with h | ⟨b,wh,u,ls',t,f,h1,h2,h3,h4⟩ | ⟨b,a,n,c,zs,t,f,h1,h2,h3,h4,h5,h6⟩
  ·exact .inl (h.same hm)
  ·exact .inr (.inl ⟨b,wh,u,ls',t,f,h1,hm.get h2 (fun h=>h),h3.same hm,h4⟩)
  ·exact .inr (.inr ⟨b,a,n,c,zs,t,f,h1,hm.get h2 (fun h=>h),h3.same hm,h4,fun p hp=>(h5 p hp).same hm,h6⟩)
theorem dZ.up (h:dZ S w d v ls) (hd:d≤d'):dZ S w d' v ls:=by
 induction hd with
 | refl=>exact h
 | step _ ih=>exact .inl ih
theorem dZ.pos:∀{d:Nat} {v:Value} {ls:List ic},dZ S w d v ls→1≤ls.length
 | 0,v,ls,⟨k,_,_,_,e⟩=>by simp[e]
 | d+1,v,ls,h=>by
  rcases h with h | ⟨b,wh,u,ls',t,f,h1,h2,h3,h4⟩ | ⟨b,a,n,c,zs,t,f,h1,h2,h3,h4,h5,h6⟩
  ·exact h.pos
  ·have:=h3.pos; simp[h4]; omega
  ·cases zs with
   | nil=>exact absurd rfl h4
   | cons x zs =>
    have:=(h5 x (by simp)).pos;simp[h6,List.flatMap_cons]; omega
theorem dZ.cases:∀{d:Nat} {v:Value} {ls:List ic},dZ S w d v ls →
  (∃k,1≤k∧k≤18∧v=errV S k∧ls=[([],k)]) ∨
   (∃d',d'<d∧∃b wh u ls' t f,v=.iface 244 (.pointer (some ⟨b,0,none⟩))∧aX w b=some (.cells #[.string wh,u] t f)∧dZ S w d' u ls'∧ls=ls'.map (fun l=>(wh::l.1,l.2))) ∨
   (∃d',d'<d∧∃(b:Nat) (a:Option Addr) (n c:Nat) (zs:List (Value×List ic)) (t:TypeId) (f:Nat×Nat),v=.iface 292 (.pointer (some ⟨b,0,none⟩))∧aX w b=some (.cells #[.slice a n c] t f)∧aZ w a n 1 (zs.map (·.1))∧zs≠[] ∧
    (∀p∈zs,dZ S w d' p.1 p.2)∧ls=zs.flatMap (·.2))
 | 0,v,ls,h=>.inl h
 | d+1,v,ls,h=>by
  rcases h with h | h | h
  ·rcases h.cases with h | ⟨d',hd,h⟩ | ⟨d',hd,h⟩
   ·exact .inl h
   ·exact .inr (.inl ⟨d',by omega,h⟩)
   ·exact .inr (.inr ⟨d',by omega,h⟩)
  ·exact .inr (.inl ⟨d,by omega,h⟩)
  ·exact .inr (.inr ⟨d,by omega,h⟩)
theorem dZ.one (h:dZ S w d v ls):∃t u,v=.iface t u:=by
 rcases h.cases with⟨k,_,_,rfl,_⟩ | ⟨d',_,b,wh,u,ls',t,f,rfl,_⟩ | ⟨d',_,b,a,n,c,zs,t,f,rfl,_⟩<;>exact⟨_,_,rfl⟩
def xY (S:Nat→Addr) (w:World) (d:Nat) (v:Value) (ls:List ic):Prop:=(v=.nilIface∧ls=[])∨dZ S w d v ls
theorem xY.nil_iff (h:xY S w d v ls):(ls=[]∧v=.nilIface)∨(ls≠[]∧∃t u,v=.iface t u):=by
 rcases h with⟨h1,h2⟩ | h
 ·exact .inl ⟨h2,h1⟩
 ·exact .inr ⟨fun e=>by have:=h.pos; simp[e]at this,h.one⟩
end
section
theorem aH.after {fp:Nat→Prop} (h:Same a b) (k:aH fp b c) (hf:∀b,fp b→a.heap.size≤b):Same a c:=h.trans' (k.mono fun i _ hi=>.inr (hf i hi))
theorem cg (h:bf (.slice (some ⟨B,o,none⟩) n c) b):b=B:=by
 obtain⟨_,_,_,e⟩:=h; cases e; rfl
theorem d6 (w:World) (o:Obj):Same w (w.alloc o):=(aH.refl _ _).alloc o
theorem qv (hs:aZ w a n 1 us) (h1:oneCells us=true) (hn:us.length≤1099511627776) :
  af Tryz.prog 215 #[.slice a n c] w fun v w'=>bV w' v 1 us∧Same w w'∧(∀b,bf v b→w.heap.size≤b):=by
 refine C3 ?_;unfold MV;rw[fg MZ];simp -dsimp;cases a with
 | none =>
  have:n=0:=by rcases hs.2 with h | ⟨_,_,_,_,_,h,_⟩; exact h; cases h
  subst this;have:us=[]:=by simpa using hs.1
  subst this;simp -dsimp;exact⟨bV.nil _ _,aH.refl _ _,fun b hb=>by obtain⟨_,_,_,h⟩:=hb; cases h⟩
 | some a =>
  simp -dsimp;unfold xO;simp -dsimp;refine be xQ (by omega) (vs:=[]) (bV.new (arr:=#[]) (n:=0) (by simp) (by simp[maxLen])) (Src.ofSlIs (hk:=(dI (P:=Tryz.prog) (t:=205) (by kernel_rfl)).choose_spec) c (hs.same (d6 _ _)) h1) (by simpa using by omega) (by simpa using by omega) ?_;intro v' w' ho hm hf;refine⟨by simpa using ho,aH.after (d6 _ _) hm (fun b hb=>by rw[cg hb]; exact Nat.le_refl _),fun b hb=>?_⟩;rcases hf b hb with h | h
  ·rw[cg h]; exact Nat.le_refl _
  ·simp at h; omega
theorem oU {t:TypeId} (hb:aX w b=some (.cells #[.slice a n c] t f)) (hs:aZ w a n 1 us) (h1:oneCells us=true) (hn:us.length≤1099511627776) :
  af Tryz.prog 196 #[.pointer (some ⟨b,0,none⟩)] w fun v w'=>bV w' v 1 us∧Same w w'∧(∀b,bf v b→w.heap.size≤b):=by
 refine C2 ?_;unfold MU;rw[aJ MY];simp -dsimp;unfold xN;simp -dsimp [hb];refine ab (qv hs h1 hn) ?_;rintro v w' h;simpa using h
end
section
theorem aZ.new {w:World} {t:TypeId} {arr:Array Value} (h:arr.size=n*sz):aZ (w.alloc (.cells arr t)) (some ⟨w.heap.size,0,none⟩) n sz arr.toList :=
 ⟨by simpa using h,.inr ⟨_,0,arr,t,_,rfl,cq _ _,by rw[List.drop_zero,←h,←Array.length_toList,List.take_length]⟩⟩
theorem qw:∃e,Tryz.prog.underlying 205=some (.slice e):=dI (by kernel_rfl)
theorem lZ:∀{zs:List (Value×List ic)},(∀p∈zs,dZ S w d p.1 p.2)→oneCells (zs.map (·.1))=true
 | [],_=>rfl
 | p::zs,h=>by
  obtain⟨t,u,e⟩:=(h p (by simp)).one;have:=lZ (zs:=zs) fun q hq=>h q (by simp[hq]);simp[oneCells,e,Value.oneCell',this]
theorem jT:∀{zs:List (Value×List ic)},(∀p∈zs,dZ S w d p.1 p.2)→zs.length≤(zs.flatMap (·.2)).length
 | [],_=>by simp
 | p::zs,h=>by
  have h1:=(h p (by simp)).pos;have:=jT (zs:=zs) fun q hq=>h q (by simp[hq]);rw[List.flatMap_cons,List.length_append,List.length_cons]; omega
theorem qx {i:Nat} (h:i<4611686018427387904):IntKind.i64.wrap ((i:Int)+1)=((i+1:Nat):Int):=by rw[dV (by omega) (by omega)]; simp
def oV (S:Nat→Addr) (w0 w:World) (d:Nat) (zs:List (Value×List ic)) (x y:Value) (wr:World):Prop:=∃(i:Nat) (zs':List (Value×List ic)),i≤zs.length∧y=.int .i64 i∧bV wr x 1 (zs'.map (·.1))∧(∀p∈zs',dZ S w0 d p.1 p.2)∧zs'.flatMap (·.2)=(zs.take i).flatMap (·.2)∧Same w wr∧∀b,bf x b→w.heap.size≤b
theorem vm {S:Nat→Addr} {w0:World} (d:Nat):∀(w:World) (zs:List (Value×List ic)) (a:Option Addr) (n c:Nat),Same w0 w→aZ w a n 1 (zs.map (·.1))→(∀p∈zs,xY S w0 d p.1 p.2) →
  (zs.flatMap (·.2)).length≤1099511627776→zs.length≤1099511627776 →
  af Tryz.prog 159 #[.slice a n c] w fun v w'=>∃zs':List (Value×List ic),bV w' v 1 (zs'.map (·.1))∧(∀p∈zs',dZ S w0 d p.1 p.2)∧zs'.flatMap (·.2)=zs.flatMap (·.2)∧Same w w'∧∀b,bf v b→w.heap.size≤b:=by
 induction d using Nat.strongRecOn with
 | ind d ih =>
 intro w zs a n c h0 hs hz hlen hlen2;have hn:n=zs.length:=by have:=hs.1; simpa using this.symm
 subst hn;refine C0 ?_;unfold MR;simp -dsimp;refine tK (oV S w0 w d zs)
  (fun _ y _=>zs.length-(RowKit.intOf y).toNat) ⟨⟨0,[],by omega,rfl,bV.nil _ _,by simp,by simp,aH.refl _ _,fun b hb=>by obtain⟨_,_,_,h⟩:=hb; cases h⟩,?_⟩
 rintro x y wr ⟨i,zs',hi,rfl,hown,hzs',hfl,hm,hf⟩;unfold xM;simp -dsimp;refine am (fun hlt=>?_) (fun hge=>?_)
 ·have hlt:i<zs.length:=by omega
  obtain⟨b,o,c',t',f',rfl,hb,hcell⟩:=(hs.same hm).at1 hlt (by simpa using hlt);have hp:=hz zs[i] (List.getElem_mem hlt);simp only[List.getElem_map]at hcell;have htk:(zs.take (i+1)).flatMap (·.2)=(zs.take i).flatMap (·.2)++zs[i].2:=by rw[List.take_succ_eq_append_getElem hlt,List.flatMap_append]; simp
  have hfle:((zs.take (i+1)).flatMap (·.2)).length≤1099511627776:=by
   have:zs=zs.take (i+1)++zs.drop (i+1):=(List.take_append_drop _ _).symm;rw[this,List.flatMap_append,List.length_append]at hlen;omega
  rw[htk,List.length_append]at hfle;have hl1:=jT hzs';rw[hfl]at hl1;have hos:o+i<c'.size:=(Array.getElem?_eq_some_iff.1 hcell).1;have hadd:=qx (i:=i) (by omega);generalize zs[i]=p at *;obtain⟨pv,pl⟩:=p;simp only at hp hcell htk hfle;unfold xK;simp -dsimp [hlt,hb,hcell];rcases hp with⟨rfl,rfl⟩ | hp
  ·rw[gp bU];simp -dsimp;unfold jr;simp -dsimp [hadd];exact⟨⟨i+1,zs',by omega,rfl,hown,hzs',by rw[htk,hfl]; simp,hm,hf⟩,by simp[RowKit.intOf]; omega⟩
  ·have hap:∀(x2:Value) (w2:World) (zq:List (Value×List ic)),bV w2 x2 1 ((zs'++zq).map (·.1))→(∀p∈zq,dZ S w0 d p.1 p.2)→zq.flatMap (·.2)=pl→Same w w2→(∀b,bf x2 b→w.heap.size≤b) →
     oV S w0 w d zs x2 (.int .i64 ((i+1:Nat):Int)) w2:=by
    intro x2 w2 zq h1 h2 h3 h4 h5;refine⟨i+1,zs'++zq,by omega,rfl,h1,fun p hp=>?_,?_,h4,h5⟩
    ·rcases List.mem_append.1 hp with hp | hp
     ·exact hzs' p hp
     ·exact h2 p hp
    ·rw[List.flatMap_append,hfl,htk,h3]
   have plain:∀t u,pv=.iface t u→t≠292→ksem Tryz.prog (Builtin.append_ #[205,205] 0 #[x,.slice (some ⟨wr.heap.size,0,none⟩) 1 1]) (wr.alloc (.cells #[pv] 37)) fun v20 w21 =>
     jr v20 (.slice (some ⟨b,o,none⟩) zs.length c) (.int .i64 zs.length) (.int .i64 i) (fun y2 y10 w2=>oV S w0 w d zs y2 y10 w2∧zs.length-(RowKit.intOf y10).toNat<zs.length-(RowKit.intOf (.int .i64 i)).toNat) (fun v w'=>∃zs':List (Value×List ic),bV w' v 1 (zs'.map (·.1))∧(∀p∈zs',dZ S w0 d p.1 p.2)∧zs'.flatMap (·.2)=zs.flatMap (·.2)∧Same w w'∧∀b,bf v b→w.heap.size≤b) w21:=by
    intro t u e _;refine be xQ (by omega) (hown.same (d6 _ _)) (Src.ofSlIs (hk:=qw.choose_spec) 1 (vs:=[pv]) (aZ.new (arr:=#[pv]) (by simp)) (by simp[oneCells,e,Value.oneCell'])) (by simp; omega) (by simp; omega) ?_;intro v' w' ho hm' hf';unfold jr;simp -dsimp [hadd];have hsz:wr.heap.size≤(wr.alloc (.cells #[pv] 37)).heap.size:=(d6 _ _).size;refine⟨hap v' w' [(pv,pl)] (by simpa using ho) (by simpa using hp) (by simp) (aH.after (hm.trans (d6 _ _)) hm' hf) (fun b hb=>?_),by simp[RowKit.intOf]; omega⟩;rcases hf' b hb with h | h
    ·exact hf b h
    ·exact Nat.le_trans hm.size (Nat.le_trans hsz h)
   rcases hp.cases with⟨k,k1,k2,rfl,rfl⟩ | ⟨d',hd',b',wh,u,ls',t'',f'',rfl,hb',hu,rfl⟩ | ⟨d',hd',b',a',n',c'',zs2,t'',f'',rfl,hb',hs',hne,hz',rfl⟩
   ·rw[errV,dT bU];simp -dsimp;rw[nT (by decide)];simp -dsimp;exact plain _ _ rfl (by decide)
   ·rw[dT bU];simp -dsimp;rw[nT (by decide)];simp -dsimp;exact plain _ _ rfl (by decide)
   ·rw[dT bU];simp -dsimp;have hl2:=jT hz';have hm0:Same w0 wr:=h0.trans hm;refine ab (oU (hm0.get hb' (fun h=>h)) (hs'.same hm0) (lZ hz') (by simp; omega)) ?_;rintro v12 w13 ⟨ho,hm1,hf1⟩;obtain⟨a3,n3,c3,rfl,hs3,hn3⟩:=ho.is;refine ab (ih d' hd' w13 zs2 a3 n3 c3 (hm0.trans hm1) hs3 (fun p hp=>.inr (hz' p hp)) (by omega) (by omega)) ?_;rintro v14 w15 ⟨zq,ho2,hzq,hfl2,hm2,hf2⟩;obtain⟨a4,n4,c4,rfl,hs4,hn4⟩:=ho2.is;have hl4:=jT hzq;rw[hfl2]at hl4;refine be xQ (by omega) (hown.same (hm1.trans hm2)) (Src.ofSlIs (hk:=qw.choose_spec) c4 hs4 (lZ hzq)) (by simp; omega) (by simp; omega) ?_;intro v' w' ho hm' hf';unfold jr;simp -dsimp [hadd];refine⟨hap v' w' zq (by simpa using ho) (fun p hp=>(hzq p hp).up (by omega)) hfl2 (aH.after (hm.trans (hm1.trans hm2)) hm' hf) (fun b hb=>?_),by simp[RowKit.intOf]; omega⟩;rcases hf' b hb with h | h
    ·exact hf b h
    ·exact Nat.le_trans (hm.trans (hm1.trans hm2)).size h
 ·have:i=zs.length:=by omega
  subst this;unfold xL;exact⟨zs',hown,hzs',by rw[hfl,List.take_length],hm,hf⟩
theorem xZ {zs:List (Value×List ic)} (hs:aZ w a n 1 (zs.map (·.1))) (hz:∀p∈zs,xY S w d p.1 p.2) (hlen:(zs.flatMap (·.2)).length≤1099511627776) (hlen2:zs.length≤1099511627776) :
  af Tryz.prog 108 #[.slice a n c] w fun v w'=>xY S w' (d+1) v (zs.flatMap (·.2))∧Same w w':=by
 refine CZ ?_;unfold MQ;refine ab (vm (w0:=w) d w zs a n c (aH.refl _ _) hs hz hlen hlen2) ?_;rintro v w' ⟨zs',ho,hz',hfl,hm,hf⟩;obtain⟨a1,n1,c1,rfl,hs1,hn1⟩:=ho.is;have hn1:n1=zs'.length:=by rw[hn1 rfl,List.length_map]
 subst hn1;simp -dsimp;refine am (fun h=>?_) (fun h=>?_)
 ·have:zs'=[]:=by simpa using h
  subst this;exact⟨.inl ⟨rfl,by rw[←hfl]; rfl⟩,hm⟩
 ·simp -dsimp;refine am (fun h1=>?_) (fun h1=>?_)
  ·obtain⟨p,rfl⟩:∃p,zs'=[p]:=List.length_eq_one_iff.1 (by omega);obtain⟨b,o,c',t',f',rfl,hb,hcell⟩:=hs1.at1 (i:=0) (by simp) (by simp);simp at hcell;simp -dsimp [hb,hcell];have:=hz' p (by simp);rw[←hfl];have e:[p].flatMap (·.2)=p.2:=by simp
   rw[e];exact⟨.inr ((this.same hm).up (by omega)),hm⟩
  ·unfold xJ;simp -dsimp;have hs':∀o,Same w' (w'.alloc o):=fun o=>d6 _ _;refine⟨.inr (.inr (.inr ⟨_,a1,_,c1,zs',_,_,rfl,cq _ _,hs1.same (hs' _),fun e=>h (by simp[e]),fun p hp=>(hz' p hp).same (hm.trans (hs' _)),hfl.symm⟩)),hm.trans (hs' _)⟩
end
section
attribute [local irreducible] kO kB bG bH kN kG aA ai aw aB bj knew bB aP ay aE bk aD aU bC bD a8 kbool kint kstr keq kun ksl bz cQ kta kmk kmm ksem ksemU bd aI aL ae kL
def lj (S:Nat→Addr) (k lo:Nat):Nat→Value→World→Prop
 | 0,x,_=>x=errV S k
 | n+1,x,w=>∃bE wh y,x=.iface 244 (.pointer (some ⟨bE,0,none⟩))∧lo≤bE∧aX w bE=some (.cells #[.string wh,y] 246)∧lj S k lo n y w
def cC (S:Nat→Addr) (k lo:Nat) (x:Value) (w:World):Prop:=∃n,lj S k lo n x w
theorem lj.mod {fp:Nat→Prop}:∀{n:Nat} {x:Value} {w w':World},lj S k lo n x w→aH fp w w'→(∀b,lo≤b→b<w.heap.size→¬fp b)→lj S k lo n x w'
 | 0,_,_,_,h,_,_=>h
 | _+1,_,_,_,⟨bE,wh,y,rfl,hl,hb,h⟩,hm,hf=>⟨bE,wh,y,rfl,hl,hm.get hb (hf bE hl (aC hb)),lj.mod h hm hf⟩
theorem lj.mono (hlo:lo'≤lo):∀{n:Nat} {x:Value} {w:World},lj S k lo n x w→lj S k lo' n x w
 | 0,_,_,h=>h
 | _+1,_,_,⟨bE,wh,y,rfl,hl,hb,h⟩=>⟨bE,wh,y,rfl,by omega,hb,lj.mono hlo h⟩
theorem cC.mod {fp:Nat→Prop} (h:cC S k lo x w) (hm:aH fp w w') (hf:∀b,lo≤b→b<w.heap.size→¬fp b):cC S k lo x w':=by
 obtain⟨n,h⟩:=h;exact⟨n,h.mod hm hf⟩
theorem cC.same (h:cC S k lo x w) (hm:Same w w'):cC S k lo x w':=h.mod hm fun _ _ _ h=>h
theorem cC.mono (h:cC S k lo x w) (hlo:lo'≤lo):cC S k lo' x w:=by
 obtain⟨n,h⟩:=h;exact⟨n,h.mono hlo⟩
theorem cC.sent (S:Nat→Addr) (k lo:Nat) (w:World):cC S k lo (errV S k) w:=⟨0,rfl⟩
theorem cC.if (h:cC S k lo x w):∃t y,x=.iface t y:=by
 obtain⟨n,h⟩:=h;cases n with
 | zero=>exact⟨_,_,h⟩
 | succ n=>obtain⟨bE,wh,y,rfl,_⟩:=h; exact⟨_,_,rfl⟩
theorem dD {p:Nat→Prop} {w w':World} (h:cO p S w) {k g:Nat} (h1:p k) (hg:gErr k=g) (hw:w'.heap=w.heap) {K:Value→Prop} (hK:K (errV S k)):aw (.pointer (some ⟨g,0,none⟩)) w' K:=by
 obtain⟨c,t,f,hb,hc⟩:=h.glob k h1;rw[hg]at hb;exact ao (w:=w') (by unfold aX at *; rw[hw]; exact hb) hc hK
theorem gF (wh:ByteArray) {S:Nat→Addr} {k lo:Nat} {x:Value} {w:World} (h:cC S k lo x w) (hlo:lo≤w.heap.size):af Tryz.prog 80 #[.string wh,x] w fun v w'=>cC S k lo v w'∧Same w w':=by
 obtain⟨t,y,rfl⟩:=h.if;obtain⟨n,h⟩:=h;refine II ?_;unfold Rx;rw[dT bU];refine ac ?_;refine az rfl ?_;refine aW (cs:=[.string wh,.iface t y]) rfl ?_;refine ar fun w2 h2 hs2 hb2=>?_;exact⟨⟨n+1,_,wh,_,rfl,hlo,hb2,h.mod h2 fun _ _ _ h=>h⟩,h2⟩
theorem M1:CY Tryz.prog 244 200=some false:=by kernel_rfl
theorem M2:CY Tryz.prog 244 203=some true:=by kernel_rfl
theorem C9 (v:Value) (w:World) (K:Value→World→Prop):aL Tryz.prog (.iface 244 v) "Unwrap" [] w K=ae Tryz.prog 280 #[v] w K:=by kernel_rfl
theorem qy {t:TypeId} (hb:aX w b=some (.cells #[.string wh,y] t)):af Tryz.prog 280 #[.pointer (some ⟨b,0,none⟩)] w fun v w'=>v=y∧w'=w:=by
 refine C1 ?_;unfold MT;rw[aJ MX];refine ac ?_;refine az rfl ?_;refine aq ?_;refine aa ?_;refine aj hb rfl ?_;exact⟨rfl,rfl⟩
theorem ya {p:Nat→Prop} (hL:cO p S w) {k lo j:Nat} (hk:p k) (hj:p j) {n:Nat} {x:Value} (h:lj S k lo n x w):af Tryz.prog 59 #[x,errV S j,.bool true] w fun v w'=>v=.bool (decide (k=j))∧w'=w:=by
 refine IG ?_;unfold Ru;refine cA n (fun i x wr=>wr=w∧lj S k lo (n-i) x w) ⟨c8 ⟨rfl,h⟩,fun x wr hx=>?_⟩;obtain⟨i,hi,⟨rfl,hC⟩,hJ⟩:=bK hx;unfold FD;refine ac ?_;refine aN rfl ?_;rcases Nat.lt_or_ge i n with hlt | hge
 ·rw[show n-i=(n-(i+1))+1 by omega]at hC;obtain⟨bE,wh,y,rfl,_,hb,hC⟩:=hC;rw[errV,qm bU (by decide)];refine ac ?_;refine az rfl ?_;unfold xH;rw[ia M1 Rz];refine ak rfl ?_;refine ak rfl ?_;refine ac ?_;refine az rfl ?_;refine ac ?_;refine az rfl ?_;unfold xG;rw[qk M2];refine ak rfl ?_;refine ak rfl ?_;refine ac ?_;refine aN rfl ?_;rw[C9];refine ab (qy hb) ?_;rintro v w' ⟨rfl,rfl⟩;have hy:∃t z,v=.iface t z:=cC.if (S:=S) (k:=k) (lo:=lo) (w:=w') ⟨_,hC⟩;obtain⟨t,z,rfl⟩:=hy;rw[dT bU];refine ac ?_;refine az rfl ?_;exact hJ _ _ hlt ⟨rfl,hC⟩
 ·rw[show n-i=0 by omega]at hC;obtain rfl:x=errV S k:=hC;by_cases hkj:k=j
  ·subst hkj;rw[errV,ql bU xP];refine ac ?_;refine aN rfl ?_;simp
  ·obtain⟨ck,tk,hbk⟩:=hL.live k hk;obtain⟨cj,tj,hbj⟩:=hL.live j hj;rw[errV,errV,oS bU xP (hL.ne k j hk hj hkj) hbk hbj];refine ac ?_;refine az rfl ?_;unfold xH;rw[ia Qo Rz];refine ak rfl ?_;refine ak rfl ?_;refine ac ?_;refine az rfl ?_;refine ac ?_;refine az rfl ?_;unfold xG;rw[ia Qp SE];refine ak rfl ?_;refine ak rfl ?_;refine ac ?_;refine az rfl ?_;rw[ia Qq SF];refine ak rfl ?_;refine ak rfl ?_;refine ac ?_;refine az rfl ?_;simp[hkj]
theorem l5 {p:Nat→Prop} (hL:cO p S w) {k lo j:Nat} (hk:p k) (hj:p j) {x:Value} (h:cC S k lo x w):af Tryz.prog 28 #[x,errV S j] w fun v w'=>v=.bool (decide (k=j))∧w'=w:=by
 obtain⟨t,y,rfl⟩:=h.if;obtain⟨n,h⟩:=h;refine IE ?_;unfold f28;rw[dT bU];refine ac ?_;refine aN rfl ?_;rw[errV,dT bU];unfold xF;refine ac ?_;refine az rfl ?_;rw[IL];refine ab (ya hL hk hj h) ?_;rintro v w' h;exact h
end
section
def yb x0 (Q:PQ) w:=kun .neg (some (.int .u32)) x0 fun v2=>kint .u32 .and x0 v2 fun v3=>kint .u32 .mul v3 (.int .u32 125613361) fun v4=>kint .u32 .shr v4 (.int .u64 27) fun v5=>bz (some (.array 32 5)) (some 1) (.pointer (some ⟨19,0,none⟩)) v5 fun v6=>aw v6 w fun v7=>bk .i64 v7 fun v8=>Q v8 w
def M3 x0 (Q:PQ) w:=kint .u32 .eql x0 (.int .u32 0) fun v1=>kB v1 fun b9=>aA b9 (Q (.int .i64 32) w) (yb x0 Q w)
theorem Da (h:M3 x0 Q w):af Tryz.prog 187 #[x0] w Q :=
 ax (c:=Tryz.f187.body.get rfl) [] Tryz.func187 rfl rfl (args:=[x0]) rfl (by kernel_rfl) h
def yc x0 x2 (J1:Value→Value→World→Prop) (Q:PQ) w:=ae Tryz.prog 187 #[x0] w fun v2 w3=>ay [.int .i64 0] 1 [(0,1,v2)] 3 w3 fun v4 w5=>ksem Tryz.prog (Builtin.append_ #[49,49] 0 #[x2,v4]) w5 fun v6 w7=>ae Tryz.prog 188 #[x0,v2] w7 fun v8 w9=>J1 v8 v6 w9
def yd x2 (Q:PQ) w:=Q x2 w
def ye x0 x2 (J1:Value→Value→World→Prop) (Q:PQ) w:=kint .u32 .neq x0 (.int .u32 0) fun v1=>kB v1 fun b10=>aA b10 (yc x0 x2 J1 Q w) (yd x2 Q w)
def M4 x0 (Q:PQ) w:=kL fun(I:Value→Value→World→Prop) (μ:Value→Value→World→Nat)=>I x0 (.slice none 0 0) w∧∀(x0 x2:Value) (w1:World),I x0 x2 w1→ye x0 x2 (fun y0 y2 w2=>I y0 y2 w2∧μ y0 y2 w2<μ x0 x2 w1) Q w1
theorem Db (h:M4 x0 Q w):af Tryz.prog 150 #[x0] w Q :=
 ax (c:=Tryz.f150.body.get rfl) [(1,[0,2])] Tryz.func150 rfl rfl (args:=[x0]) rfl (by kernel_rfl) h
def M5 x0 x1 (Q:PQ) w:=ae Tryz.prog 79 #[x1] w fun v1 w2=>kint .u32 .andNot x0 v1 fun v3=>Q v3 w2
theorem Dc (h:M5 x0 x1 Q w):af Tryz.prog 188 #[x0,x1] w Q :=
 ax (c:=Tryz.f188.body.get rfl) [] Tryz.func188 rfl rfl (args:=[x0,x1]) rfl (by kernel_rfl) h
def f79_1 x0 (Q:PQ) w:=kint .u32 .shl (.int .u32 1) x0 fun v4=>Q v4 w
def f79_0 x0 x8 (Q:PQ) w:=kB x8 fun b5=>aA b5 (Q (.int .u32 0) w) (f79_1 x0 Q w)
def RA x0 (Q:PQ) w:=kint .i64 .lss x0 (.int .i64 0) fun v1=>kB v1 fun b2=>aA (!b2) (kint .i64 .geq x0 (.int .i64 32) fun v3=>f79_0 x0 v3 Q w) (f79_0 x0 (.bool true) Q w)
theorem IR (h:RA x0 Q w):af Tryz.prog 79 #[x0] w Q :=
 ax (c:=Tryz.f79.body.get rfl) [] Tryz.func79 rfl rfl (args:=[x0]) rfl (by kernel_rfl) h
def M6 x0 x1 (Q:PQ) w:=ae Tryz.prog 79 #[x1] w fun v1 w2=>kint .u32 .or x0 v1 fun v3=>Q v3 w2
theorem Dd (h:M6 x0 x1 Q w):af Tryz.prog 152 #[x0,x1] w Q :=
 ax (c:=Tryz.f152.body.get rfl) [] Tryz.func152 rfl rfl (args:=[x0,x1]) rfl (by kernel_rfl) h
def RB x0 x1 (Q:PQ) w:=ae Tryz.prog 79 #[x1] w fun v1 w2=>kint .u32 .and x0 v1 fun v3=>kint .u32 .neq v3 (.int .u32 0) fun v4=>Q v4 w2
theorem IS (h:RB x0 x1 Q w):af Tryz.prog 41 #[x0,x1] w Q :=
 ax (c:=Tryz.f41.body.get rfl) [] Tryz.func41 rfl rfl (args:=[x0,x1]) rfl (by kernel_rfl) h
end
section
def bitF (n:Int):Nat:=if n<0 then 0 else if 32≤n then 0 else 2^n.toNat
theorem bitF_lt (n:Int):bitF n<4294967296:=by
 unfold bitF; split
 ·omega
 ·split
  ·omega
  ·have:n.toNat≤31:=by omega
   have:=Nat.pow_le_pow_right (n:=2) (by omega) this;omega
theorem km {a:Nat} (h:a<4294967296):(BitVec.ofInt 32 (a:Int)).toNat=a:=by
 simp[BitVec.ofInt_natCast]; omega
theorem u32_or {a b:Nat} (ha:a<4294967296) (hb:b<4294967296):ior .u32 (a:Int) (b:Int)=((a |||b:Nat):Int):=by
 have h:a |||b<2^32:=Nat.or_lt_two_pow (by omega) (by omega);show IntKind.u32.wrap ((BitVec.ofInt 32 (a:Int) |||BitVec.ofInt 32 (b:Int)).toNat)=_;rw[BitVec.toNat_or,km ha,km hb,jL (by omega) (by omega)]
theorem tO {a b:Nat} (ha:a<4294967296) (hb:b<4294967296):iand .u32 (a:Int) (b:Int)=((a&&&b:Nat):Int):=by
 have h:a&&&b<2^32:=Nat.and_lt_two_pow a (by omega);show IntKind.u32.wrap ((BitVec.ofInt 32 (a:Int)&&&BitVec.ofInt 32 (b:Int)).toNat)=_;rw[BitVec.toNat_and,km ha,km hb,jL (by omega) (by omega)]
def andN (a b:Nat):Nat:=a&&&(4294967295-b)
theorem tP (ha:a<4294967296):andN a b<4294967296:=by
 unfold andN; have:=Nat.and_le_left (n:=a) (m:=4294967295-b); omega
theorem yf {a b:Nat} (ha:a<4294967296) (hb:b<4294967296):iandn .u32 (a:Int) (b:Int)=((andN a b:Nat):Int):=by
 have h:=tP (b:=b) ha;show IntKind.u32.wrap ((BitVec.ofInt 32 (a:Int)&&&~~~(BitVec.ofInt 32 (b:Int))).toNat)=_;rw[BitVec.toNat_and,BitVec.toNat_not,km ha,km hb];have e:2^32-1-b=4294967295-b:=by omega
 rw[e]; unfold andN at *;rw[jL (by omega) (by omega)]
def msk (m:Nat):Value:=.int .u32 (m:Int)
theorem l7 (n:Int) (h1: -9223372036854775808≤n) (h2:n≤9223372036854775807) (w:World):af Tryz.prog 79 #[.int .i64 n] w fun v w'=>v=msk (bitF n)∧w'=w:=by
 refine IR ?_;unfold RA;simp -dsimp;by_cases hn:n<0
 ·simp -dsimp [hn,f79_0,bitF,msk]
 ·simp -dsimp [hn,f79_0];by_cases hm:32≤n
  ·simp -dsimp [hm,bitF,hn,msk]
  ·have e:min n.toNat 32=n.toNat:=by omega
   have hb:=bitF_lt n;have eb:bitF n=2^n.toNat:=by unfold bitF; simp[hn,hm]
   have ew:ishl .u32 1 n=((bitF n:Nat):Int):=by
    show IntKind.u32.wrap (1*2^(min n.toNat 32))=_;rw[e];have:(1*2^n.toNat:Int)=((bitF n:Nat):Int):=by rw[eb]; simp
    rw[this,jL (by omega) (by omega)]
   simp -dsimp [hm,f79_1,show 0≤n by omega,ew,msk]
theorem nY (m:Nat) (n:Int) (hm:m<4294967296) (h1: -9223372036854775808≤n) (h2:n≤9223372036854775807) (w:World):af Tryz.prog 152 #[msk m,.int .i64 n] w fun v w'=>v=msk (m |||bitF n)∧w'=w:=by
 refine Dd ?_;unfold M6;refine ab (l7 n h1 h2 w) ?_;rintro v w' ⟨rfl,rfl⟩;simp -dsimp [msk,u32_or hm (bitF_lt n)]
structure Part where
 comp:Int
 v0:Int
 v1:Int
 v2:Int
 v3:Int
 tick:Int
def Part.cells (p:Part):List Value:=[.int .i64 p.comp,.int .i64 p.v0,.int .i64 p.v1,.int .i64 p.v2,.int .i64 p.v3,.int .i64 p.tick]
def bZ (n:Int):Prop:= -9223372036854775808≤n∧n≤9223372036854775807
def Part.ok (p:Part):Prop:=bZ p.comp∧bZ p.v0∧bZ p.v1∧bZ p.v2∧bZ p.v3∧bZ p.tick
structure Comp where
 name:ByteArray
 width:Int
 rb:Bool
 d0:Int
 d1:Int
 d2:Int
 d3:Int
def Comp.cells (c:Comp):List Value:=[.string c.name,.int .i64 c.width,.bool c.rb,.int .i64 c.d0,.int .i64 c.d1,.int .i64 c.d2,.int .i64 c.d3]
theorem iZ {k:IntKind} (m i:Nat) (hi:i≤k.bits):ishr k (m:Int) (i:Int)=((m/2^i:Nat):Int):=by
 show(m:Int).fdiv (2^(min i k.bits))=_;rw[Nat.min_eq_left hi,Int.fdiv_eq_ediv_of_nonneg _ (by exact Int.pow_nonneg (by omega))];simp
def qz:List Nat:=[0,1,28,2,29,14,24,3,30,22,20,15,25,17,4,8,31,27,13,23,21,19,16,7,26,12,18,6,11,5,10,9]
def fM (w:World):Prop:=∃t f,aX w 19=some (.cells (qz.map fun n:Nat=>Value.int .u8 (n:Int)).toArray t f)
theorem fM.same (h:fM w) (hm:Same w w'):fM w':=by
 obtain⟨t,f,hb⟩:=h;exact⟨t,f,hm.get hb (fun h=>h)⟩
theorem fM.mod {fp:Nat→Prop} (h:fM w) (hm:aH fp w w') (hf:¬fp 19):fM w':=by
 obtain⟨t,f,hb⟩:=h;exact⟨t,f,hm.get hb hf⟩
theorem fM.lt (h:fM w):19<w.heap.size:=by
 obtain⟨t,f,hb⟩:=h;exact aC hb
theorem IT:∀m:Nat,m≠0→∃n q,m=2^n*(2*q+1):=by
 intro m;induction m using Nat.strongRecOn with
 | _ m ih =>
  intro h;by_cases ho:m%2=1
  ·exact⟨0,m/2,by omega⟩
  ·obtain⟨n,q,e⟩:=ih (m/2) (by omega) (by omega);refine⟨n+1,q,?_⟩;have:m=2*(m/2):=by omega
   rw[this,e,Nat.pow_succ,←Nat.mul_assoc,Nat.mul_comm 2 (2^n)]
theorem yg:(2^n*(2*q+1)).testBit n=true∧∀j,j<n→(2^n*(2*q+1)).testBit j=false:=by
 constructor
 ·rw[Nat.testBit_two_pow_mul]; simp
 ·intro j hj;rw[Nat.testBit_two_pow_mul]; simp; omega
theorem De (h:2^n*(2*q+1)<4294967296):2^n*(2*q+1)&&&(4294967296-2^n*(2*q+1))=2^n:=by
 have hp:=Nat.two_pow_pos n;have hn:n<32:=by
  by_cases hn:n<32
  ·exact hn
  ·have:2^32≤2^n:=Nat.pow_le_pow_right (by omega) (by omega);have:2^n*1≤2^n*(2*q+1):=Nat.mul_le_mul_left _ (by omega);omega
 have e:2^n*(2*q+1)=(2^n*(2*q)+(2^n-1))+1:=by rw[Nat.mul_add]; omega
 apply Nat.eq_of_testBit_eq;intro i;rw[Nat.testBit_and];have e2:4294967296-2^n*(2*q+1)=2^32-((2^n*(2*q)+(2^n-1))+1):=by omega
 rw[e2,Nat.testBit_two_pow_sub_succ (by omega),Nat.testBit_two_pow_mul_add _ (by omega),Nat.testBit_two_pow_mul];by_cases h1:i<n
 ·rw[if_pos h1,Nat.testBit_two_pow_sub_one];simp[show ¬n≤i by omega,Nat.testBit_two_pow,show ¬n=i by omega]
 ·rw[if_neg h1];by_cases h2:i=n
  ·subst h2; simp[hn]
  ·obtain⟨d,hd⟩:∃d,i-n=d+1:=⟨i-n-1,by omega⟩
   rw[hd,Nat.testBit_succ,Nat.testBit_succ];have a1:(2*q+1)/2=q:=by omega
   have a2:2*q/2=q:=by omega
   rw[a1,a2,Nat.testBit_two_pow];cases q.testBit d<;>simp[show ¬n=i by omega]
theorem yh:∀n,n<32→qz[(2^n*125613361%4294967296)/134217728]?=some n:=by decide
theorem Df {w:World} (hd:fM w) (m:Nat) (h0:m≠0) (hm:m<4294967296) :
  af Tryz.prog 187 #[msk m] w fun v w'=>∃n:Nat,n<32∧m.testBit n=true∧(∀j,j<n→m.testBit j=false)∧v=.int .i64 n∧w'=w:=by
 obtain⟨n,q,e⟩:=IT m h0;have hand:m&&&(4294967296-m)=2^n:=by rw[e]; exact De (by rw[←e]; exact hm)
 have hb:=yg (n:=n) (q:=q);rw[←e]at hb;have hn:n<32:=by
  by_cases hn:n<32
  ·exact hn
  ·have:2^32≤2^n:=Nat.pow_le_pow_right (by omega) (by omega);have:2^n*1≤2^n*(2*q+1):=Nat.mul_le_mul_left _ (by omega);omega
 have hp:2^n≤2^31:=Nat.pow_le_pow_right (by omega) (by omega);refine Da ?_;unfold M3;rw[msk,gD,fq];refine am (fun h=>absurd h (by omega)) (fun _=>?_);unfold yb;have hneg:IntKind.u32.wrap (0-(m:Int))=((4294967296-m:Nat):Int):=by
  unfold IntKind.wrap; simp[IntKind.signed,IntKind.bits]; omega
 have hmul:IntKind.u32.wrap (((2^n:Nat):Int)*125613361)=((2^n*125613361%4294967296:Nat):Int):=by
  unfold IntKind.wrap; simp[IntKind.signed,IntKind.bits]
 rw[jJ,hneg,jH,tO hm (by omega),hand,dL,hmul,dz];refine ah (by omega) ?_;rw[show(27:Int)=((27:Nat):Int)from rfl,iZ _ 27 (by decide),show(2:Nat)^27=134217728 from rfl,dy];have hlt:(2^n*125613361%4294967296)/134217728<32:=by omega
 refine ah (by omega) ?_;obtain⟨t,f,hbk⟩:=hd;have ht:=yh n hn;rw[add_mk];refine ao (v:=.int .u8 (n:Int)) hbk ?_ ?_
 ·rw[Nat.mul_one,Nat.zero_add];simp only[List.getElem?_toArray,List.getElem?_map];rw[show(((2^n*125613361%4294967296/134217728:Nat):Int)).toNat=2^n*125613361%4294967296/134217728 from Int.toNat_natCast _,ht];rfl
 rw[cD,dV (by omega) (by omega)];exact⟨n,hn,hb.1,hb.2,rfl,rfl⟩
def listF (m:Nat):List Nat:=(List.range 32).filter fun i=>m.testBit i
theorem sb:listF 0=[]:=by
 unfold listF;rw[List.filter_eq_nil_iff];intro a _;simp
theorem se (hm:m<4294967296) (hn:n<32) (hb:m.testBit n=true) (hl:∀j,j<n→m.testBit j=false):listF m=n::listF (andN m (2^n)):=by
 have hp:2^n≤2^31:=Nat.pow_le_pow_right (by omega) (by omega);have hbit:∀i,(andN m (2^n)).testBit i=(m.testBit i&&(decide (i<32)&&!decide (n=i))):=by
  intro i;have e:4294967295-2^n=2^32-(2^n+1):=by omega
  rw[andN,Nat.testBit_and,e,Nat.testBit_two_pow_sub_succ (by omega),Nat.testBit_two_pow]
 have hsplit:List.range 32=List.range n++(n::List.range' (n+1) (31-n)):=by
  rw[List.range_eq_range',List.range_eq_range'];have:=List.range'_append (s:=0) (m:=n) (n:=32-n) (step:=1);rw[show n+(32-n)=32 by omega]at this;rw[←this,show 0+1*n=n by omega,show 32-n=(31-n)+1 by omega,List.range'_succ]
 unfold listF;rw[hsplit,List.filter_append,List.filter_append,List.filter_cons,List.filter_cons,if_pos hb];have e1:(List.range n).filter (fun i=>m.testBit i)=[]:=by
  rw[List.filter_eq_nil_iff]; intro a ha; simp only[List.mem_range]at ha; simp[hl a ha]
 have e2:(List.range n).filter (fun i=>(andN m (2^n)).testBit i)=[]:=by
  rw[List.filter_eq_nil_iff]; intro a ha; simp only[List.mem_range]at ha; simp[hbit,hl a ha]
 have e3:(andN m (2^n)).testBit n=false:=by rw[hbit]; simp
 rw[e1,e2,if_neg (by simp[e3]),List.nil_append,List.nil_append];congr 1;apply List.filter_congr;intro x hx;simp only[List.mem_range'_1]at hx;rw[hbit];simp[show x<32 by omega,show ¬n=x by omega]
theorem oW (m n:Nat) (hm:m<4294967296) (hn:n<32) (w:World):af Tryz.prog 188 #[msk m,.int .i64 n] w fun v w'=>v=msk (andN m (2^n))∧w'=w:=by
 have hp:2^n≤2^31:=Nat.pow_le_pow_right (by omega) (by omega);have e:bitF (n:Int)=2^n:=by unfold bitF; rw[if_neg (by omega),if_neg (by omega)]; rfl
 refine Dc ?_;unfold M5;refine ab (l7 n (by omega) (by omega) w) ?_;rintro v w' ⟨rfl,rfl⟩;rw[e,msk,msk,qd,yf hm (by omega)];exact⟨rfl,rfl⟩
theorem tQ:appT Tryz.prog 49 1 8=true:=by kernel_rfl
theorem jU:∃e,Tryz.prog.underlying 49=some (.slice e):=dI (by kernel_rfl)
def natV (n:Nat):Value:=.int .i64 (n:Int)
theorem qA {α:Type} (f:α→Value) (hf:∀x,(f x).oneCell'=true):∀l:List α,oneCells (l.map f)=true
 | []=>rfl
 | x::l=>by
  rw[List.map_cons];unfold oneCells;rw[hf,qA f hf l]; rfl
def Dg (m:Nat) (w:World) (x0 x2:Value) (wr:World):Prop:=∃(k:Nat) (l:List Nat),k<4294967296∧x0=msk k∧bV wr x2 1 (l.map natV)∧listF m=l++listF k∧Same w wr∧(∀b,bf x2 b→w.heap.size≤b)
theorem gG (m:Nat):(listF m).length≤32:=by
 have:=List.length_filter_le (fun i=>m.testBit i) (List.range 32);simpa [listF] using this
theorem vo (hd:fM w) (m:Nat) (hm:m<4294967296):af Tryz.prog 150 #[msk m] w fun v w'=>∃a c,v=.slice a (listF m).length c∧aZ w' a (listF m).length 1 ((listF m).map natV)∧Same w w'∧∀k o,a=some ⟨k,o,none⟩→w.heap.size≤k:=by
 have hlen:=gG m;refine Db ?_;unfold M4;refine tK (Dg m w) (fun x0 _ _=>(RowKit.intOf x0).toNat) ⟨⟨m,[],hm,rfl,bV.nil _ _,rfl,aH.refl _ _,fun b hb=>by obtain⟨_,_,_,h⟩:=hb; cases h⟩,?_⟩;rintro x0 x2 wr ⟨k,l,hk,rfl,ho,hl,hs,hf⟩;have hll:l.length≤32:=by rw[hl,List.length_append]at hlen; omega
 unfold ye;rw[msk,lO,fq];refine am (fun hne=>?_) (fun heq=>?_)
 ·unfold yc;refine ab (Df (hd.same hs) k (by omega) hk) ?_;rintro v w3 ⟨n,hn,hb,hlow,rfl,rfl⟩;refine aR (cs:=[natV n]) rfl fun w5 h5 hs5 hb5=>?_;refine be tQ (by omega) (ho.same h5) (Src.ofSlIs (hk:=jU.choose_spec) 1 (aZ.blk hb5 rfl) rfl) (by simp; omega) (by simp; omega) ?_;intro v' w7 ho7 hm7 hf7;refine ab (oW k n hk hn w7) ?_;rintro v w9 ⟨rfl,rfl⟩;have hkn:=tP (a:=k) (b:=2^n) hk;refine⟨⟨andN k (2^n),l++[n],hkn,rfl,?_,?_,aH.after (hs.trans h5) hm7 hf,?_⟩,?_⟩
  ·rw[List.map_append]; exact ho7
  ·rw[hl,se hk hn hb hlow]; simp
  ·intro b hb;rcases hf7 b hb with h | h
   ·exact hf b h
   ·have:=hs.size; have:=h5.size; omega
  ·simp only[RowKit.intOf,msk,Int.toNat_natCast];have e:andN k (2^n)≤k:=Nat.and_le_left;have hne2:andN k (2^n)≠k:=by
    intro h;have h1:(andN k (2^n)).testBit n=true:=by rw[h]; exact hb
    have hp:2^n≤2^31:=Nat.pow_le_pow_right (by omega) (by omega);have e:4294967295-2^n=2^32-(2^n+1):=by omega
    rw[andN,Nat.testBit_and,e,Nat.testBit_two_pow_sub_succ (by omega),Nat.testBit_two_pow]at h1;simp at h1
   omega
 ·have:k=0:=by omega
  subst this;rw[sb,List.append_nil]at hl;unfold yd;obtain⟨a,n,c,rfl,hsl,hn1⟩:=ho.is;have:=hn1 rfl;rw[List.length_map]at this;subst this;rw[hl];exact⟨a,c,rfl,hsl,hs,fun k o e=>hf k (by subst e; exact⟨o,_,_,rfl⟩)⟩
end
section
def vp (n:Int):Prop:= -9223372036854775808≤n∧n≤9223372036854775807
theorem jV (n:Int):vp (IntKind.i64.wrap n):=by
 unfold IntKind.wrap vp; simp[IntKind.signed,IntKind.bits]; omega
theorem fP (n:Int):∃k:Int,IntKind.i64.wrap n=n+k*18446744073709551616:=by
 unfold IntKind.wrap; simp[IntKind.signed,IntKind.bits];by_cases h:9223372036854775808≤n%18446744073709551616
 ·rw[if_pos h]; exact⟨-(n/18446744073709551616)-1,by omega⟩
 ·rw[if_neg h]; exact⟨-(n/18446744073709551616),by omega⟩
theorem l8 (h:vp n):IntKind.i64.wrap n=n:=dV h.1 h.2
def oX (y x:Int):Int:=if x=0 then 0 else IntKind.i64.wrap (y.tdiv x)
def yi (y x:Int):Int:=if x=0 then 0 else IntKind.i64.wrap (y-IntKind.i64.wrap (x*oX y x))
def fe (b:Bool):Int:=if b=true then 1 else 0
end
section

end
section
def M7 (x1:Value) x2 (J5:Value→World→Prop) (Q:PQ) w:=kint .i64 .add x2 (.int .i64 1) fun v20=>J5 v20 w
def IU x1 x2 x33 (J5:Value→World→Prop) (Q:PQ) w:=kB x33 fun b21=>aA b21 (Q (.bool false) w) (M7 x1 x2 J5 Q w)
def M8 x1 x2 (J5:Value→World→Prop) (Q:PQ) w:=ae Tryz.prog 21 #[x1] w fun v12 w13=>aE v12 0 fun v14=>aE v12 1 fun v15=>kun .not (some .bool) v14 fun v16=>kB v16 fun b17=>aA (!b17) (keq Tryz.prog .neq 37 false true v15 .nilIface w13 fun v18 w19=>IU x1 x2 v18 J5 Q w19) (IU x1 x2 (.bool true) J5 Q w13)
def M9 x1 (Q:PQ) w:=aP [.pointer none,.pointer none,.int .i64 0,.int .i64 0,.int .i64 0] [] fun v22=>aP [.int .i64 0,.int .i64 0,.int .i64 0] [(0,1,(.int .i64 20))] fun v23=>ay [.int .i64 0,.int .i64 0,.int .i64 0] 1 [(0,3,v23)] 80 w fun v24 w25=>ae Tryz.prog 8 #[v22,v24,.int .i64 10] w25 fun v26 w27=>aE v26 0 fun v28=>aE v26 1 fun v29=>aP [.pointer none,.pointer none,.int .i64 0,.int .i64 0,.int .i64 0] [] fun v30=>aP [.int .i64 0,.int .i64 0,.int .i64 0] [(0,1,(.int .i64 1))] fun v31=>aP [.int .i64 0,.int .i64 0,.int .i64 0] [(0,1,(.int .i64 35))] fun v32=>aP [.int .i64 0,.int .i64 0,.int .i64 0] [(0,1,(.int .i64 6))] fun v33=>ay [.int .i64 0,.int .i64 0,.int .i64 0] 3 [(0,3,v31),(3,3,v32),(6,3,v33)] 80 w27 fun v34 w35=>ae Tryz.prog 8 #[v30,v34,.int .i64 10] w35 fun v36 w37=>aE v36 0 fun v38=>aE v36 1 fun v39=>aP [.pointer none,.pointer none,.int .i64 0,.int .i64 0,.int .i64 0] [] fun v40=>aP [.int .i64 0,.int .i64 0,.int .i64 0] [(0,1,(.int .i64 6))] fun v41=>ay [.int .i64 0,.int .i64 0,.int .i64 0] 1 [(0,3,v41)] 80 w37 fun v42 w43=>ae Tryz.prog 8 #[v40,v42,.int .i64 10] w43 fun v44 w45=>aE v44 0 fun v46=>aE v44 1 fun v47=>ae Tryz.prog 20 #[x1] w45 fun v48 w49=>ay [.int .i64 0] 1 [(0,1,(.int .i64 5))] 3 w49 fun v50 w51=>ae Tryz.prog 19 #[v48,v50] w51 fun v52 w53=>kB v52 fun b54=>aA b54 (ae Tryz.prog 18 #[x1] w53 fun v55 w56=>kint .i64 .eql v55 (.int .i64 7) fun v57=>kB v57 fun b58=>aA b58 (ae Tryz.prog 15 #[x1] w56 fun v59 w60=>kB v59 fun b61=>aA b61 (kint .i64 .eql v28 (.int .i64 0) fun v62=>kB v62 fun b63=>aA b63 (aw (.pointer (some ⟨0,0,none⟩)) w60 fun v64=>ae Tryz.prog 28 #[v29,v64] w60 fun v65 w66=>kB v65 fun b67=>aA b67 (kint .i64 .eql v38 (.int .i64 8) fun v68=>kB v68 fun b69=>aA b69 (keq Tryz.prog .eql 37 false true v39 .nilIface w66 fun v70 w71=>kB v70 fun b72=>aA b72 (aw (.pointer (some ⟨1,0,none⟩)) w71 fun v73=>ae Tryz.prog 28 #[v47,v73] w71 fun v74 w75=>Q v74 w75) (Q (.bool false) w71)) (Q (.bool false) w66)) (Q (.bool false) w66)) (Q (.bool false) w60)) (Q (.bool false) w60)) (Q (.bool false) w56)) (Q (.bool false) w53)
def Na x2 x1 (J5:Value→World→Prop) (Q:PQ) w:=kint .i64 .lss x2 (.int .i64 3) fun v11=>kB v11 fun b76=>aA b76 (M8 x1 x2 J5 Q w) (M9 x1 Q w)
def Nb x1 (Q:PQ) w:=kL fun(I:Value→World→Prop) (μ:Value→World→Nat)=>I (.int .i64 0) w∧∀(x2:Value) (w1:World),I x2 w1→Na x2 x1 (fun y2 w2=>I y2 w2∧μ y2 w2<μ x2 w1) Q w1
def f5 (Q:PQ) w:=aP [.pointer none,.pointer none,.int .i64 0,.int .i64 0,.int .i64 0] [] fun v1=>aP [.int .i64 0,.int .i64 0,.int .i64 0] [(0,1,(.int .i64 1)),(1,1,(.int .i64 7))] fun v2=>aP [.int .i64 0,.int .i64 0,.int .i64 0] [(0,1,(.int .i64 1)),(1,1,(.int .i64 2))] fun v3=>aP [.int .i64 0,.int .i64 0,.int .i64 0] [(0,1,(.int .i64 7))] fun v4=>ay [.int .i64 0,.int .i64 0,.int .i64 0] 3 [(0,3,v2),(3,3,v3),(6,3,v4)] 80 w fun v5 w6=>ae Tryz.prog 14 #[v1,v5,.int .i64 10] w6 fun v7 w8=>keq Tryz.prog .eql 54 false true v7 (.pointer none) w8 fun v9 w10=>kB v9 fun b77=>aA b77 (Q (.bool false) w10) (Nb v7 Q w10)
theorem Nc (h:f5 Q w):af Tryz.prog 5 #[] w Q :=
 ax (c:=Tryz.f5.body.get rfl) [(5,[2])] Tryz.func5 rfl rfl (args:=[]) rfl (by kernel_rfl) h
def f14 x0 x1 x2 (Q:PQ) w:=knew (Value.cells x0) 43 w fun v1 w2=>aB 5 v1 w2.drew fun v3=>kG (w2.drew=w2.drew)<|ae Tryz.prog 45 #[x1] w2.drew fun v4 w5=>kG (aB 5 v1 w5 fun v13=>v13=v3∧w5=w5)<|kmm .i64 true x2 (.int .i64 0) fun v6=>kmm .i64 false v6 (.int .i64 4096) fun v8=>aP [.pointer none,.pointer none,.int .i64 0,.int .i64 0,.int .i64 0,.slice none 0 0,.int .i64 0,.slice none 0 0,.int .i64 0,.bool false] [(0,5,v3),(5,1,v4),(8,1,v8)] fun v10=>knew (Value.cells v10) 114 w5 fun v11 w12=>Q v11 w12
theorem IV (h:f14 x0 x1 x2 Q w):af Tryz.prog 14 #[x0,x1,x2] w Q :=
 ax (c:=Tryz.f14.body.get rfl) [] Tryz.func14 rfl rfl (args:=[x0,x1,x2]) rfl (by kernel_rfl) h
def FK x0 x4 (Q:PQ) w:=kN x0<|ai 8 x0 fun v26=>aw v26 w fun v27=>kint .i64 .sub v27 (.int .i64 1) fun v28=>kN x0<|ai 8 x0 fun v29=>bj 1 v29 v28 w fun w30=>kN x0<|ai 6 x0 fun v31=>aw v31 w30 fun v32=>kint .i64 .add v32 (.int .i64 1) fun v33=>kN x0<|ai 6 x0 fun v34=>bj 1 v34 v33 w30 fun w35=>ai 0 x4 fun v36=>aw v36 w35 fun v37=>ae Tryz.prog 49 #[v37] w35 fun v38 w39=>aE v38 0 fun v40=>aE v38 1 fun v41=>aB 3 x4 w39.drew fun v42=>kG (w39.drew=w39.drew)<|ae Tryz.prog 51 #[x0,v40] w39.drew fun v43 w44=>kG (aB 3 x4 w44 fun v47=>v47=v42∧w44=w44)<|ae Tryz.prog 50 #[x0,v42,v43] w44 fun v45 w46=>Q (.tuple #[.bool true,.nilIface]) w46
def FL x0 (Q:PQ) (w:World):=kN x0<|ai 5 x0 fun v8=>aw v8 w.drew fun v9=>kG (w.drew=w.drew)<|kN x0<|ai 6 x0 fun v10=>aw v10 w.drew fun v11=>kG (w.drew=w.drew)<|bz (some (.slice 80)) (some 3) v9 v11 fun v12=>aB 3 v12 w.drew fun v13=>kG (w.drew=w.drew)<|knew #[.int .i64 0,.int .i64 0,.int .i64 0] 80 w.drew fun v14 w15=>kG (aB 3 v12 w15 fun v51=>v51=v13∧w15=w15)<|kG (aw v10 w15 fun v50=>v50=v11∧w15=w15)<|kG (aw v8 w15 fun v49=>v49=v9∧w15=w15)<|bj 3 v14 v13 w15 fun w16=>aB 3 v14 w16 fun v17=>ae Tryz.prog 48 #[x0,v17] w16 fun v18 w19=>keq Tryz.prog .neq 37 false true v18 .nilIface w19 fun v20 w21=>kB v20 fun b48=>aA b48 (kN x0<|ai 9 x0 fun v22=>bj 1 v22 (.bool true) w21 fun w23=>ae Tryz.prog 47 #[v18] w23 fun v24 w25=>Q (.tuple #[.bool false,v24]) w25) (FK x0 v14 Q w21)
def f21 x0 (Q:PQ) w:=keq Tryz.prog .eql 54 false true x0 (.pointer none) w fun v1 w2=>kB v1 fun b53=>aA b53 (aw (.pointer (some ⟨2,0,none⟩)) w2 fun v3=>ae Tryz.prog 47 #[v3] w2 fun v4 w5=>Q (.tuple #[.bool false,v4]) w5) (ae Tryz.prog 15 #[x0] w2 fun v6 w7=>kB v6 fun b52=>aA b52 (Q (.tuple #[.bool false,.nilIface]) w7) (FL x0 Q w7))
theorem IW (h:f21 x0 Q w):af Tryz.prog 21 #[x0] w Q :=
 ax (c:=Tryz.f21.body.get rfl) [] Tryz.func21 rfl rfl (args:=[x0]) rfl (by kernel_rfl) h
def Nd x8 (J2:World→Prop) (Q:PQ) w:=ae Tryz.prog 21 #[x8] w fun v6 w7=>aE v6 0 fun v8=>aE v6 1 fun v9=>kun .not (some .bool) v8 fun v10=>kB v10 fun b13=>aA b13 (ae Tryz.prog 18 #[x8] w7 fun v11 w12=>Q (.tuple #[v11,v9]) w12) (J2 w7)
def f8 x0 x1 x2 (Q:PQ) w:=knew (Value.cells x0) 43 w fun v1 w2=>aB 5 v1 w2 fun v3=>ae Tryz.prog 14 #[v3,x1,x2] w2 fun v4 w5=>kL fun(I:World→Prop) (μ:World→Nat)=>I w5∧∀(w1:World),I w1→Nd v4 (fun  w2=>I w2∧μ w2<μ w1) Q w1
theorem Nf (h:f8 x0 x1 x2 Q w):af Tryz.prog 8 #[x0,x1,x2] w Q :=
 ax (c:=Tryz.f8.body.get rfl) [(2,[])] Tryz.func8 rfl rfl (args:=[x0,x1,x2]) rfl (by kernel_rfl) h
def FM (x0 x1:Value) x5 (J4:Value→World→Prop) (Q:PQ) w:=kint .i64 .add x5 (.int .i64 1) fun v14=>J4 v14 w
def FN x0 x1 x5 (J4:Value→World→Prop) (Q:PQ) (w:World):=bz (some (.slice 3)) (some 1) x0 x5 fun v9=>aw v9 w.drew fun v10=>kG (w.drew=w.drew)<|bz (some (.slice 3)) (some 1) x1 x5 fun v11=>aw v11 w.drew fun v12=>kG (w.drew=w.drew)<|kint .i64 .neq v10 v12 fun v13=>kB v13 fun b15=>aA b15 (Q (.bool false) w.drew) (FM x0 x1 x5 J4 Q w.drew)
def FO (Q:PQ) w:=Q (.bool true) w
def FQ x5 x0 x1 (J4:Value→World→Prop) (Q:PQ) w:=aU x0 fun v6=>kint .i64 .lss x5 v6 fun v8=>kB v8 fun b16=>aA b16 (FN x0 x1 x5 J4 Q w) (FO Q w)
def FR x0 x1 (Q:PQ) w:=kL fun(I:Value→World→Prop) (μ:Value→World→Nat)=>I (.int .i64 0) w∧∀(x5:Value) (w1:World),I x5 w1→FQ x5 x0 x1 (fun y5 w2=>I y5 w2∧μ y5 w2<μ x5 w1) Q w1
def RD x0 x1 (Q:PQ) w:=aU x0 fun v1=>aU x1 fun v3=>kint .i64 .neq v1 v3 fun v5=>kB v5 fun b17=>aA b17 (Q (.bool false) w) (FR x0 x1 Q w)
theorem IX (h:RD x0 x1 Q w):af Tryz.prog 19 #[x0,x1] w Q :=
 ax (c:=Tryz.f19.body.get rfl) [(4,[5])] Tryz.func19 rfl rfl (args:=[x0,x1]) rfl (by kernel_rfl) h
def Ng x0 (Q:PQ) w:=kN x0<|ai 7 x0 fun v3=>aw v3 w fun v4=>ae Tryz.prog 46 #[v4] w fun v5 w6=>Q v5 w6
def f20 x0 (Q:PQ) w:=keq Tryz.prog .eql 54 false true x0 (.pointer none) w fun v1 w2=>kB v1 fun b7=>aA b7 (Q (.slice none 0 0) w2) (Ng x0 Q w2)
theorem IY (h:f20 x0 Q w):af Tryz.prog 20 #[x0] w Q :=
 ax (c:=Tryz.f20.body.get rfl) [] Tryz.func20 rfl rfl (args:=[x0]) rfl (by kernel_rfl) h
def Nh x0 (Q:PQ) w:=kN x0<|ai 8 x0 fun v3=>aw v3 w fun v4=>Q v4 w
def RE x0 (Q:PQ) w:=keq Tryz.prog .eql 54 false true x0 (.pointer none) w fun v1 w2=>kB v1 fun b5=>aA b5 (Q (.int .i64 0) w2) (Nh x0 Q w2)
theorem IZ (h:RE x0 Q w):af Tryz.prog 18 #[x0] w Q :=
 ax (c:=Tryz.f18.body.get rfl) [] Tryz.func18 rfl rfl (args:=[x0]) rfl (by kernel_rfl) h
def f15 x0 (Q:PQ) (w:World):=keq Tryz.prog .eql 54 false true x0 (.pointer none) w.drew fun v1 w2=>kG (w2=w.drew)<|kB v1 fun b3=>aA (!b3) (kN x0<|ai 9 x0 fun v4=>aw v4 w2 fun v5=>kG (w2=w2)<|kB v5 fun b6=>aA (!b6) (kN x0<|ai 6 x0 fun v7=>aw v7 w2 fun v8=>kG (w2=w2)<|kN x0<|ai 5 x0 fun v9=>aw v9 w2 fun v10=>kG (w2=w2)<|aU v10 fun v11=>kint .i64 .eql v8 v11 fun v13=>Q v13 w2) (Q (.bool true) w2)) (Q (.bool true) w2)
theorem I0 (h:f15 x0 Q w):af Tryz.prog 15 #[x0] w Q :=
 ax (c:=Tryz.f15.body.get rfl) [] Tryz.func15 rfl rfl (args:=[x0]) rfl (by kernel_rfl) h
def FS x0 (Q:PQ) w:=ay [.int .i64 0,.int .i64 0,.int .i64 0] 0 [] 80 w fun v3 w4=>ksem Tryz.prog (Builtin.append_ #[27,27] 0 #[v3,x0]) w4 fun v5 w6=>Q v5 w6
def RF x0 (Q:PQ) w:=keq Tryz.prog .eql 27 false true x0 (.slice none 0 0) w fun v1 w2=>kB v1 fun b7=>aA b7 (Q (.slice none 0 0) w2) (FS x0 Q w2)
theorem I1 (h:RF x0 Q w):af Tryz.prog 45 #[x0] w Q :=
 ax (c:=Tryz.f45.body.get rfl) [] Tryz.func45 rfl rfl (args:=[x0]) rfl (by kernel_rfl) h
def f47 x0 (Q:PQ) w:=ae Tryz.prog 80 #[(.string ⟨#[109,105,108,108]⟩),x0] w fun v1 w2=>Q v1 w2
theorem I3 (h:f47 x0 Q w):af Tryz.prog 47 #[x0] w Q :=
 ax (c:=Tryz.f47.body.get rfl) [] Tryz.func47 rfl rfl (args:=[x0]) rfl (by kernel_rfl) h
def FT (Q:PQ) w:=Q .nilIface w
def qB x55 (Q:PQ) w:=kB x55 fun b52=>aA b52 (aw (.pointer (some ⟨6,0,none⟩)) w fun v51=>Q v51 w) (FT Q w)
def nZ x0 x3 x7 x34 (Q:PQ) (w:World):=kB x34 fun b53=>aA b53 (aw (.pointer (some ⟨1,0,none⟩)) w fun v38=>Q v38 w) (kB x7 fun b39=>aA b39 (ai 1 x3 fun v40=>aw v40 w.drew fun v41=>kG (w.drew=w.drew)<|kint .i64 .lss v41 (.int .i64 0) fun v42=>kB v42 fun b43=>aA (!b43) (ai 1 x3 fun v44=>aw v44 w.drew fun v45=>kG (w.drew=w.drew)<|kN x0<|ai 5 x0 fun v46=>aw v46 w.drew fun v47=>kG (w.drew=w.drew)<|aU v47 fun v48=>kint .i64 .gtr v45 v48 fun v50=>qB v50 Q w.drew) (qB (.bool true) Q w.drew)) (qB (.bool false) Q w.drew))
def f48 x0 x1 (Q:PQ) w:=knew (Value.cells x1) 80 w fun v1 w2=>ai 0 v1 fun v3=>aw v3 w2 fun v4=>ae Tryz.prog 49 #[v4] w2 fun v5 w6=>aE v5 0 fun v7=>aE v5 1 fun v8=>ai 0 v1 fun v9=>aw v9 w6 fun v10=>ae Tryz.prog 81 #[v10] w6 fun v11 w12=>aE v11 0 fun v13=>aE v11 1 fun v14=>kN x0<|ai 8 x0 fun v15=>aw v15 w12 fun v16=>kint .i64 .eql v16 (.int .i64 0) fun v17=>kB v17 fun b55=>aA b55 (aw (.pointer (some ⟨0,0,none⟩)) w12 fun v18=>Q v18 w12) (ai 0 v1 fun v19=>aw v19 w12 fun v20=>ae Tryz.prog 82 #[v20] w12 fun v21 w22=>kstr .eql v21 (.string ⟨#[]⟩) fun v23=>kB v23 fun b54=>aA b54 (aw (.pointer (some ⟨5,0,none⟩)) w22 fun v24=>Q v24 w22) (kN x0<|ai 7 x0 fun v25=>aw v25 w22 fun v26=>aU v26 fun v27=>kint .i64 .lss v27 v7 fun v29=>kB v29 fun b30=>aA (!b30) (kN x0<|ai 7 x0 fun v31=>aw v31 w22 fun v32=>aU v32 fun v33=>kint .i64 .sub v33 v7 fun v35=>kint .i64 .add v35 v8 fun v36=>kint .i64 .gtr v36 (.int .i64 16) fun v37=>nZ x0 v1 v13 v37 Q w22) (nZ x0 v1 v13 (.bool true) Q w22)))
theorem I4 (h:f48 x0 x1 Q w):af Tryz.prog 48 #[x0,x1] w Q :=
 ax (c:=Tryz.f48.body.get rfl) [] Tryz.func48 rfl rfl (args:=[x0,x1]) rfl (by kernel_rfl) h
def f49 x0 (Q:PQ) w:=ae Tryz.prog 83 #[x0] w fun v1 w2=>aE v1 0 fun v3=>aE v1 1 fun v4=>knew #[(.string ⟨#[]⟩),.int .i64 0,.int .i64 0,.int .i64 0] 180 w2 fun v5 w6=>bj 4 v5 v3 w6 fun w7=>ai 2 v5 fun v8=>aw v8 w7.drew fun v9=>kG (w7.drew=w7.drew)<|ai 3 v5 fun v10=>aw v10 w7.drew fun v11=>kG (w7.drew=w7.drew)<|Q (.tuple #[v9,v11]) w7.drew
theorem I5 (h:f49 x0 Q w):af Tryz.prog 49 #[x0] w Q :=
 ax (c:=Tryz.f49.body.get rfl) [] Tryz.func49 rfl rfl (args:=[x0]) rfl (by kernel_rfl) h
def FU x0 x2 (Q:PQ) (w:World):=bz (some (.slice 3)) (some 1) x2 (.int .i64 0) fun v16=>aw v16 w.drew fun v17=>kG (w.drew=w.drew)<|bz (some (.slice 3)) (some 1) x2 (.int .i64 0) fun v18=>aw v18 w.drew fun v19=>kG (w.drew=w.drew)<|ay [.int .i64 0] 2 [(0,1,v17),(1,1,v19)] 3 w.drew fun v20 w21=>ae Tryz.prog 85 #[x0,v20] w21 fun v22 w23=>Q (.tuple #[]) w23
def FV x0 x2 (Q:PQ) (w:World):=bz (some (.slice 3)) (some 1) x2 (.int .i64 1) fun v25=>aw v25 w.drew fun v26=>kG (w.drew=w.drew)<|bz (some (.slice 3)) (some 1) x2 (.int .i64 0) fun v27=>aw v27 w.drew fun v28=>kG (w.drew=w.drew)<|ay [.int .i64 0] 2 [(0,1,v26),(1,1,v28)] 3 w.drew fun v29 w30=>ae Tryz.prog 85 #[x0,v29] w30 fun v31 w32=>Q (.tuple #[]) w32
def FW x0 x2 (Q:PQ) (w:World):=bz (some (.slice 3)) (some 1) x2 (.int .i64 0) fun v34=>aw v34 w.drew fun v35=>kG (w.drew=w.drew)<|bz (some (.slice 3)) (some 1) x2 (.int .i64 1) fun v36=>aw v36 w.drew fun v37=>kG (w.drew=w.drew)<|bz (some (.slice 3)) (some 1) x2 (.int .i64 0) fun v38=>aw v38 w.drew fun v39=>kG (w.drew=w.drew)<|ay [.int .i64 0] 3 [(0,1,v35),(1,1,v37),(2,1,v39)] 3 w.drew fun v40 w41=>ae Tryz.prog 85 #[x0,v40] w41 fun v42 w43=>Q (.tuple #[]) w43
def FX x0 x2 (Q:PQ) w:=bz (some (.slice 3)) (some 1) x2 (.int .i64 0) fun v45=>aw v45 w fun v46=>kun .neg (some (.int .i64)) v46 fun v47=>ay [.int .i64 0] 1 [(0,1,v47)] 3 w fun v48 w49=>ae Tryz.prog 85 #[x0,v48] w49 fun v50 w51=>Q (.tuple #[]) w51
def FY x0 x2 (Q:PQ) w:=bz (some (.slice 3)) (some 1) x2 (.int .i64 0) fun v53=>aw v53 w fun v54=>kint .i64 .eql v54 (.int .i64 0) fun v55=>ae Tryz.prog 86 #[v55] w fun v56 w57=>ay [.int .i64 0] 1 [(0,1,v56)] 3 w57 fun v58 w59=>ae Tryz.prog 85 #[x0,v58] w59 fun v60 w61=>Q (.tuple #[]) w61
def yj x0 x2 (Q:PQ) w:=bz (some (.slice 3)) (some 1) x2 (.int .i64 0) fun v63=>aw v63 w fun v64=>ae Tryz.prog 87 #[x0,v64] w fun v65 w66=>ay [.int .i64 0] 1 [(0,1,v65)] 3 w66 fun v67 w68=>ae Tryz.prog 85 #[x0,v67] w68 fun v69 w70=>Q (.tuple #[]) w70
def yk x0 (Q:PQ) w:=kN x0<|ai 9 x0 fun v73=>bj 1 v73 (.bool true) w fun w74=>Q (.tuple #[]) w74
def oY x0 x4 (Q:PQ) w:=ai 1 x4 fun v79=>aw v79 w fun v80=>kN x0<|ai 6 x0 fun v81=>bj 1 v81 v80 w fun w82=>Q (.tuple #[]) w82
def yl x0 x2 x4 (Q:PQ) w:=bz (some (.slice 3)) (some 1) x2 (.int .i64 0) fun v76=>aw v76 w fun v77=>kint .i64 .neq v77 (.int .i64 0) fun v78=>kB v78 fun b83=>aA b83 (Q (.tuple #[]) w) (oY x0 x4 Q w)
def sf x0 x2 x4 (Q:PQ) (w:World):=kN x0<|ai 0 x0 fun v86=>aB 3 x4 w.drew fun v87=>kG (w.drew=w.drew)<|bz (some (.slice 3)) (some 1) x2 (.int .i64 0) fun v88=>aw v88 w.drew fun v89=>kG (w.drew=w.drew)<|ae Tryz.prog 88 #[v86,v87,v89] w.drew fun v90 w91=>Q (.tuple #[]) w91
def sg x0 x4 (Q:PQ) (w:World):=kN x0<|ai 0 x0 fun v93=>aB 3 x4 w.drew fun v94=>kG (w.drew=w.drew)<|ae Tryz.prog 88 #[v93,v94,.int .i64 0] w.drew fun v95 w96=>Q (.tuple #[]) w96
def ym x0 x2 x4 (Q:PQ) (w:World):=ai 0 x4 fun v97=>aw v97 w.drew fun v98=>kG (w.drew=w.drew)<|bz (some (.slice 3)) (some 1) x2 (.int .i64 0) fun v99=>aw v99 w.drew fun v100=>kG (w.drew=w.drew)<|bz (some (.slice 3)) (some 1) x2 (.int .i64 1) fun v101=>aw v101 w.drew fun v102=>kG (w.drew=w.drew)<|ae Tryz.prog 89 #[v98,v100,v102] w.drew fun v103 w104=>ay [.int .i64 0] 1 [(0,1,v103)] 3 w104 fun v105 w106=>ae Tryz.prog 85 #[x0,v105] w106 fun v107 w108=>Q (.tuple #[]) w108
def iL x0 x2 x4 x47 (Q:PQ) w:=kB x47 fun b109=>aA b109 (sg x0 x4 Q w) (ym x0 x2 x4 Q w)
def yn x0 x2 x4 x22 (Q:PQ) w:=kint .i64 .eql x22 (.int .i64 31) fun v92=>kB v92 fun b115=>aA b115 (iL x0 x2 x4 v92 Q w) (kint .i64 .eql x22 (.int .i64 32) fun v110=>kB v110 fun b114=>aA b114 (iL x0 x2 x4 v110 Q w) (kint .i64 .eql x22 (.int .i64 33) fun v111=>kB v111 fun b113=>aA b113 (iL x0 x2 x4 v111 Q w) (kint .i64 .eql x22 (.int .i64 34) fun v112=>iL x0 x2 x4 v112 Q w)))
def oZ x0 x2 x4 x22 x44 (Q:PQ) w:=kB x44 fun b116=>aA b116 (sf x0 x2 x4 Q w) (yn x0 x2 x4 x22 Q w)
def yo x0 x2 x4 x22 (Q:PQ) w:=kint .i64 .eql x22 (.int .i64 23) fun v85=>kB v85 fun b118=>aA b118 (oZ x0 x2 x4 x22 v85 Q w) (kint .i64 .eql x22 (.int .i64 27) fun v117=>oZ x0 x2 x4 x22 v117 Q w)
def yp x0 x2 x4 x22 (Q:PQ) w:=kint .i64 .eql x22 (.int .i64 20) fun v84=>kB v84 fun b119=>aA b119 (oY x0 x4 Q w) (yo x0 x2 x4 x22 Q w)
def yq x0 x2 x4 x22 (Q:PQ) w:=kint .i64 .eql x22 (.int .i64 21) fun v75=>kB v75 fun b120=>aA b120 (yl x0 x2 x4 Q w) (yp x0 x2 x4 x22 Q w)
def yr x0 x2 x4 x22 (Q:PQ) w:=kint .i64 .eql x22 (.int .i64 35) fun v72=>kB v72 fun b121=>aA b121 (yk x0 Q w) (yq x0 x2 x4 x22 Q w)
def o6 x0 x2 x4 x22 x35 (Q:PQ) w:=kB x35 fun b122=>aA b122 (Q (.tuple #[]) w) (yr x0 x2 x4 x22 Q w)
def ys x0 x2 x4 x22 (Q:PQ) w:=kint .i64 .eql x22 (.int .i64 0) fun v71=>kB v71 fun b124=>aA b124 (o6 x0 x2 x4 x22 v71 Q w) (kint .i64 .eql x22 (.int .i64 3) fun v123=>o6 x0 x2 x4 x22 v123 Q w)
def yu x0 x2 x4 x22 (Q:PQ) w:=kint .i64 .eql x22 (.int .i64 28) fun v62=>kB v62 fun b125=>aA b125 (yj x0 x2 Q w) (ys x0 x2 x4 x22 Q w)
def FZ x0 x2 x4 x22 (Q:PQ) w:=kint .i64 .eql x22 (.int .i64 19) fun v52=>kB v52 fun b126=>aA b126 (FY x0 x2 Q w) (yu x0 x2 x4 x22 Q w)
def F0 x0 x2 x4 x22 (Q:PQ) w:=kint .i64 .eql x22 (.int .i64 11) fun v44=>kB v44 fun b127=>aA b127 (FX x0 x2 Q w) (FZ x0 x2 x4 x22 Q w)
def F2 x0 x2 x4 x22 (Q:PQ) w:=kint .i64 .eql x22 (.int .i64 5) fun v33=>kB v33 fun b128=>aA b128 (FW x0 x2 Q w) (F0 x0 x2 x4 x22 Q w)
def F3 x0 x2 x4 x22 (Q:PQ) w:=kint .i64 .eql x22 (.int .i64 4) fun v24=>kB v24 fun b129=>aA b129 (FV x0 x2 Q w) (F2 x0 x2 x4 x22 Q w)
def F4 x0 x2 x4 (Q:PQ) w:=ai 0 x4 fun v13=>aw v13 w fun v14=>kint .i64 .eql v14 (.int .i64 2) fun v15=>kB v15 fun b130=>aA b130 (FU x0 x2 Q w) (F3 x0 x2 x4 v14 Q w)
def f50 x0 x1 x2 (Q:PQ) w:=knew (Value.cells x1) 80 w fun v1 w2=>kN x0<|ai 0 x0 fun v3=>aB 3 v1 w2.drew fun v4=>kG (w2.drew=w2.drew)<|ae Tryz.prog 84 #[v3,v4] w2.drew fun v5 w6=>aE v5 0 fun v7=>aE v5 1 fun v8=>kB v8 fun b131=>aA b131 (ay [.int .i64 0] 1 [(0,1,v7)] 3 w6 fun v9 w10=>ae Tryz.prog 85 #[x0,v9] w10 fun v11 w12=>Q (.tuple #[]) w12) (F4 x0 x2 v1 Q w6)
theorem I6 (h:f50 x0 x1 x2 Q w):af Tryz.prog 50 #[x0,x1,x2] w Q :=
 ax (c:=Tryz.f50.body.get rfl) [] Tryz.func50 rfl rfl (args:=[x0,x1,x2]) rfl (by kernel_rfl) h
def RG x0 x1 (Q:PQ) w:=kN x0<|ai 7 x0 fun v1=>aw v1 w fun v2=>aU v2 fun v3=>kint .i64 .sub v3 x1 fun v5=>kN x0<|ai 7 x0 fun v6=>aw v6 w fun v7=>ksl (some (.slice 3)) (some 1) v7 (some v5) none fun v8=>ae Tryz.prog 46 #[v8] w fun v9 w10=>kN x0<|ai 7 x0 fun v11=>aw v11 w10 fun v12=>ksl (some (.slice 3)) (some 1) v12 none (some v5) fun v13=>kN x0<|ai 7 x0 fun v14=>bj 1 v14 v13 w10 fun w15=>Q v9 w15
theorem I7 (h:RG x0 x1 Q w):af Tryz.prog 51 #[x0,x1] w Q :=
 ax (c:=Tryz.f51.body.get rfl) [] Tryz.func51 rfl rfl (args:=[x0,x1]) rfl (by kernel_rfl) h
def RH x0 x1 (Q:PQ) w:=kN x0<|ai 0 x0 fun v1=>ai 0 v1 fun v2=>aw v2 w fun v3=>ae Tryz.prog 131 #[v3,x1] w fun v4 w5=>aE v4 0 fun v6=>aE v4 1 fun v7=>Q v6 w5
theorem I8 (h:RH x0 x1 Q w):af Tryz.prog 87 #[x0,x1] w Q :=
 ax (c:=Tryz.f87.body.get rfl) [] Tryz.func87 rfl rfl (args:=[x0,x1]) rfl (by kernel_rfl) h
def F5 (Q:PQ) w:=Q (.tuple #[.bool false,.bool false]) w
def F6 (Q:PQ) w:=Q (.tuple #[.bool true,.bool false]) w
def yv x2 x3 (Q:PQ) w:=Q (.tuple #[x2,x3]) w
def tR x2 x5 (Q:PQ) w:=yv x2 x5 Q w
def F7 x5 (Q:PQ) w:=tR (.bool true) x5 Q w
def F8 x2 x5 x11 (Q:PQ) w:=kint .i64 .eql x11 (.int .i64 21) fun v10=>kB v10 fun b11=>aA b11 (F7 x5 Q w) (tR x2 x5 Q w)
def F9 x2 x5 x11 (Q:PQ) w:=kint .i64 .eql x11 (.int .i64 20) fun v9=>kB v9 fun b12=>aA b12 (F6 Q w) (F8 x2 x5 x11 Q w)
def RI x0 (Q:PQ) w:=ae Tryz.prog 83 #[x0] w fun v1 w2=>aE v1 0 fun v3=>aE v1 1 fun v4=>knew #[(.string ⟨#[]⟩),.int .i64 0,.int .i64 0,.int .i64 0] 180 w2 fun v5 w6=>bj 4 v5 v3 w6 fun w7=>kint .i64 .eql x0 (.int .i64 35) fun v8=>kB v8 fun b13=>aA b13 (F5 Q w7) (F9 (.bool false) v4 x0 Q w7)
theorem I9 (h:RI x0 Q w):af Tryz.prog 81 #[x0] w Q :=
 ax (c:=Tryz.f81.body.get rfl) [] Tryz.func81 rfl rfl (args:=[x0]) rfl (by kernel_rfl) h
def RJ x0 (Q:PQ) w:=ae Tryz.prog 83 #[x0] w fun v1 w2=>aE v1 0 fun v3=>aE v1 1 fun v4=>knew #[(.string ⟨#[]⟩),.int .i64 0,.int .i64 0,.int .i64 0] 180 w2 fun v5 w6=>bj 4 v5 v3 w6 fun w7=>ai 0 v5 fun v8=>aw v8 w7 fun v9=>Q v9 w7
theorem Ja (h:RJ x0 Q w):af Tryz.prog 82 #[x0] w Q :=
 ax (c:=Tryz.f82.body.get rfl) [] Tryz.func82 rfl rfl (args:=[x0]) rfl (by kernel_rfl) h
def Ga x0 x2 (Q:PQ) w:=bz (some (.array 36 180)) (some 4) (.pointer (some ⟨18,0,none⟩)) x0 fun v9=>aB 4 v9 w fun v10=>bj 4 x2 v10 w fun w11=>aB 4 x2 w11 fun v12=>Q (.tuple #[v12,.bool true]) w11
def qC x0 x2 x9 (Q:PQ) w:=kB x9 fun b13=>aA b13 (aP [(.string ⟨#[]⟩),.int .i64 0,.int .i64 0,.int .i64 0] [] fun v6=>bj 4 x2 v6 w fun w7=>aB 4 x2 w7 fun v8=>Q (.tuple #[v8,.bool false]) w7) (Ga x0 x2 Q w)
def Qt x0 (Q:PQ) w:=knew #[(.string ⟨#[]⟩),.int .i64 0,.int .i64 0,.int .i64 0] 180 w fun v1 w2=>kint .i64 .lss x0 (.int .i64 0) fun v3=>kB v3 fun b4=>aA (!b4) (kint .i64 .geq x0 (.int .i64 36) fun v5=>qC x0 v1 v5 Q w2) (qC x0 v1 (.bool true) Q w2)
theorem yw (h:Qt x0 Q w):af Tryz.prog 83 #[x0] w Q :=
 ax (c:=Tryz.f83.body.get rfl) [] Tryz.func83 rfl rfl (args:=[x0]) rfl (by kernel_rfl) h
def Gb x0 x3 (Q:PQ) (w:World):=ai 1 x3 fun v35=>aw v35 w.drew fun v36=>kG (w.drew=w.drew)<|kN x0<|ai 2 x0 fun v37=>bz (some (.array 2 3)) (some 1) v37 v36 fun v38=>aw v38 w.drew fun v39=>kG (w.drew=w.drew)<|Q (.tuple #[v39,.bool true]) w.drew
def qD x0 x3 x44 (Q:PQ) w:=kB x44 fun b40=>aA b40 (Q (.tuple #[.int .i64 0,.bool true]) w) (Gb x0 x3 Q w)
def Ni (Q:PQ) w:=Q (.tuple #[.int .i64 0,.bool false]) w
def Qu x0 x1 (Q:PQ) w:=knew (Value.cells x1) 80 w fun v1 w2=>ai 0 v1 fun v3=>aw v3 w2 fun v4=>kint .i64 .eql v4 (.int .i64 1) fun v5=>kB v5 fun b64=>aA b64 (ai 1 v1 fun v6=>aw v6 w2 fun v7=>Q (.tuple #[v7,.bool true]) w2) (kint .i64 .eql v4 (.int .i64 22) fun v8=>kB v8 fun b63=>aA b63 (ai 1 v1 fun v9=>aw v9 w2 fun v10=>ai 2 v1 fun v11=>aw v11 w2 fun v12=>ae Tryz.prog 127 #[x0,v10,v12] w2 fun v13 w14=>Q (.tuple #[v13,.bool true]) w14) (kint .i64 .eql v4 (.int .i64 24) fun v15=>kB v15 fun b62=>aA b62 (ai 1 v1 fun v16=>aw v16 w2 fun v17=>ae Tryz.prog 128 #[x0,v17] w2 fun v18 w19=>aE v18 0 fun v20=>aE v18 1 fun v21=>knew #[.int .i64 0,.int .i64 0,.int .i64 0,.int .i64 0,.int .i64 0,.int .i64 0] 95 w19 fun v22 w23=>bj 6 v22 v20 w23 fun w24=>ae Tryz.prog 86 #[v21] w24 fun v25 w26=>Q (.tuple #[v25,.bool true]) w26) (kint .i64 .eql v4 (.int .i64 25) fun v27=>kB v27 fun b61=>aA b61 (ai 1 v1 fun v28=>aw v28 w2 fun v29=>kint .i64 .lss v29 (.int .i64 0) fun v30=>kB v30 fun b31=>aA (!b31) (ai 1 v1 fun v32=>aw v32 w2 fun v33=>kint .i64 .geq v33 (.int .i64 2) fun v34=>qD x0 v1 v34 Q w2) (qD x0 v1 (.bool true) Q w2)) (kint .i64 .eql v4 (.int .i64 26) fun v41=>kB v41 fun b60=>aA b60 (kN x0<|ai 0 x0 fun v42=>aw v42 w2.drew fun v43=>kG (w2.drew=w2.drew)<|ai 1 v1 fun v44=>aw v44 w2.drew fun v45=>kG (w2.drew=w2.drew)<|ae Tryz.prog 129 #[v43,v45] w2.drew fun v46 w47=>aE v46 0 fun v48=>aE v46 1 fun v49=>Q (.tuple #[v48,.bool true]) w47) (kint .i64 .eql v4 (.int .i64 29) fun v50=>kB v50 fun b59=>aA b59 (kN x0<|ai 4 x0 fun v51=>aw v51 w2 fun v52=>Q (.tuple #[v52,.bool true]) w2) (kint .i64 .eql v4 (.int .i64 30) fun v53=>kB v53 fun b58=>aA b58 (kN x0<|ai 0 x0 fun v54=>aw v54 w2 fun v55=>ae Tryz.prog 130 #[v55] w2 fun v56 w57=>Q (.tuple #[v56,.bool true]) w57) (Ni Q w2)))))))
theorem yx (h:Qu x0 x1 Q w):af Tryz.prog 84 #[x0,x1] w Q :=
 ax (c:=Tryz.f84.body.get rfl) [] Tryz.func84 rfl rfl (args:=[x0,x1]) rfl (by kernel_rfl) h
def yy x2 x7 (Q:PQ) w:=ai 1 x7 fun v13=>bz (some (.array 4 3)) (some 1) v13 x2 fun v14=>aw v14 w fun v15=>Q v15 w
def kn x2 x7 x24 (Q:PQ) w:=kB x24 fun b16=>aA b16 (Q (.int .i64 0) w) (yy x2 x7 Q w)
def Nj x0 x1 x2 (Q:PQ) w:=ae Tryz.prog 128 #[x0,x1] w fun v1 w2=>aE v1 0 fun v3=>aE v1 1 fun v4=>knew #[.int .i64 0,.int .i64 0,.int .i64 0,.int .i64 0,.int .i64 0,.int .i64 0] 95 w2 fun v5 w6=>bj 6 v5 v3 w6 fun w7=>kun .not (some .bool) v4 fun v8=>kB v8 fun b9=>aA (!b9) (kint .i64 .lss x2 (.int .i64 0) fun v10=>kB v10 fun b11=>aA (!b11) (kint .i64 .geq x2 (.int .i64 4) fun v12=>kn x2 v5 v12 Q w7) (kn x2 v5 (.bool true) Q w7)) (kn x2 v5 (.bool true) Q w7)
theorem Dh (h:Nj x0 x1 x2 Q w):af Tryz.prog 127 #[x0,x1,x2] w Q :=
 ax (c:=Tryz.f127.body.get rfl) [] Tryz.func127 rfl rfl (args:=[x0,x1,x2]) rfl (by kernel_rfl) h
def o7 x4 x6 x7 (Q:PQ) (w:World):=aB 6 x6 w.drew fun v14=>kG (w.drew=w.drew)<|keq Tryz.prog .eql 37 false true x7 .nilIface w.drew fun v15 w16=>kG (w16=w.drew)<|bj 6 x4 v14 w16 fun w17=>kG (keq Tryz.prog .eql 37 false true x7 .nilIface w17 fun v19 w20=>v19=v15∧w20=w17)<|aB 6 x4 w17 fun v18=>Q (.tuple #[v18,v15]) w17
def Nk x0 x1 (Q:PQ) w:=knew #[.int .i64 0,.int .i64 0,.int .i64 0,.int .i64 0,.int .i64 0,.int .i64 0] 95 w fun v1 w2=>(kN x0<|ai 0 x0 fun v3=>aw v3 w2.drew fun v4=>kG (w2.drew=w2.drew)<|kN x0<|ai 4 x0 fun v5=>aw v5 w2.drew fun v6=>kG (w2.drew=w2.drew)<|ae Tryz.prog 173 #[v4,v6,x1] w2.drew fun v7 w8=>knew #[.int .i64 0,.int .i64 0,.int .i64 0,.int .i64 0,.int .i64 0,.int .i64 0] 95 w8 fun v9 w10=>kG (aw v5 w10 fun v22=>v22=v6∧w10=w10)<|kG (aw v3 w10 fun v21=>v21=v4∧w10=w10)<|aE v7 0 fun v11=>bj 6 v9 v11 w10 fun w12=>aE v7 1 fun v13=>o7 v1 v9 v13 Q w12)∧(knew #[.int .i64 0,.int .i64 0,.int .i64 0,.int .i64 0,.int .i64 0,.int .i64 0] 95 w2.drew fun v23 w24=>kN x0<|ai 0 x0 fun v25=>aw v25 w24 fun v26=>kG (w24=w24)<|kG (aw v25 w2.drew fun v35=>v35=v26∧w2.drew=w2.drew)<|kN x0<|ai 4 x0 fun v27=>aw v27 w24 fun v28=>kG (w24=w24)<|kG (aw v27 w2.drew fun v34=>v34=v28∧w2.drew=w2.drew)<|ae Tryz.prog 173 #[v26,v28,x1] w24 fun v29 w30=>aE v29 0 fun v31=>bj 6 v23 v31 w30 fun w32=>aE v29 1 fun v33=>o7 v1 v23 v33 Q w32)
theorem Di (h:Nk x0 x1 Q w):af Tryz.prog 128 #[x0,x1] w Q :=
 ax (c:=Tryz.f128.body.get rfl) [] Tryz.func128 rfl rfl (args:=[x0,x1]) rfl (by kernel_rfl) h
def l9 x0 x6 (Q:PQ) (w:World):=kN x0<|ai 1 x0 fun v35=>aw v35 w.drew fun v36=>kG (w.drew=w.drew)<|aB 4 x6 w.drew fun v37=>kG (w.drew=w.drew)<|ae Tryz.prog 134 #[v36,v37] w.drew fun v38 w39=>Q (.tuple #[]) w39
def RK x0 x1 x2 (Q:PQ) w:=knew (Value.cells x1) 80 w fun v1 w2=>kN x0<|ai 4 x0 fun v3=>aw v3 w2 fun v4=>aP [.int .i64 0,.int .i64 0,.int .u32 0,.int .i64 0] [(1,1,v4)] fun v5=>knew #[.int .i64 0,.int .i64 0,.int .u32 0,.int .i64 0] 130 w2 fun v6 w7=>bj 4 v6 v5 w7 fun w8=>ai 0 v1 fun v9=>aw v9 w8 fun v10=>kint .i64 .eql v10 (.int .i64 23) fun v11=>kB v11 fun b64=>aA b64 (kN x0<|ai 0 x0 fun v12=>aw v12 w8.drew fun v13=>kG (w8.drew=w8.drew)<|kN x0<|ai 4 x0 fun v14=>aw v14 w8.drew fun v15=>kG (w8.drew=w8.drew)<|ai 1 v1 fun v16=>aw v16 w8.drew fun v17=>kG (w8.drew=w8.drew)<|ai 2 v1 fun v18=>aw v18 w8.drew fun v19=>kG (w8.drew=w8.drew)<|ae Tryz.prog 132 #[v13,v15,v17,v19,x2] w8.drew fun v20 w21=>Q (.tuple #[]) w21) (kint .i64 .eql v10 (.int .i64 27) fun v22=>kB v22 fun b63=>aA b63 (kN x0<|ai 0 x0 fun v23=>aw v23 w8.drew fun v24=>kG (w8.drew=w8.drew)<|ai 1 v1 fun v25=>aw v25 w8.drew fun v26=>kG (w8.drew=w8.drew)<|ae Tryz.prog 133 #[v24,v26,x2] w8.drew fun v27 w28=>Q (.tuple #[]) w28) (kint .i64 .eql v10 (.int .i64 31) fun v29=>kB v29 fun b62=>aA b62 (ai 1 v1 fun v30=>aw v30 w8 fun v31=>bk .u32 v31 fun v32=>aP [.int .i64 0,.int .i64 0,.int .u32 0,.int .i64 0] [(0,1,(.int .i64 1)),(2,1,v32)] fun v33=>bj 4 v6 v33 w8 fun w34=>l9 x0 v6 Q w34) (kint .i64 .eql v10 (.int .i64 32) fun v40=>kB v40 fun b61=>aA b61 (ai 0 v6 fun v41=>bj 1 v41 (.int .i64 2) w8 fun w42=>l9 x0 v6 Q w42) (kint .i64 .eql v10 (.int .i64 33) fun v43=>kB v43 fun b60=>aA b60 (ai 1 v1 fun v44=>aw v44 w8.drew fun v45=>kG (w8.drew=w8.drew)<|ai 0 v6 fun v46=>bj 1 v46 (.int .i64 3) w8.drew fun w47=>kG (aw v44 w47 fun v50=>v50=v45∧w47=w47)<|ai 3 v6 fun v48=>bj 1 v48 v45 w47 fun w49=>l9 x0 v6 Q w49) (kint .i64 .eql v10 (.int .i64 34) fun v51=>kB v51 fun b59=>aA b59 (ai 1 v1 fun v52=>aw v52 w8.drew fun v53=>kG (w8.drew=w8.drew)<|ai 0 v6 fun v54=>bj 1 v54 (.int .i64 4) w8.drew fun w55=>kG (aw v52 w55 fun v58=>v58=v53∧w55=w55)<|ai 3 v6 fun v56=>bj 1 v56 v53 w55 fun w57=>l9 x0 v6 Q w57) (Q (.tuple #[]) w8))))))
theorem Jb (h:RK x0 x1 x2 Q w):af Tryz.prog 88 #[x0,x1,x2] w Q :=
 ax (c:=Tryz.f88.body.get rfl) [] Tryz.func88 rfl rfl (args:=[x0,x1,x2]) rfl (by kernel_rfl) h
def RL x0 x1 (Q:PQ) w:=kN x0<|ai 7 x0 fun v1=>aw v1 w fun v2=>ksem Tryz.prog (Builtin.append_ #[49,49] 0 #[v2,x1]) w fun v3 w4=>kN x0<|ai 7 x0 fun v5=>bj 1 v5 v3 w4 fun w6=>Q (.tuple #[]) w6
theorem Jc (h:RL x0 x1 Q w):af Tryz.prog 85 #[x0,x1] w Q :=
 ax (c:=Tryz.f85.body.get rfl) [] Tryz.func85 rfl rfl (args:=[x0,x1]) rfl (by kernel_rfl) h
def Gc (Q:PQ) w:=Q (.int .i64 0) w
def RM x0 (Q:PQ) w:=kB x0 fun b1=>aA b1 (Q (.int .i64 1) w) (Gc Q w)
theorem Jd (h:RM x0 Q w):af Tryz.prog 86 #[x0] w Q :=
 ax (c:=Tryz.f86.body.get rfl) [] Tryz.func86 rfl rfl (args:=[x0]) rfl (by kernel_rfl) h
def tS x1 x2 (Q:PQ) w:=kint .i64 .add x1 x2 fun v3=>Q v3 w
def Gd x1 x2 (Q:PQ) w:=kun .neg (some (.int .i64)) x2 fun v2=>tS x1 v2 Q w
def Ge x1 x2 (Q:PQ) w:=kint .i64 .mul x1 x2 fun v6=>Q v6 w
def Gf x1 x2 (Q:PQ) w:=ae Tryz.prog 135 #[x1,x2] w fun v8 w9=>Q v8 w9
def Gg x1 x2 (Q:PQ) w:=ae Tryz.prog 135 #[x1,x2] w fun v12 w13=>kint .i64 .mul x2 v12 fun v14=>kint .i64 .sub x1 v14 fun v15=>Q v15 w13
def Gh x1 x2 (Q:PQ) w:=kint .i64 .eql x2 (.int .i64 0) fun v11=>kB v11 fun b16=>aA b16 (Q (.int .i64 0) w) (Gg x1 x2 Q w)
def yz x1 x2 (Q:PQ) w:=kint .i64 .and x1 x2 fun v18=>Q v18 w
def yA x1 x2 (Q:PQ) w:=kint .i64 .or x1 x2 fun v20=>Q v20 w
def yB x1 x2 (Q:PQ) w:=kint .i64 .xor x1 x2 fun v22=>Q v22 w
def yC x1 x2 (Q:PQ) w:=bk .u64 x2 fun v24=>kint .u64 .rem v24 (.int .u64 64) fun v25=>kint .i64 .shl x1 v25 fun v26=>Q v26 w
def yD x1 x2 (Q:PQ) w:=bk .u64 x2 fun v28=>kint .u64 .rem v28 (.int .u64 64) fun v29=>kint .i64 .shr x1 v29 fun v30=>Q v30 w
def yE x1 x2 (Q:PQ) w:=kint .i64 .eql x1 x2 fun v32=>ae Tryz.prog 86 #[v32] w fun v33 w34=>Q v33 w34
def yF x1 x2 (Q:PQ) w:=kint .i64 .lss x1 x2 fun v35=>ae Tryz.prog 86 #[v35] w fun v36 w37=>Q v36 w37
def Je x1 x2 x7 (Q:PQ) w:=kint .i64 .eql x7 (.int .i64 17) fun v31=>kB v31 fun b38=>aA b38 (yE x1 x2 Q w) (yF x1 x2 Q w)
def Jf x1 x2 x7 (Q:PQ) w:=kint .i64 .eql x7 (.int .i64 16) fun v27=>kB v27 fun b39=>aA b39 (yD x1 x2 Q w) (Je x1 x2 x7 Q w)
def Jg x1 x2 x7 (Q:PQ) w:=kint .i64 .eql x7 (.int .i64 15) fun v23=>kB v23 fun b40=>aA b40 (yC x1 x2 Q w) (Jf x1 x2 x7 Q w)
def Jh x1 x2 x7 (Q:PQ) w:=kint .i64 .eql x7 (.int .i64 14) fun v21=>kB v21 fun b41=>aA b41 (yB x1 x2 Q w) (Jg x1 x2 x7 Q w)
def Ji x1 x2 x7 (Q:PQ) w:=kint .i64 .eql x7 (.int .i64 13) fun v19=>kB v19 fun b42=>aA b42 (yA x1 x2 Q w) (Jh x1 x2 x7 Q w)
def Jj x1 x2 x7 (Q:PQ) w:=kint .i64 .eql x7 (.int .i64 12) fun v17=>kB v17 fun b43=>aA b43 (yz x1 x2 Q w) (Ji x1 x2 x7 Q w)
def Nl x1 x2 x7 (Q:PQ) w:=kint .i64 .eql x7 (.int .i64 10) fun v10=>kB v10 fun b44=>aA b44 (Gh x1 x2 Q w) (Jj x1 x2 x7 Q w)
def Nm x1 x2 x7 (Q:PQ) w:=kint .i64 .eql x7 (.int .i64 9) fun v7=>kB v7 fun b45=>aA b45 (Gf x1 x2 Q w) (Nl x1 x2 x7 Q w)
def Nn x1 x2 x7 (Q:PQ) w:=kint .i64 .eql x7 (.int .i64 8) fun v5=>kB v5 fun b46=>aA b46 (Ge x1 x2 Q w) (Nm x1 x2 x7 Q w)
def No x1 x2 x7 (Q:PQ) w:=kint .i64 .eql x7 (.int .i64 6) fun v4=>kB v4 fun b47=>aA b47 (tS x1 x2 Q w) (Nn x1 x2 x7 Q w)
def RN x0 x1 x2 (Q:PQ) w:=kint .i64 .eql x0 (.int .i64 7) fun v1=>kB v1 fun b48=>aA b48 (Gd x1 x2 Q w) (No x1 x2 x0 Q w)
theorem Jk (h:RN x0 x1 x2 Q w):af Tryz.prog 89 #[x0,x1,x2] w Q :=
 ax (c:=Tryz.f89.body.get rfl) [] Tryz.func89 rfl rfl (args:=[x0,x1,x2]) rfl (by kernel_rfl) h
def yG x0 x1 (Q:PQ) w:=kint .i64 .quo x0 x1 fun v2=>Q v2 w
def Np x0 x1 (Q:PQ) w:=kint .i64 .eql x1 (.int .i64 0) fun v1=>kB v1 fun b3=>aA b3 (Q (.int .i64 0) w) (yG x0 x1 Q w)
theorem Dj (h:Np x0 x1 Q w):af Tryz.prog 135 #[x0,x1] w Q :=
 ax (c:=Tryz.f135.body.get rfl) [] Tryz.func135 rfl rfl (args:=[x0,x1]) rfl (by kernel_rfl) h
end
section
def opRows:List (List UInt8×Int×Int×Int):=[
 ([110,111,112],0,0,0),
 ([112,117,115,104],1,0,1),
 ([100,117,112],0,1,2),
 ([100,114,111,112],0,1,0),
 ([115,119,97,112],0,2,2),
 ([111,118,101,114],0,2,3),
 ([97,100,100],0,2,1),
 ([115,117,98],0,2,1),
 ([109,117,108],0,2,1),
 ([100,105,118],0,2,1),
 ([109,111,100],0,2,1),
 ([110,101,103],0,1,1),
 ([97,110,100],0,2,1),
 ([111,114],0,2,1),
 ([120,111,114],0,2,1),
 ([115,104,108],0,2,1),
 ([115,104,114],0,2,1),
 ([101,113],0,2,1),
 ([108,116],0,2,1),
 ([110,111,116],0,1,1),
 ([106,117,109,112],1,0,0),
 ([122,101,114,111],1,1,0),
 ([108,111,97,100],2,0,1),
 ([115,116,111,114,101],2,1,0),
 ([104,97,115],1,0,1),
 ([105,110,112,117,116],1,0,1),
 ([114,101,115],1,0,1),
 ([115,101,116,114,101,115],1,1,0),
 ([114,97,110,100],0,1,1),
 ([105,100],0,0,1),
 ([102,114,97,109,101],0,0,1),
 ([115,112,97,119,110],1,0,0),
 ([100,101,115,112,97,119,110],0,0,0),
 ([105,110,115,101,114,116],1,0,0),
 ([114,101,109,111,118,101],1,0,0),
 ([104,97,108,116],0,0,0)]
abbrev jg:=List UInt8×Int×Int×Int
def tx (l:List UInt8):ByteArray:=⟨l.toArray⟩
def rowC (r:jg):List Value:=[.string (tx r.1),.int .i64 r.2.1,.int .i64 r.2.2.1,.int .i64 r.2.2.2]
def eY (w:World):Prop:=∃t f,aX w 18=some (.cells (opRows.flatMap rowC).toArray t f)
theorem eY.same (h:eY w) (hm:Same w w'):eY w':=by
 obtain⟨t,f,hb⟩:=h;exact⟨t,f,hm.get hb (fun h=>h)⟩
theorem opRows_len:opRows.length=36:=rfl
theorem qE (hr:eY w) (n:Nat) (hn:n<36):af Tryz.prog 83 #[.int .i64 n] w fun v w'=>v=.tuple #[.agg (rowC (opRows[n]'hn)).toArray,.bool true]∧Same w w':=by
 refine yw ?_;unfold Qt;refine ar fun w2 h2 hs2 hb2=>?_;rw[gE,fq];refine dh (fun _=>?_) (fun h=>absurd h (by simp));rw[qf,decide_eq_false (by omega)];unfold qC;rw[fq,vd];unfold Ga;obtain⟨t,f,hb⟩:=hr.same h2;rw[dy];refine ah (by omega) ?_;rw[add_mk];have hlen:(opRows.flatMap rowC).length=36*4:=by
  rw[flat_len rowC 4 (fun _=>rfl) opRows,opRows_len]
 have hfl:=d5 rowC 4 (fun _=>rfl) opRows n hn;generalize opRows.flatMap rowC=cs at *;refine fy (cs:=rowC (opRows[n]'hn)) hb (by simp[hlen]; omega) (by simpa using hfl) (by omega) ?_;refine aQ (vs:=rowC (opRows[n]'hn)) hb2 rfl rfl rfl (by simp) (by simp[rowC]) fun w11 h11 hs11 hb11=>?_;have hb11:aX w11 w.heap.size=some (.cells (rowC (opRows[n]'hn)).toArray 180):=hb11;refine fy (cs:=rowC (opRows[n]'hn)) hb11 (by simp[rowC]) rfl (by omega) ?_;exact⟨rfl,aH.after h2 h11 (fun b hb=>by omega)⟩
theorem i3 (b:Bool) (w:World):af Tryz.prog 86 #[.bool b] w fun v w'=>v=.int .i64 (fe b)∧w'=w:=by
 refine Jd ?_;unfold RM;rw[fq];refine dh (fun h=>?_) (fun h=>?_)
 ·rw[h]; exact⟨rfl,rfl⟩
 ·unfold Gc;rw[h]; exact⟨rfl,rfl⟩
theorem jh (y x:Int) (w:World):af Tryz.prog 135 #[.int .i64 y,.int .i64 x] w fun v w'=>v=.int .i64 (oX y x)∧w'=w:=by
 refine Dj ?_;unfold Np;rw[gD,fq];unfold oX;refine am (fun h=>?_) (fun h=>?_)
 ·rw[if_pos h]; exact⟨rfl,rfl⟩
 ·unfold yG;rw[if_neg h,qg];exact ah h ⟨rfl,rfl⟩
end
section
structure IN where
 op:Int
 a:Int
 b:Int
def IN.cells (x:IN):List Value:=[.int .i64 x.op,.int .i64 x.a,.int .i64 x.b]
structure dE (σ:Type) where
 rd:σ→IN→Option Int
 wr:σ→IN→Int→σ
 dr:σ→Int→σ×Int
structure MS (σ:Type) where
 place:Nat
 st:List Int
 fuel:Nat
 over:Bool
 h:σ
def MS.lays {σ:Type} (m:MS σ) (ns:List Int):MS σ:={ m with st:=m.st++ns }
def MS.goes {σ:Type} (m:MS σ) (p:Nat):MS σ:={ m with place:=p }
def MS.hosts {σ:Type} (m:MS σ) (h:σ):MS σ:={ m with h:=h }
def MS.ends {σ:Type} (m:MS σ):MS σ:={ m with over:=true }
def dx (op:Int):jg:=if 0≤op then(opRows[op.toNat]?).getD ([],0,0,0) else([],0,0,0)
theorem iM (n:Nat) (hn:n<36):dx n=opRows[n]'hn:=by
 unfold dx;rw[if_pos (by omega),Int.toNat_natCast,List.getElem?_eq_getElem (by simpa [opRows_len] using hn)];rfl
theorem jW (h:op<0∨36≤op):dx op=([],0,0,0):=by
 unfold dx;split
 ·rw[List.getElem?_eq_none (by rw[opRows_len]; omega)]; rfl
 ·rfl
theorem gH (op:Int):0≤(dx op).2.2.1∧(dx op).2.2.1≤2∧0≤(dx op).2.2.2∧(dx op).2.2.2≤3:=by
 have hall:∀r∈opRows,0≤r.2.2.1∧r.2.2.1≤2∧0≤r.2.2.2∧r.2.2.2≤3:=by decide
 by_cases h:op<0∨36≤op
 ·rw[jW h]; decide
 ·obtain⟨n,rfl⟩:∃n:Nat,op=(n:Int):=⟨op.toNat,by omega⟩
  rw[iM n (by omega)];exact hall _ (List.getElem_mem _)
theorem Nq (op:Int):(tx (dx op).1=⟨#[]⟩)↔(dx op).1=[]:=by
 constructor
 ·intro h;have:=congrArg (fun s:ByteArray=>s.data.toList) h;simpa [tx] using this
 ·intro h; rw[h]; rfl
theorem tT (h:(dx op).1≠[]):0≤op∧op<36:=by
 by_cases hh:op<0∨36≤op
 ·rw[jW hh]at h; exact absurd rfl h
 ·omega
def takesF (op:Int):Nat:=(dx op).2.2.1.toNat
def dK {σ:Type} (len:Nat) (m:MS σ) (x:IN):Nat :=
 if m.fuel=0 then 15 else if (dx x.op).1=[] then 14
 else if (m.st.length:Int)<(dx x.op).2.2.1∨(m.st.length:Int)-(dx x.op).2.2.1+(dx x.op).2.2.2>16 then 12
 else if (x.op=20∨x.op=21)∧(x.a<0∨x.a>(len:Int)) then 13 else 0
def Qv (y x:Int):Int:=ishl .i64 y ((IntKind.u64.wrap x).tmod 64)
def Nr (y x:Int):Int:=ishr .i64 y ((IntKind.u64.wrap x).tmod 64)
def im (op y x:Int):Int :=
 if op=7 then IntKind.i64.wrap (y+IntKind.i64.wrap (0-x)) else if op=6 then IntKind.i64.wrap (y+x) else if op=8 then IntKind.i64.wrap (y*x)
 else if op=9 then oX y x else if op=10 then yi y x else if op=12 then iand .i64 y x else if op=13 then ior .i64 y x else if op=14 then ixor .i64 y x
 else if op=15 then Qv y x else if op=16 then Nr y x else if op=17 then fe (decide (y=x)) else fe (decide (y<x))
def cS (a:List Int) (i:Nat):Int:=a.getD i 0
def ko {σ:Type} (H:dE σ) (m:MS σ) (x:IN) (a:List Int):MS σ :=
 if x.op=2 then m.lays [cS a 0,cS a 0]
 else if x.op=4 then m.lays [cS a 1,cS a 0]
 else if x.op=5 then m.lays [cS a 0,cS a 1,cS a 0]
 else if x.op=11 then m.lays [IntKind.i64.wrap (0-cS a 0)]
 else if x.op=19 then m.lays [fe (decide (cS a 0=0))]
 else if x.op=28 then(m.hosts (H.dr m.h (cS a 0)).1).lays [(H.dr m.h (cS a 0)).2]
 else if x.op=0 then m
 else if x.op=3 then m
 else if x.op=35 then m.ends
 else if x.op=21 then(if cS a 0≠0 then m else m.goes x.a.toNat)
 else if x.op=20 then m.goes x.a.toNat
 else if x.op=23 then m.hosts (H.wr m.h x (cS a 0))
 else if x.op=27 then m.hosts (H.wr m.h x (cS a 0))
 else if x.op=31 then m.hosts (H.wr m.h x 0)
 else if x.op=32 then m.hosts (H.wr m.h x 0)
 else if x.op=33 then m.hosts (H.wr m.h x 0)
 else if x.op=34 then m.hosts (H.wr m.h x 0)
 else m.lays [im x.op (cS a 0) (cS a 1)]
def iy {σ:Type} (H:dE σ) (m:MS σ) (x:IN) (a:List Int):MS σ :=
 match H.rd m.h x with
 | some n=>m.lays [n]
 | none=>ko H m x a
def eZ {σ:Type} (len:Nat) (m:MS σ):Bool:=m.over||decide ((m.place:Int)=(len:Int))
def eD {σ:Type} (m:MS σ) (x:IN):MS σ:={ m with fuel:=m.fuel-1,place:=m.place+1,st:=m.st.take (m.st.length-takesF x.op) }
def cE {σ:Type} (H:dE σ) (l:List IN) (m:MS σ):MS σ×Bool×Nat :=
 if eZ l.length m=true then(m,false,0)
 else match l[m.place]? with
  | none=>(m,false,0)
  | some x =>
   if dK l.length m x≠0 then(m.ends,false,dK l.length m x)
   else(iy H (eD m x) x (m.st.drop (m.st.length-takesF x.op)),true,0)
def fC {σ:Type} (H:dE σ) (l:List IN):Nat→MS σ→MS σ×Nat
 | 0,m=>(m,0)
 | n+1,m=>if (cE H l m).2.1=true then fC H l n (cE H l m).1 else((cE H l m).1,(cE H l m).2.2)
def MS.good {σ:Type} (len:Nat) (m:MS σ):Prop:=m.place≤len∧m.st.length≤16∧m.fuel≤4096
theorem o8 {σ:Type} {m:MS σ} (h:dK len m x=0):m.fuel≠0∧(0≤x.op∧x.op<36)∧takesF x.op≤m.st.length∧(m.st.length:Int)-takesF x.op+(dx x.op).2.2.2≤16∧((x.op=20∨x.op=21)→0≤x.a∧x.a≤len):=by
 unfold dK at h;have hb:=gH x.op;split at h
 ·cases h
 ·split at h
  ·cases h
  ·rename_i h1 h2;have hr:=tT h2;split at h
   ·cases h
   ·rename_i h3;split at h
    ·cases h
    ·rename_i h4;have e:((takesF x.op:Nat):Int)=(dx x.op).2.2.1:=by unfold takesF; omega
     refine⟨h1,hr,by omega,by omega,fun hj=>?_⟩;have:¬(x.a<0∨x.a>(len:Int)):=fun hh=>h4 ⟨hj,hh⟩;omega
theorem aG {α:Type} {P:α→Prop} {p:Prop} [Decidable p] {a b:α} (h1:p→P a) (h2:¬p→P b):P (if p then a else b):=by
 by_cases h:p
 ·rw[if_pos h]; exact h1 h
 ·rw[if_neg h]; exact h2 h
def laysN (n:Nat):Nat:=if n=2∨n=4 then 2 else if n=5 then 3 else if n=0∨n=3∨n=20∨n=21∨n=23∨n=27∨31≤n then 0 else 1
theorem yH (n:Nat) (hn:n<36):(dx n).2.2.2=(laysN n:Int):=by
 have hlays:∀n:Nat,n<36→(opRows[n]?.map fun r=>r.2.2.2)=some (laysN n:Int):=by decide
 have hl:=hlays n hn;rw[List.getElem?_eq_getElem (by simpa [opRows_len] using hn)]at hl;rw[iM n hn];exact Option.some.inj hl
def gb {σ:Type} (m:MS σ) (x:IN) (z:MS σ):Prop :=
 z.fuel=m.fuel∧(z.place=m.place∨(x.op=20∨x.op=21)∧z.place=x.a.toNat)∧((0≤x.op∧x.op<36)→z.st.length≤m.st.length+laysN x.op.toNat)
theorem gb.lays {σ:Type} {m:MS σ} {x:IN} {ns:List Int} {h:σ} (hn:(0≤x.op∧x.op<36)→ns.length≤laysN x.op.toNat):gb m x ((m.hosts h).lays ns) :=
 ⟨rfl,.inl rfl,fun hx=>by show(m.st++ns).length≤_; rw[List.length_append]; have:=hn hx; omega⟩
theorem gb.none {σ:Type} {m z:MS σ} (h1:z.fuel=m.fuel) (h2:z.place=m.place) (h3:z.st=m.st):gb m x z :=
 ⟨h1,.inl h2,fun _=>by rw[h3]; omega⟩
theorem gb.jump {σ:Type} {m:MS σ} {x:IN} (h:x.op=20∨x.op=21):gb m x (m.goes x.a.toNat) :=
 ⟨rfl,.inr ⟨h,rfl⟩,fun _=>Nat.le_add_right _ _⟩
theorem gI {op:Int} {n k:Nat} (h:op=(n:Int)) (hk:k≤laysN n):(0≤op∧op<36)→k≤laysN op.toNat:=by
 subst h; intro _; exact hk
theorem Dk {σ:Type} (H:dE σ) (m:MS σ) (x:IN) (a:List Int):gb m x (ko H m x a):=by
 unfold ko;refine aG (P:=gb m x) (fun h=>gb.lays (gI (n:=2) h (Nat.le_of_ble_eq_true rfl))) (fun h2=>?_);refine aG (P:=gb m x) (fun h=>gb.lays (gI (n:=4) h (Nat.le_of_ble_eq_true rfl))) (fun h4=>?_);refine aG (P:=gb m x) (fun h=>gb.lays (gI (n:=5) h (Nat.le_of_ble_eq_true rfl))) (fun h5=>?_);refine aG (P:=gb m x) (fun h=>gb.lays (gI (n:=11) h (Nat.le_of_ble_eq_true rfl))) (fun h11=>?_);refine aG (P:=gb m x) (fun h=>gb.lays (gI (n:=19) h (Nat.le_of_ble_eq_true rfl))) (fun h19=>?_);refine aG (P:=gb m x) (fun h=>gb.lays (gI (n:=28) h (Nat.le_of_ble_eq_true rfl))) (fun h28=>?_);refine aG (P:=gb m x) (fun h=>gb.none rfl rfl rfl) (fun h0=>?_);refine aG (P:=gb m x) (fun h=>gb.none rfl rfl rfl) (fun h3=>?_);refine aG (P:=gb m x) (fun h=>gb.none rfl rfl rfl) (fun h35=>?_);refine aG (P:=gb m x) (fun h=>aG (P:=gb m x) (fun _=>gb.none rfl rfl rfl) (fun _=>gb.jump (.inr h))) (fun h21=>?_);refine aG (P:=gb m x) (fun h=>gb.jump (.inl h)) (fun h20=>?_);refine aG (P:=gb m x) (fun h=>gb.none rfl rfl rfl) (fun h23=>?_);refine aG (P:=gb m x) (fun h=>gb.none rfl rfl rfl) (fun h27=>?_);refine aG (P:=gb m x) (fun h=>gb.none rfl rfl rfl) (fun h31=>?_);refine aG (P:=gb m x) (fun h=>gb.none rfl rfl rfl) (fun h32=>?_);refine aG (P:=gb m x) (fun h=>gb.none rfl rfl rfl) (fun h33=>?_);refine aG (P:=gb m x) (fun h=>gb.none rfl rfl rfl) (fun h34=>?_);refine gb.lays fun hx=>?_;unfold laysN;rw[if_neg (by omega),if_neg (by omega),if_neg (by omega)];exact Nat.le_refl _
def du (op:Int):Prop:=op=1∨op=22∨op=24∨op=25∨op=26∨op=29∨op=30
theorem Dl {σ:Type} (H:dE σ) (hrd:∀s x,H.rd s x≠none→du x.op) (m:MS σ) (x:IN) (a:List Int):gb m x (iy H m x a):=by
 have hrd:=hrd m.h x;unfold iy;cases hr:H.rd m.h x with
 | some v =>
  refine gb.lays (h:=m.h) fun hx=>?_;have:=hrd (by rw[hr]; exact fun h=>by cases h);unfold du at this;unfold laysN;rw[if_neg (by omega),if_neg (by omega),if_neg (by omega)];exact Nat.le_refl _
 | none=>exact Dk H m x a
theorem eF {σ:Type} {H:dE σ} {l:List IN} {m:MS σ} (h:eZ l.length m=true):cE H l m=(m,false,0):=by
 unfold cE; rw[if_pos h]
theorem fT {σ:Type} {H:dE σ} {l:List IN} {m:MS σ} (h:¬eZ l.length m=true) {x:IN} (hx:l[m.place]?=some x) :
  cE H l m=if dK l.length m x≠0 then(m.ends,false,dK l.length m x) else(iy H (eD m x) x (m.st.drop (m.st.length-takesF x.op)),true,0):=by
 unfold cE; rw[if_neg h,hx]
theorem fU {σ:Type} {H:dE σ} {l:List IN} {m:MS σ} (h:¬eZ l.length m=true) (hx:l[m.place]?=none):cE H l m=(m,false,0):=by
 unfold cE; rw[if_neg h,hx]
theorem mb {σ:Type} (H:dE σ) (hrd:∀s x,H.rd s x≠none→du x.op) (l:List IN) (m:MS σ) (h:m.good l.length):(cE H l m).1.good l.length∧(cE H l m).1.fuel≤m.fuel∧((cE H l m).2.1=true→(cE H l m).1.fuel+1=m.fuel):=by
 obtain⟨h1,h2,h3⟩:=h;by_cases ho:eZ l.length m=true
 ·rw[eF ho];exact⟨⟨h1,h2,h3⟩,Nat.le_refl _,fun e=>Bool.noConfusion e⟩
 ·cases hx:l[m.place]? with
  | none =>
   rw[fU ho hx];exact⟨⟨h1,h2,h3⟩,Nat.le_refl _,fun e=>Bool.noConfusion e⟩
  | some x =>
   rw[fT ho hx];by_cases hc:dK l.length m x≠0
   ·rw[if_pos hc];exact⟨⟨h1,h2,h3⟩,Nat.le_refl _,fun e=>Bool.noConfusion e⟩
   ·rw[if_neg hc];have hc:dK l.length m x=0:=by omega
    obtain⟨c1,c2,c3,c4,c5⟩:=o8 hc;have hp:m.place<l.length:=by
     obtain⟨hp,_⟩:=List.getElem?_eq_some_iff.1 hx;exact hp
    obtain⟨d1,d2,d3⟩:=Dl H hrd (eD m x) x (m.st.drop (m.st.length-takesF x.op));have hb:=gH x.op;have e:((takesF x.op:Nat):Int)=(dx x.op).2.2.1:=by unfold takesF; omega
    have hl:=yH x.op.toNat (by omega);rw[show((x.op.toNat:Nat):Int)=x.op by omega]at hl;have d1:_=m.fuel-1:=d1;have d3:=d3 c2;have e2:(eD m x).st.length=m.st.length-takesF x.op:=by
     show(m.st.take _).length=_;rw[List.length_take]; omega
    rw[e2]at d3;refine⟨⟨?_,by show(iy H (eD m x) x _).st.length≤16; omega,?_⟩,?_,fun _=>?_⟩
    ·show(iy H (eD m x) x _).place≤_;rcases d2 with d2 | ⟨hj,d2⟩
     ·rw[d2]; show m.place+1≤_; omega
     ·rw[d2]; have:=c5 hj; omega
    ·show(iy H (eD m x) x _).fuel≤4096;rw[d1]; omega
    ·show(iy H (eD m x) x _).fuel≤m.fuel;rw[d1]; omega
    ·show(iy H (eD m x) x _).fuel+1=m.fuel;rw[d1]; omega
end
section
def Jl x0 x1 (Q:PQ) w:=aP [.int .i64 0,.int .i64 0,.slice none 0 0,.slice none 0 0] [(0,1,x0),(1,1,x1)] fun v11=>knew (Value.cells v11) 339 w fun v12 w13=>Q (.tuple #[v12,.nilIface]) w13
def o9 x0 x1 x19 (Q:PQ) w:=kB x19 fun b14=>aA b14 (aw (.pointer (some ⟨3,0,none⟩)) w fun v8=>ae Tryz.prog 80 #[(.string ⟨#[99,111,108,117,109,110]⟩),v8] w fun v9 w10=>Q (.tuple #[.pointer none,v9]) w10) (Jl x0 x1 Q w)
def Ns x0 x1 (Q:PQ) w:=kint .i64 .lss x0 (.int .i64 0) fun v1=>kB v1 fun b2=>aA (!b2) (kint .i64 .geq x0 (.int .i64 16) fun v3=>kB v3 fun b4=>aA (!b4) (kint .i64 .lss x1 (.int .i64 1) fun v5=>kB v5 fun b6=>aA (!b6) (kint .i64 .gtr x1 (.int .i64 4) fun v7=>o9 x0 x1 v7 Q w) (o9 x0 x1 (.bool true) Q w)) (o9 x0 x1 (.bool true) Q w)) (o9 x0 x1 (.bool true) Q w)
theorem Dm (h:Ns x0 x1 Q w):af Tryz.prog 151 #[x0,x1] w Q :=
 ax (c:=Tryz.f151.body.get rfl) [] Tryz.func151 rfl rfl (args:=[x0,x1]) rfl (by kernel_rfl) h
def Nt x0 (Q:PQ) w:=ae Tryz.prog 80 #[(.string ⟨#[99,111,108,117,109,110]⟩),x0] w fun v1 w2=>Q v1 w2
theorem Dn (h:Nt x0 Q w):af Tryz.prog 198 #[x0] w Q :=
 ax (c:=Tryz.f198.body.get rfl) [] Tryz.func198 rfl rfl (args:=[x0]) rfl (by kernel_rfl) h
def Jm x0 x1 (Q:PQ) (w:World):=kN x0<|ai 1 x0 fun v16=>aw v16 w fun v17=>kint .i64 .mul x1 v17 fun v18=>kN x0<|ai 2 x0 fun v19=>aw v19 w.drew fun v20=>kG (w.drew=w.drew)<|kN x0<|ai 1 x0 fun v21=>aw v21 w.drew fun v22=>kG (w.drew=w.drew)<|kint .i64 .add v18 v22 fun v23=>ksl (some (.slice 3)) (some 1) v20 (some v18) (some v23) fun v24=>Q (.tuple #[v24,.nilIface]) w.drew
def yI x0 x1 x12 (Q:PQ) w:=kB x12 fun b25=>aA b25 (aw (.pointer (some ⟨11,0,none⟩)) w fun v13=>ae Tryz.prog 198 #[v13] w fun v14 w15=>Q (.tuple #[.slice none 0 0,v14]) w15) (Jm x0 x1 Q w)
def Nu x0 x1 (Q:PQ) w:=keq Tryz.prog .eql 266 false true x0 (.pointer none) w fun v1 w2=>kB v1 fun b26=>aA b26 (aw (.pointer (some ⟨2,0,none⟩)) w2 fun v3=>ae Tryz.prog 198 #[v3] w2 fun v4 w5=>Q (.tuple #[.slice none 0 0,v4]) w5) (kint .i64 .lss x1 (.int .i64 0) fun v6=>kB v6 fun b7=>aA (!b7) (kN x0<|ai 3 x0 fun v8=>aw v8 w2 fun v9=>aU v9 fun v10=>kint .i64 .geq x1 v10 fun v12=>yI x0 x1 v12 Q w2) (yI x0 x1 (.bool true) Q w2))
theorem Dp (h:Nu x0 x1 Q w):af Tryz.prog 181 #[x0,x1] w Q :=
 ax (c:=Tryz.f181.body.get rfl) [] Tryz.func181 rfl rfl (args:=[x0,x1]) rfl (by kernel_rfl) h
def Jn (x0 x3 x12 x13:Value) x14 (J2:Value→World→Prop) (Q:PQ) w:=kint .i64 .add x14 (.int .i64 1) fun v13=>J2 v13 w
def yJ x0 x3 x12 x13 x14 (J2:Value→World→Prop) (Q:PQ) w:=bz (some (.slice 3)) (some 1) x12 x14 fun v10=>aw v10 w fun v11=>kint .i64 .neq v11 (.int .i64 0) fun v12=>kB v12 fun b14=>aA b14 (Q (.bool false) w) (Jn x0 x3 x12 x13 x14 J2 Q w)
def yK x0 x3 (Q:PQ) (w:World):=ai 0 x3 fun v15=>aw v15 w.drew fun v16=>kG (w.drew=w.drew)<|kN x0<|ai 0 x0 fun v17=>aw v17 w.drew fun v18=>kG (w.drew=w.drew)<|kint .i64 .eql v16 v18 fun v19=>Q v19 w.drew
def yL x14 x0 x3 x12 x13 (J2:Value→World→Prop) (Q:PQ) w:=kint .i64 .lss x14 x13 fun v9=>kB v9 fun b20=>aA b20 (yJ x0 x3 x12 x13 x14 J2 Q w) (yK x0 x3 Q w)
def Nv x0 x1 (Q:PQ) w:=knew (Value.cells x1) 95 w fun v1 w2=>ai 1 v1 fun v3=>kN x0<|ai 1 x0 fun v4=>aw v4 w2 fun v5=>ksl (some (.array 4 3)) (some 1) v3 (some v5) none fun v6=>aU v6 fun v7=>kL fun(I:Value→World→Prop) (μ:Value→World→Nat)=>I (.int .i64 0) w2∧∀(x14:Value) (w1:World),I x14 w1→yL x14 x0 v1 v6 v7 (fun y14 w2=>I y14 w2∧μ y14 w2<μ x14 w1) Q w1
theorem Dq (h:Nv x0 x1 Q w):af Tryz.prog 199 #[x0,x1] w Q :=
 ax (c:=Tryz.f199.body.get rfl) [(2,[14])] Tryz.func199 rfl rfl (args:=[x0,x1]) rfl (by kernel_rfl) h
def Nw x0 x1 x2 (Q:PQ) w:=knew #[.int .i64 0,.int .i64 0,.int .i64 0,.int .i64 0,.int .i64 0,.int .i64 0] 95 w fun v1 w2=>kN x0<|ai 0 x0 fun v3=>aw v3 w2.drew fun v4=>kG (w2.drew=w2.drew)<|kN x0<|ai 3 x0 fun v5=>aw v5 w2.drew fun v6=>kG (w2.drew=w2.drew)<|bz (some (.slice 3)) (some 1) v6 x1 fun v7=>aw v7 w2.drew fun v8=>kG (w2.drew=w2.drew)<|aP [.int .i64 0,.int .i64 0,.int .i64 0,.int .i64 0,.int .i64 0,.int .i64 0] [(0,1,v4),(5,1,v8)] fun v9=>knew #[.int .i64 0,.int .i64 0,.int .i64 0,.int .i64 0,.int .i64 0,.int .i64 0] 95 w2.drew fun v10 w11=>kG (aw v7 w11 fun v22=>v22=v8∧w11=w11)<|kG (aw v5 w11 fun v21=>v21=v6∧w11=w11)<|kG (aw v3 w11 fun v20=>v20=v4∧w11=w11)<|bj 6 v10 v9 w11 fun w12=>ai 1 v10 fun v13=>ksl (some (.array 4 3)) (some 1) v13 none none fun v14=>ksem Tryz.prog (Builtin.copy_ #[49,49] 0 #[v14,x2]) w12 fun v15 w16=>aB 6 v10 w16 fun v17=>bj 6 v1 v17 w16 fun w18=>aB 6 v1 w18 fun v19=>Q v19 w18
theorem Dr (h:Nw x0 x1 x2 Q w):af Tryz.prog 182 #[x0,x1,x2] w Q :=
 ax (c:=Tryz.f182.body.get rfl) [] Tryz.func182 rfl rfl (args:=[x0,x1,x2]) rfl (by kernel_rfl) h
def yM x0 x3 (Q:PQ) (w:World):=kN x0<|ai 2 x0 fun v15=>aw v15 w.drew fun v16=>kG (w.drew=w.drew)<|ai 1 x3 fun v17=>kN x0<|ai 1 x0 fun v18=>aw v18 w.drew fun v19=>kG (w.drew=w.drew)<|ksl (some (.array 4 3)) (some 1) v17 none (some v19) fun v20=>ksem Tryz.prog (Builtin.append_ #[49,49] 0 #[v16,v20]) w.drew fun v21 w22=>kN x0<|ai 2 x0 fun v23=>bj 1 v23 v21 w22 fun w24=>kN x0<|ai 3 x0 fun v25=>aw v25 w24.drew fun v26=>kG (w24.drew=w24.drew)<|ai 5 x3 fun v27=>aw v27 w24.drew fun v28=>kG (w24.drew=w24.drew)<|ay [.int .i64 0] 1 [(0,1,v28)] 3 w24.drew fun v29 w30=>kG (aw v25 w30 fun v40=>v40=v26∧w30=w30)<|ksem Tryz.prog (Builtin.append_ #[49,49] 0 #[v26,v29]) w30 fun v31 w32=>kN x0<|ai 3 x0 fun v33=>bj 1 v33 v31 w32 fun w34=>kN x0<|ai 3 x0 fun v35=>aw v35 w34 fun v36=>aU v36 fun v37=>kint .i64 .sub v37 (.int .i64 1) fun v39=>Q (.tuple #[v39,.nilIface]) w34
def Nx x0 x1 (Q:PQ) w:=knew (Value.cells x1) 95 w fun v1 w2=>keq Tryz.prog .eql 266 false true x0 (.pointer none) w2 fun v3 w4=>kB v3 fun b42=>aA b42 (aw (.pointer (some ⟨2,0,none⟩)) w4 fun v5=>ae Tryz.prog 198 #[v5] w4 fun v6 w7=>Q (.tuple #[.int .i64 0,v6]) w7) (aB 6 v1 w4 fun v8=>ae Tryz.prog 199 #[x0,v8] w4 fun v9 w10=>kun .not (some .bool) v9 fun v11=>kB v11 fun b41=>aA b41 (aw (.pointer (some ⟨3,0,none⟩)) w10 fun v12=>ae Tryz.prog 198 #[v12] w10 fun v13 w14=>Q (.tuple #[.int .i64 0,v13]) w14) (yM x0 v1 Q w10))
theorem Ds (h:Nx x0 x1 Q w):af Tryz.prog 167 #[x0,x1] w Q :=
 ax (c:=Tryz.f167.body.get rfl) [] Tryz.func167 rfl rfl (args:=[x0,x1]) rfl (by kernel_rfl) h
def Jo x0 x1 x4 x6 (Q:PQ) w:=ae Tryz.prog 182 #[x0,x1,x6] w fun v12 w13=>bj 6 x4 v12 w13 fun w14=>aB 6 x4 w14 fun v15=>Q (.tuple #[v15,.nilIface]) w14
def Ny x0 x1 (Q:PQ) w:=knew #[.int .i64 0,.int .i64 0,.int .i64 0,.int .i64 0,.int .i64 0,.int .i64 0] 95 w fun v1 w2=>ae Tryz.prog 181 #[x0,x1] w2 fun v3 w4=>aE v3 0 fun v5=>aE v3 1 fun v6=>keq Tryz.prog .neq 37 false true v6 .nilIface w4 fun v7 w8=>kB v7 fun b16=>aA b16 (aP [.int .i64 0,.int .i64 0,.int .i64 0,.int .i64 0,.int .i64 0,.int .i64 0] [] fun v9=>bj 6 v1 v9 w8 fun w10=>aB 6 v1 w10 fun v11=>Q (.tuple #[v11,v6]) w10) (Jo x0 x1 v1 v5 Q w8)
theorem Dt (h:Ny x0 x1 Q w):af Tryz.prog 143 #[x0,x1] w Q :=
 ax (c:=Tryz.f143.body.get rfl) [] Tryz.func143 rfl rfl (args:=[x0,x1]) rfl (by kernel_rfl) h
def Jp x0 x1 x2 x3 x4 x10 x12 (Q:PQ) w:=ae Tryz.prog 182 #[x0,x1,x12] w fun v23 w24=>knew #[.int .i64 0,.int .i64 0,.int .i64 0,.int .i64 0,.int .i64 0,.int .i64 0] 95 w24 fun v25 w26=>bj 6 v25 v23 w26 fun w27=>bz (some (.slice 3)) (some 1) x12 x2 fun v28=>bj 1 v28 x3 w27 fun w29=>kN x0<|ai 3 x0 fun v30=>aw v30 w29 fun v31=>bz (some (.slice 3)) (some 1) v31 x1 fun v32=>bj 1 v32 x4 w29 fun w33=>aB 6 v25 w33 fun v34=>bj 6 x10 v34 w33 fun w35=>aB 6 x10 w35 fun v36=>Q (.tuple #[v36,.nilIface]) w35
def pb x0 x1 x2 x3 x4 x10 x12 x26 (Q:PQ) w:=kB x26 fun b37=>aA b37 (aP [.int .i64 0,.int .i64 0,.int .i64 0,.int .i64 0,.int .i64 0,.int .i64 0] [] fun v17=>aw (.pointer (some ⟨3,0,none⟩)) w fun v18=>ae Tryz.prog 198 #[v18] w fun v19 w20=>bj 6 x10 v17 w20 fun w21=>aB 6 x10 w21 fun v22=>Q (.tuple #[v22,v19]) w21) (Jp x0 x1 x2 x3 x4 x10 x12 Q w)
def Jq x0 x1 x2 x3 x4 (Q:PQ) w:=knew #[.int .i64 0,.int .i64 0,.int .i64 0,.int .i64 0,.int .i64 0,.int .i64 0] 95 w fun v1 w2=>ae Tryz.prog 181 #[x0,x1] w2 fun v3 w4=>aE v3 0 fun v5=>aE v3 1 fun v6=>keq Tryz.prog .neq 37 false true v6 .nilIface w4 fun v7 w8=>kB v7 fun b38=>aA b38 (aP [.int .i64 0,.int .i64 0,.int .i64 0,.int .i64 0,.int .i64 0,.int .i64 0] [] fun v9=>bj 6 v1 v9 w8 fun w10=>aB 6 v1 w10 fun v11=>Q (.tuple #[v11,v6]) w10) (kint .i64 .lss x2 (.int .i64 0) fun v12=>kB v12 fun b13=>aA (!b13) (aU v5 fun v14=>kint .i64 .geq x2 v14 fun v16=>pb x0 x1 x2 x3 x4 v1 v5 v16 Q w8) (pb x0 x1 x2 x3 x4 v1 v5 (.bool true) Q w8))
theorem tU (h:Jq x0 x1 x2 x3 x4 Q w):af Tryz.prog 208 #[x0,x1,x2,x3,x4] w Q :=
 ax (c:=Tryz.f208.body.get rfl) [] Tryz.func208 rfl rfl (args:=[x0,x1,x2,x3,x4]) rfl (by kernel_rfl) h
end
section
attribute [local irreducible] kO kB bG bH kN kG aA ai aw aB bj knew bB aP ay aE bk aD aU bC bD a8 kbool kint kstr keq kun ksl bz cQ kta kmk kmm ksem ksemU bd aI aL ae kL
inductive kU where
 | store | sch | spots | tabs | roll | places | row | atlas | nodes | amap
 | node (i:Nat) | table (i:Nat) | trows (i:Nat) | tmap (i:Nat)
 | col (i c:Nat) | ccells (i c:Nat) | cticks (i c:Nat)
abbrev dd:=Nat→Option kU
def FP (o:dd) (T:kU→Prop) (k:Nat):Prop:=∃t,o k=some t∧T t
def bN (w:World) (o o':dd):Prop:=∀k,k<w.heap.size→o' k=o k
def ext (o:dd) (n:Nat) (t:kU):dd:=fun k=>if k<n then o k else some t
theorem bN.refl (w:World) (o:dd):bN w o o:=fun _ _=>rfl
theorem bN.ext (w:World) (o:dd) (t:kU):bN w o (ext o w.heap.size t):=fun k hk=>by unfold Proofs.YtcmijampbjcbgaaGreatDoor.ext; rw[if_pos hk]
theorem bN.trans (h:bN w o o') (h':bN w' o' o'') (hs:w.heap.size≤w'.heap.size):bN w o o'':=fun k hk=>(h' k (by omega)).trans (h k hk)
theorem FP.mono {T T':kU→Prop} (h:∀t,T t→T' t) {k:Nat} (hk:FP o T k):FP o T' k:=by
 obtain⟨t,h1,h2⟩:=hk;exact⟨t,h1,h t h2⟩
theorem aH.labs {w w1 w2:World} {o o1:dd} {T:kU→Prop} (h:aH (FP o T) w w1) (hl:bN w o o1) (h':aH (FP o1 T) w1 w2):aH (FP o T) w w2:=by
 refine h.trans' (h'.mono fun k hk hf=>?_);rcases Nat.lt_or_ge k w.heap.size with hlt | hge
 ·left;obtain⟨t,h1,h2⟩:=hf;exact⟨t,by rw[←hl k hlt]; exact h1,h2⟩
 ·exact .inr hge
def nV (n:Int):Value:=.int .i64 n
theorem tV (l:List Int):oneCells (l.map nV)=true:=qA nV (fun _=>rfl) l
def Part.vals (p:Part):List Int:=[p.v0,p.v1,p.v2,p.v3]
def Part.clean (p:Part) (wd:Nat):Prop:=∀x∈p.vals.drop wd,x=0
def cellsF (wd:Nat) (p:Part):List Value:=(p.vals.take wd).map nV
def tickV (p:Part):Value:=nV p.tick
theorem cH (h:wd≤4) (p:Part):(cellsF wd p).length=wd:=by
 simp[cellsF,Part.vals]; omega
theorem tW:dM Tryz.prog 266=true:=by kernel_rfl
theorem Qw:Qs Tryz.prog 49=true:=by kernel_rfl
def ju (i c:Nat) (t:kU):Prop:=t=.col i c∨t=.ccells i c∨t=.cticks i c
def dF (o:dd) (w:World) (b i c wd:Nat) (rows:List Part):Prop :=
 o b=some (.col i c)∧1≤wd∧wd≤4∧c<16∧rows.length≤1000000∧(∀p∈rows,p.comp=c∧p.clean wd) ∧
 ∃cv tv,aX w b=some (.cells #[.int .i64 c,.int .i64 wd,cv,tv] 339)∧bV w cv 1 (rows.flatMap (cellsF wd))∧bV w tv 1 (rows.map tickV)∧(∀k,bf cv k→o k=some (.ccells i c))∧(∀k,bf tv k→o k=some (.cticks i c))
theorem dF.frame {o o':dd} (h:dF o w b i c wd rows) {fp:Nat→Prop} (hm:aH fp w w') (hf:∀k t,o k=some t→ju i c t→¬fp k) (ho:bN w o o'):dF o' w' b i c wd rows:=by
 obtain⟨h1,h2,h3,h4,h5,h6,cv,tv,hb,hc,ht,hcl,htl⟩:=h;refine⟨by rw[ho b (aC hb)]; exact h1,h2,h3,h4,h5,h6,cv,tv,hm.get hb (hf b _ h1 (.inl rfl)),hc.mod hm fun k hk=>hf k _ (hcl k hk) (.inr (.inl rfl)),ht.mod hm fun k hk=>hf k _ (htl k hk) (.inr (.inr rfl)),fun k hk=>?_,fun k hk=>?_⟩
 ·rw[ho k (hc.vblk_lt hk)]; exact hcl k hk
 ·rw[ho k (ht.vblk_lt hk)]; exact htl k hk
theorem dF.same (h:dF o w b i c wd rows) (hm:Same w w'):dF o w' b i c wd rows:=h.frame hm (fun _ _ _ _ h=>h) (bN.refl _ _)
theorem yN {p:Part} (hwd:wd≤4) (h:p.clean wd):setAll (cellsF wd p) #[.int .i64 p.comp,.int .i64 0,.int .i64 0,.int .i64 0,.int .i64 0,.int .i64 p.tick] 1=p.cells.toArray:=by
 have hw:wd=0∨wd=1∨wd=2∨wd=3∨wd=4:=by omega
 unfold Part.clean Part.vals at h;rcases hw with rfl | rfl | rfl | rfl | rfl<;>simp[cellsF,Part.vals,nV,Part.cells]at h ⊢<;>simp[h]
structure lk (w:World) (b wd:Nat) (c:Nat) (rows:List Part) (n:Nat) (bc cp lt bt ct:Nat) (arr arrt:Array Value) (tc tt:TypeId):Prop where
 col:aX w b=some (.cells #[.int .i64 c,.int .i64 wd,.slice (some ⟨bc,0,none⟩) (rows.length*wd) cp,.slice (some ⟨bt,0,none⟩) rows.length ct] 339)
 cells:aX w bc=some (.cells arr tc)
 ticks:aX w bt=some (.cells arrt tt)
 ccap:rows.length*wd≤cp
 at_:(arr.toList.take (rows.length*wd))=rows.flatMap (cellsF wd)
 att:(arrt.toList.take rows.length)=rows.map tickV
 csz:rows.length*wd≤arr.size
 tsz:rows.length≤arrt.size
 tcap:rows.length≤ct
theorem dF.view {o:dd} (h:dF o w b i c wd rows) (hne:0<rows.length) :
  ∃bc cp bt ct arr arrt tc tt,lk w b wd c rows 0 bc cp 0 bt ct arr arrt tc tt∧o bc=some (.ccells i c)∧o bt=some (.cticks i c) ∧
   bV w (.slice (some ⟨bc,0,none⟩) (rows.length*wd) cp) 1 (rows.flatMap (cellsF wd))∧bV w (.slice (some ⟨bt,0,none⟩) rows.length ct) 1 (rows.map tickV):=by
 obtain⟨h1,h2,h3,h4,h5,h6,cv,tv,hb,hc,ht,hcl,htl⟩:=h;have hcl':(rows.flatMap (cellsF wd)).length=rows.length*wd:=flat_len _ wd (cH h3) rows;have hpos:1*1≤rows.length*wd:=Nat.mul_le_mul hne h2;obtain⟨bc,n1,cp,arr,tc,rfl,hbc,l1,s1,q1,_,e1⟩:=hc.view (by intro e; rw[e]at hcl'; simp at hcl'; omega);obtain⟨bt,n2,ct,arrt,tt,rfl,hbt,l2,s2,q2,_,e2⟩:=ht.view (by intro e; have:=congrArg List.length e; simp at this; rw[this]at hne; simp at hne);obtain rfl:n1=rows.length*wd:=by omega
 obtain rfl:n2=rows.length:=by simpa using l2.symm
 rw[Nat.mul_one]at e1 e2 s1 s2;exact⟨bc,cp,bt,ct,arr,arrt,tc,tt,⟨hb,hbc,hbt,q1,e1,e2,by omega,by omega,q2⟩,hcl bc ⟨_,_,_,rfl⟩,htl bt ⟨_,_,_,rfl⟩,hc,ht⟩
theorem lk.mod {fp:Nat→Prop} {tc tt:TypeId} (h:lk w b wd c rows n0 bc cp lt bt ct arr arrt tc tt) (hm:aH fp w w') (h1:¬fp b) (h2:¬fp bc) (h3:¬fp bt):lk w' b wd c rows n0 bc cp lt bt ct arr arrt tc tt :=
 ⟨hm.get h.col h1,hm.get h.cells h2,hm.get h.ticks h3,h.ccap,h.at_,h.att,h.csz,h.tsz,h.tcap⟩
theorem lk.same {tc tt:TypeId} (h:lk w b wd c rows n0 bc cp lt bt ct arr arrt tc tt) (hm:Same w w'):lk w' b wd c rows n0 bc cp lt bt ct arr arrt tc tt:=h.mod hm (fun h=>h) (fun h=>h) (fun h=>h)
theorem lk.tick {tc tt:TypeId} (h:lk w b wd c rows n0 bc cp lt bt ct arr arrt tc tt) {n:Nat} (hn:n<rows.length):arrt[n]?=some (nV rows[n].tick):=by
 have e:=congrArg (fun l:List Value=>l[n]?) h.att;simp only[List.getElem?_take_of_lt hn,List.getElem?_map,List.getElem?_eq_getElem hn,Option.map_some]at e;simpa [tickV] using e
theorem kq (h:dF o w b i c wd rows) {n:Nat} (hn:n<rows.length) {bc cp bt ct:Nat} {arr arrt:Array Value} {tc tt:TypeId} (hv:lk w b wd c rows 0 bc cp 0 bt ct arr arrt tc tt) :
  af Tryz.prog 181 #[.pointer (some ⟨b,0,none⟩),.int .i64 n] w fun v w'=>v=.tuple #[.slice (some ⟨bc,n*wd,none⟩) wd (cp-n*wd),.nilIface]∧Same w w':=by
 obtain⟨h1,h2,h3,h4,h5,h6,_⟩:=h;have hb:=hv.col;have hnw:(n+1)*wd≤rows.length*wd:=Nat.mul_le_mul_right _ hn;have hcap:=hv.ccap;have hbig:rows.length*wd≤1000000*4:=Nat.mul_le_mul h5 h3;rw[Nat.add_mul,Nat.one_mul]at hnw;refine Dp ?_;unfold Nu;rw[aJ tW];refine ac ?_;refine az rfl ?_;refine aM ?_;refine ac ?_;refine aN rfl ?_;refine aq ?_;refine aa ?_;refine aj hb rfl ?_;refine aK ?_;refine bI ?_;refine ac ?_;refine az (bT (by omega)) ?_;refine aq ?_;refine aa ?_;refine aj hb rfl ?_;have hmul:IntKind.i64.wrap ((n:Int)*(wd:Int))=((n*wd:Nat):Int):=by
  rw[←Int.natCast_mul];rw[dV (by omega) (by omega)]
 rw[dL,hmul];have hb:aX w.drew b=_:=hb;have hw:=(aH.refl (fun _=>False) w).drew;generalize w.drew=wd1 at *;refine aq ?_;refine aa ?_;refine aj hb rfl ?_;refine ah rfl ?_;refine aq ?_;refine aa ?_;refine aj hb rfl ?_;refine ah rfl ?_;refine aY (by omega) (by omega) ?_;rw[ff rfl rfl];refine ah (by simp only[loV_int,hiV_int]; omega) ?_;simp only[loV_int,hiV_int,Int.toNat_natCast,Nat.mul_one];rw[if_neg (by omega)];simp only[Option.map_some,add_mk,Nat.zero_add];rw[show((((n*wd:Nat):Int)+(wd:Int)).toNat-n*wd)=wd by omega];exact⟨rfl,hw⟩
theorem me (h:dF o w b i c wd rows) {n:Nat} (hn:n<rows.length) {bc cp bt ct:Nat} {arr arrt:Array Value} {tc tt:TypeId} (hv:lk w b wd c rows 0 bc cp 0 bt ct arr arrt tc tt) (cpp:Nat) :
  af Tryz.prog 182 #[.pointer (some ⟨b,0,none⟩),.int .i64 n,.slice (some ⟨bc,n*wd,none⟩) wd cpp] w fun v w'=>v=.agg rows[n].cells.toArray∧Same w w':=by
 obtain⟨h1,h2,h3,h4,h5,h6,_⟩:=h;have hcl:=h6 _ (List.getElem_mem hn);have htick:=hv.tick hn;have hb:=hv.col;have hbc:=hv.cells;have hbt:=hv.ticks;have hnw:(n+1)*wd≤rows.length*wd:=Nat.mul_le_mul_right _ hn;rw[Nat.add_mul,Nat.one_mul]at hnw;have hcsz:=hv.csz;have hcells:(arr.toList.drop (n*wd)).take wd=cellsF wd rows[n]:=by
  have e:=d5 (cellsF wd) wd (cH h3) rows n hn;rw[←hv.at_,List.drop_take,List.take_take,Nat.min_eq_left (by omega)]at e;exact e
 refine Dr ?_;unfold Nw;refine ar fun w2 h2' hs2 hb2=>?_;have m2:Same w w2.drew:=h2'.drew;have hb2:aX w2.drew w.heap.size=_:=hb2;have hs2:w2.drew.heap.size=w.heap.size+1:=hs2;generalize w2.drew=wa at *;have hba:=m2.get hb (fun h=>h);have hbta:=m2.get hbt (fun h=>h);refine aq ?_;refine aa ?_;refine aj hba rfl ?_;refine ah rfl ?_;refine aq ?_;refine aa ?_;refine aj hba rfl ?_;refine ah rfl ?_;rw[ce];refine ah (by omega) ?_;rw[add_mk];refine ao (v:=nV rows[n].tick) hbta (by simpa using htick) ?_;refine ah rfl ?_;refine aW (cs:=[.int .i64 c,.int .i64 0,.int .i64 0,.int .i64 0,.int .i64 0,nV rows[n].tick]) rfl ?_;refine ar fun wb hb' hsb hbb=>?_;have hbab:=hb'.get hba (fun h=>h);have hbtb:=hb'.get hbta (fun h=>h);refine ah (ao (v:=nV rows[n].tick) hbtb (by simpa using htick) ⟨rfl,rfl⟩) ?_;refine ah (aj hbab rfl ⟨rfl,rfl⟩) ?_;refine ah (aj hbab rfl ⟨rfl,rfl⟩) ?_;refine aQ (vs:=[.int .i64 c,.int .i64 0,.int .i64 0,.int .i64 0,.int .i64 0,nV rows[n].tick]) hbb rfl rfl rfl (by simp) (by simp) fun wc hc hsc hbc'=>?_;have hbc':aX wc wa.heap.size=some (.cells #[.int .i64 c,.int .i64 0,.int .i64 0,.int .i64 0,.int .i64 0,nV rows[n].tick] 95):=hbc';have mc:Same w wc:=m2.trans (aH.after hb' hc (fun b hb=>by omega));refine aa ?_;refine qt ?_;have hsl:aZ wc (some ⟨bc,n*wd,none⟩) wd 1 (cellsF wd rows[n]):=⟨by rw[cH h3]; omega,.inr ⟨bc,n*wd,arr,tc,_,rfl,mc.get hbc (fun h=>h),by rw[Nat.mul_one]; exact hcells⟩⟩
 refine vh Qw hbc' hsl (tV _) (by rw[show min wd 4=wd by omega]; simp; omega) fun wd' hd hsd hbd=>?_;rw[show min wd 4=wd by omega,show(cellsF wd rows[n]).take wd=cellsF wd rows[n]from List.take_of_length_le (by rw[cH h3]; omega),show(Value.int .i64 (c:Int))=.int .i64 rows[n].comp by rw[hcl.1],show nV rows[n].tick=.int .i64 rows[n].tick from rfl,yN h3 hcl.2]at hbd;have md:Same w wd':=mc.trans' (hd.mono fun k hk e=>.inr (by have:=m2.size; omega));refine au hbd rfl (by omega) ?_;have hb2d:aX wd' w.heap.size=some (.cells #[.int .i64 0,.int .i64 0,.int .i64 0,.int .i64 0,.int .i64 0,.int .i64 0] 95):=by
  have e1:=hb'.get hb2 (fun h=>h);have e2:=hc.get e1 (by omega);exact hd.get e2 (by omega)
 refine aQ (vs:=rows[n].cells) hb2d rfl rfl rfl (by simp) (by simp[Part.cells]) fun we he hse hbe=>?_;have hbe:aX we w.heap.size=some (.cells rows[n].cells.toArray 95):=hbe;refine au hbe rfl (by omega) ?_;exact⟨rfl,md.trans' (he.mono fun k _ e=>.inr (by omega))⟩
theorem n7 (h:dF o w b i c wd rows) {n:Nat} (hn:n<rows.length) :
  af Tryz.prog 143 #[.pointer (some ⟨b,0,none⟩),.int .i64 n] w fun v w'=>v=.tuple #[.agg rows[n].cells.toArray,.nilIface]∧Same w w':=by
 refine Dt ?_;unfold Ny;refine ar fun w2 h2 hs2 hb2=>?_;have hC:=h.same h2;obtain⟨bc,cp,bt,ct,arr,arrt,tc,tt,hv,_⟩:=hC.view (by omega);refine ab (kq hC hn hv) ?_;rintro v w4 ⟨rfl,h4⟩;have m4:=h2.trans h4;have hb4:=h4.get hb2 (fun h=>h);refine ak rfl ?_;refine ak rfl ?_;rw[aV bU];refine ac ?_;refine az rfl ?_;have hC4:=hC.same h4;have hv4:=hv.same h4;refine ab (me hC4 hn hv4 _) ?_;rintro v w13 ⟨rfl,h13⟩;have hb13:=h13.get hb4 (fun h=>h);refine aQ (vs:=rows[n].cells) hb13 rfl rfl rfl (by simp) (by simp[Part.cells]) fun we he hse hbe=>?_;have hbe:aX we w.heap.size=some (.cells rows[n].cells.toArray 95):=hbe;refine au hbe rfl (by omega) ?_;exact⟨rfl,(m4.trans h13).trans' (he.mono fun k _ e=>.inr (by omega))⟩
theorem qF {c wd:Nat} {rows:List Part} {n:Nat} {x:Part} (h:∀p∈rows,p.comp=c∧p.clean wd) (hx:x.comp=c∧x.clean wd):∀p∈rows.set n x,p.comp=c∧p.clean wd:=by
 intro p hp;rcases List.mem_or_eq_of_mem_set hp with h1 | rfl
 ·exact h p h1
 ·exact hx
theorem dF.write {o:dd} {w w':World} {b i c wd:Nat} {rows:List Part} (h:dF o w b i c wd rows) {n:Nat} (hn:n<rows.length) {bc cp bt ct:Nat} {arr arrt:Array Value} {tc tt:TypeId} (hv:lk w b wd c rows 0 bc cp 0 bt ct arr arrt tc tt)
  (x:Part) (hx:x.comp=c∧x.clean wd) (hcl:o bc=some (.ccells i c)) (htl:o bt=some (.cticks i c)) (hO1:bV w (.slice (some ⟨bc,0,none⟩) (rows.length*wd) cp) 1 (rows.flatMap (cellsF wd))) (hO2:bV w (.slice (some ⟨bt,0,none⟩) rows.length ct) 1 (rows.map tickV))
  (hb:aX w' b=aX w b) (hbc:aX w' bc=some (.cells (setAll (cellsF wd x) arr (n*wd)) tc)) (hbt:aX w' bt=some (.cells (setAll [tickV x] arrt n) tt)):dF o w' b i c wd (rows.set n x):=by
 obtain⟨h1,h2,h3,h4,h5,h6,_⟩:=h;have hnw:(n+1)*wd≤rows.length*wd:=Nat.mul_le_mul_right _ hn;rw[Nat.add_mul,Nat.one_mul]at hnw;have hcl':(rows.flatMap (cellsF wd)).length=rows.length*wd:=flat_len _ wd (cH h3) rows;refine⟨h1,h2,h3,h4,by simpa using h5,qF h6 hx,.slice (some ⟨bc,0,none⟩) (rows.length*wd) cp,.slice (some ⟨bt,0,none⟩) rows.length ct,by rw[hb]; exact hv.col,?_,?_,?_,?_⟩
 ·have:=hO1.put (us:=cellsF wd x) (j:=n*wd) hv.cells hbc (by rw[hcl',cH h3]; omega);rw[lY (cH h3) rows n x hn];rw[cH h3]at this;exact this
 ·have:=hO2.put (us:=[tickV x]) (j:=n) hv.ticks hbt (by simp; omega);rw[List.map_set];have e:(rows.map tickV).set n (tickV x)=(rows.map tickV).take n++[tickV x]++(rows.map tickV).drop (n+1):=by
   rw[List.set_eq_take_append_cons_drop,if_pos (by simpa using hn)]; simp
  rw[e]; exact this
 ·rintro k ⟨_,_,_,e⟩; cases e; exact hcl
 ·rintro k ⟨_,_,_,e⟩; cases e; exact htl
def Part.setCell (p:Part) (cell:Nat) (v tick:Int):Part:=match cell with
 | 0=>{ p with v0:=v,tick:=tick }
 | 1=>{ p with v1:=v,tick:=tick }
 | 2=>{ p with v2:=v,tick:=tick }
 | _=>{ p with v3:=v,tick:=tick }
theorem e7 (p:Part) (cell:Nat) (v tick:Int):(p.setCell cell v tick).comp=p.comp:=by unfold Part.setCell; split<;>rfl
theorem setCell_tick (p:Part) (cell:Nat) (v tick:Int):(p.setCell cell v tick).tick=tick:=by unfold Part.setCell; split<;>rfl
theorem ji {p:Part} (h:p.clean wd) (hc:cell<wd) (hw:wd≤4) (v tick:Int):(p.setCell cell v tick).clean wd:=by
 have hw':wd=1∨wd=2∨wd=3∨wd=4:=by omega
 have hc':cell=0∨cell=1∨cell=2∨cell=3:=by omega
 unfold Part.clean Part.vals Part.setCell at *;rcases hw' with rfl | rfl | rfl | rfl<;>rcases hc' with rfl | rfl | rfl | rfl<;>first | omega | simp_all
theorem nu {p:Part} (hc:cell<wd) (hw:wd≤4) (v tick:Int):cellsF wd (p.setCell cell v tick)=(cellsF wd p).set cell (nV v):=by
 have hw':wd=1∨wd=2∨wd=3∨wd=4:=by omega
 have hc':cell=0∨cell=1∨cell=2∨cell=3:=by omega
 unfold cellsF Part.vals Part.setCell;rcases hw' with rfl | rfl | rfl | rfl<;>rcases hc' with rfl | rfl | rfl | rfl<;>first | omega | simp
theorem mf {α:Type} (a:Array α) (i:Nat) (v:α):(a.setIfInBounds i v).toList=a.toList.set i v:=by simp
theorem Du {a b:Array Value} (h:a.toList=b.toList):a=b:=Array.ext' h
theorem qG {arr:Array Value} {us:List Value} (hj:j+us.length≤arr.size) (hc:cell<us.length) (hu:(arr.toList.drop j).take us.length=us):arr.setIfInBounds (j+cell) v=setAll (us.set cell v) arr j:=by
 apply Du;rw[mf,dS _ _ _ (by simpa using hj)];apply List.ext_getElem?;intro k;have hgu:∀m,m<us.length→arr.toList[j+m]?=us[m]?:=by
  intro m hm;have:=congrArg (fun l:List Value=>l[m]?) hu;simp only[List.getElem?_take_of_lt hm,List.getElem?_drop]at this;exact this
 have hl:arr.toList.length=arr.size:=Array.length_toList;have l1:(arr.toList.take j).length=j:=by rw[List.length_take]; omega
 rw[List.getElem?_set];rcases Nat.lt_or_ge k j with h1 | h1
 ·rw[if_neg (by omega),List.append_assoc,List.getElem?_append_left (by rw[l1]; exact h1),List.getElem?_take_of_lt h1]
 ·rw[List.append_assoc,List.getElem?_append_right (by rw[l1]; exact h1),l1];rcases Nat.lt_or_ge (k-j) us.length with h2 | h2
  ·rw[List.getElem?_append_left (by simpa using h2),List.getElem?_set];by_cases h3:cell=k-j
   ·rw[if_pos (by omega),if_pos h3,if_pos (by omega),if_pos (by omega)]
   ·rw[if_neg (by omega),if_neg h3,←hgu _ h2,show j+(k-j)=k by omega]
  ·rw[if_neg (by omega),List.getElem?_append_right (by simpa using h2),List.getElem?_drop,List.length_set];rw[show j+us.length+(k-j-us.length)=k by omega]
theorem sh (v:Value) (arr:Array Value) (n:Nat):setAll [v] arr n=arr.setIfInBounds n v:=rfl
def Qx (i c:Nat) (t:kU):Prop:=t=.ccells i c∨t=.cticks i c
theorem vq (h:dF o w b i c wd rows) {n:Nat} (hn:n<rows.length) {cell:Nat} (hcell:cell<wd) (value frame:Int) :
  af Tryz.prog 208 #[.pointer (some ⟨b,0,none⟩),.int .i64 n,.int .i64 cell,.int .i64 value,.int .i64 frame] w fun v w' =>
   v=.tuple #[.agg rows[n].cells.toArray,.nilIface]∧dF o w' b i c wd (rows.set n (rows[n].setCell cell value frame))∧aH (FP o (Qx i c)) w w':=by
 obtain⟨bc,cp,bt,ct,arr,arrt,tc,tt,hv,hbcl,hbtl,hO1,hO2⟩:=h.view (by omega);obtain⟨hlab,hwd1,hwd4,hc16,hlen,hrows,_⟩:=id h;have hnw:(n+1)*wd≤rows.length*wd:=Nat.mul_le_mul_right _ hn;rw[Nat.add_mul,Nat.one_mul]at hnw;have hcsz:=hv.csz;have htsz:=hv.tsz;have nbc:bc≠b:=fun e=>by rw[e,hlab]at hbcl; cases hbcl
 have nbt:bt≠b:=fun e=>by rw[e,hlab]at hbtl; cases hbtl
 have nct:bc≠bt:=fun e=>by rw[e,hbtl]at hbcl; cases hbcl
 have lb:=aC hv.col;have lbc:=aC hv.cells;have lbt:=aC hv.ticks;refine tU ?_;unfold Jq;refine ar fun w2 h2 hs2 hb2=>?_;refine ab (kq (h.same h2) hn (hv.same h2)) ?_;rintro v w4 ⟨rfl,h4⟩;have m4:=h2.trans h4;have hb4:=h4.get hb2 (fun h=>h);refine ak rfl ?_;refine ak rfl ?_;rw[aV bU];refine ac ?_;refine az rfl ?_;refine aM ?_;refine ac ?_;refine aN rfl ?_;refine aK ?_;refine bI ?_;refine ac ?_;refine az (bT (by omega)) ?_;refine ab (me (h.same m4) hn (hv.same m4) _) ?_;rintro v w24 ⟨rfl,h24⟩;have m24:=m4.trans h24;have hb24:=h24.get hb4 (fun h=>h);refine ar fun w26 h26 hs26 hb26=>?_;have m26:=m24.trans h26;have hb26b:=h26.get hb24 (fun h=>h);have hs24:w.heap.size+1≤w24.heap.size:=by have:=h4.size; have:=h24.size; omega
 refine aQ (vs:=rows[n].cells) hb26 rfl rfl rfl (by simp) (by simp[Part.cells]) fun w27 h27 hs27 hb27=>?_;have hb27:aX w27 w24.heap.size=some (.cells rows[n].cells.toArray 95):=hb27;have m27:Same w w27:=m26.trans' (h27.mono fun k _ e=>.inr (by omega));have hv27:=hv.same m27;rw[ce];refine ah (by omega) ?_;rw[add_mk];refine aQ (vs:=[nV value]) hv27.cells rfl rfl rfl (by simp; omega) (by simp) fun w29 h29 hs29 hb29=>?_;have hcol29:=h29.get hv27.col (fun e=>nbc e.symm);have htk29:=h29.get hv27.ticks (fun e=>nct e.symm);refine aq ?_;refine aa ?_;refine aj hcol29 rfl ?_;rw[ce];refine ah (by omega) ?_;rw[add_mk];refine aQ (vs:=[nV frame]) htk29 rfl rfl rfl (by simp; omega) (by simp) fun w33 h33 hs33 hb33=>?_;have hp33:=h33.get (h29.get hb27 (by omega)) (by omega);refine au hp33 rfl (by omega) ?_;have hb33b:=h33.get (h29.get (h27.get hb26b (by omega)) (by omega)) (by omega);refine aQ (vs:=rows[n].cells) hb33b rfl rfl rfl (by simp) (by simp[Part.cells]) fun w35 h35 hs35 hb35=>?_;have hb35:aX w35 w.heap.size=some (.cells rows[n].cells.toArray 95):=hb35;refine au hb35 rfl (by omega) ?_;have hm:aH (fun k=>k=bc∨k=bt) w w35:=by
  have a1:aH (fun k=>k=bc∨k=bt) w w33:=(aH.of_same m27).trans ((h29.mono fun k _ e=>.inl e).trans (h33.mono fun k _ e=>.inr e));exact a1.trans' (h35.mono fun k _ e=>.inr (by omega))
 refine⟨rfl,?_,hm.mono fun k _ e=>?_⟩
 ·have hcl:=hrows _ (List.getElem_mem hn);refine dF.write h hn hv _ ⟨by rw[e7]; exact hcl.1,ji hcl.2 hcell hwd4 value frame⟩ hbcl hbtl hO1 hO2 ?_ ?_ ?_
  ·exact hm.kept b lb (by rintro(e | e); exact nbc e.symm; exact nbt e.symm)
  ·have e1:=h35.get (h33.get hb29 nct) (by omega);rw[e1];have hcells:(arr.toList.drop (n*wd)).take wd=cellsF wd rows[n]:=by
    have e:=d5 (cellsF wd) wd (cH hwd4) rows n hn;rw[←hv.at_,List.drop_take,List.take_take,Nat.min_eq_left (by omega)]at e;exact e
   rw[nu hcell hwd4,sh];have e2:=qG (arr:=arr) (us:=cellsF wd rows[n]) (j:=n*wd) (cell:=cell) (v:=nV value) (by rw[cH hwd4]; omega) (by rw[cH hwd4]; exact hcell) (by rw[cH hwd4]; exact hcells);rw[←e2];simp
  ·have e1:=h35.get hb33 (by omega);rw[e1];simp[tickV,setCell_tick]
 ·rcases e with rfl | rfl
  ·exact⟨_,hbcl,.inl rfl⟩
  ·exact⟨_,hbtl,.inr rfl⟩
theorem vr (o:dd) (w:World) (i c wd:Nat) (hc:c<16) (h1:1≤wd) (h4:wd≤4):af Tryz.prog 151 #[.int .i64 c,.int .i64 wd] w fun v w' =>
  v=.tuple #[.pointer (some ⟨w.heap.size,0,none⟩),.nilIface]∧Same w w'∧w'.heap.size=w.heap.size+1∧dF (ext o w.heap.size (.col i c)) w' w.heap.size i c wd []:=by
 refine Dm ?_;unfold Ns;refine aM ?_;refine ac ?_;refine aN rfl ?_;refine bI ?_;refine ac ?_;refine aN (fG (bT (by omega))) ?_;refine aM ?_;refine ac ?_;refine aN (fG (bT (by omega))) ?_;refine bO ?_;refine ac ?_;refine az (bT (by omega)) ?_;refine aW (cs:=[.int .i64 c,.int .i64 wd,.slice none 0 0,.slice none 0 0]) rfl ?_;refine ar fun w2 hm2 hs2 hb2=>?_;have hb2:aX w2 w.heap.size=some (.cells #[.int .i64 c,.int .i64 wd,.slice none 0 0,.slice none 0 0] 339):=hb2;have nv:∀k,¬bf (.slice none 0 0) k:=by
  rintro k ⟨_,_,_,e⟩; cases e
 exact⟨rfl,hm2,hs2,by simp[ext],h1,h4,hc,by simp,(fun p hp=>by cases hp),_,_,hb2,bV.nil _ _,bV.nil _ _,fun k hk=>absurd hk (nv k),fun k hk=>absurd hk (nv k)⟩
theorem si (h:dF o w b i c wd rows) (p:Part) (hp:p.comp=c∧p.clean wd) :
  af Tryz.prog 199 #[.pointer (some ⟨b,0,none⟩),.agg p.cells.toArray] w fun v w'=>v=.bool true∧Same w w':=by
 obtain⟨h1,h2,h3,h4,h5,h6,cv,tv,hb,_⟩:=id h;refine Dq ?_;unfold Nv;refine ar fun w2 hm2 hs2 hb2=>?_;have hb2:aX w2 w.heap.size=some (.cells p.cells.toArray 95):=hb2;have hbw:=hm2.get hb (fun h=>h);refine aa ?_;refine aq ?_;refine aa ?_;refine aj hbw rfl ?_;refine jt h3 ?_;refine aK ?_;refine cA (4-wd) (fun j x wr=>x=.int .i64 j∧Same w2 wr) ⟨c8 ⟨rfl,aH.refl _ _⟩,fun x wr hx=>?_⟩;obtain⟨j,hj,⟨rfl,hm⟩,hJ⟩:=bK hx;unfold yL;refine aM ?_;refine ac ?_;refine am (fun hlt=>?_) (fun hge=>?_)
 ·have hlt:j<4-wd:=by omega
  unfold yJ;rw[ce];refine ah (by omega) ?_;rw[add_mk,if_neg (by omega)];have hz:p.cells[1+wd*1+((j:Int)).toNat*1]?=some (.int .i64 0):=by
   have hcl:=hp.2;unfold Part.clean Part.vals at hcl;have hw':wd=1∨wd=2∨wd=3:=by omega
   have hj':j=0∨j=1∨j=2:=by omega
   rcases hw' with rfl | rfl | rfl<;>rcases hj' with rfl | rfl | rfl<;>first | omega | (simp at hcl; simp[Part.cells,hcl])
  refine ao (v:=.int .i64 0) (hm.get hb2 (fun h=>h)) ?_ ?_
  ·simpa using hz
  refine cu ?_;refine ac ?_;refine az rfl ?_;refine aY (by omega) (by omega) ?_;rw[a7];exact hJ _ _ hlt ⟨rfl,hm⟩
 ·have hb2r:=hm.get hb2 (fun h=>h);have hbr:=hm.get hbw (fun h=>h);have hm':=(hm2.trans hm).drew;have hb2r:aX wr.drew _=_:=hb2r;have hbr:aX wr.drew _=_:=hbr;unfold yK;generalize wr.drew=wd' at *;refine aa ?_;refine ao (v:=.int .i64 c) hb2r (by simp[Part.cells,hp.1]) ?_;refine ah rfl ?_;refine aq ?_;refine aa ?_;refine aj hbr rfl ?_;refine ah rfl ?_;refine aF ?_;exact⟨by simp,hm'⟩
theorem sj (h:dF o w b i c wd rows) (p:Part) (hp:p.comp=c∧p.clean wd) (hl:rows.length<1000000) :
  af Tryz.prog 167 #[.pointer (some ⟨b,0,none⟩),.agg p.cells.toArray] w fun v w' =>
   v=.tuple #[.int .i64 rows.length,.nilIface]∧∃o',bN w o o'∧dF o' w' b i c wd (rows++[p])∧aH (FP o (ju i c)) w w':=by
 obtain⟨h1,h2,h3,h4,h5,h6,cv,tv,hb,hc,ht,hcl,htl⟩:=id h;have hlb:=aC hb;have hcl':(rows.flatMap (cellsF wd)).length=rows.length*wd:=flat_len _ wd (cH h3) rows;have hbig:rows.length*wd≤1000000*4:=Nat.mul_le_mul h5 h3;refine Ds ?_;unfold Nx;refine ar fun w2 hm2 hs2 hb2=>?_;have hb2:aX w2 w.heap.size=some (.cells p.cells.toArray 95):=hb2;rw[aJ tW];refine ac ?_;refine az rfl ?_;refine au hb2 rfl (by omega) ?_;refine ab (si (h.same hm2) p hp) ?_;rintro v w10 ⟨rfl,h10⟩;have m10:=(hm2.trans h10).drew;have hbp:aX w10.drew w.heap.size=_:=h10.get hb2 (fun h=>h);refine bP ?_;refine ac ?_;refine az rfl ?_;unfold yM;generalize w10.drew=wa at *;have hba:=m10.get hb (fun h=>h);refine aq ?_;refine aa ?_;refine aj hba rfl ?_;refine ah rfl ?_;refine aa ?_;refine aq ?_;refine aa ?_;refine aj hba rfl ?_;refine ah rfl ?_;refine r8 h3 ?_;have hsl:aZ wa (some ⟨w.heap.size,0+1,none⟩) wd 1 (cellsF wd p):=by
  refine⟨by rw[cH h3]; omega,.inr ⟨_,_,_,_,_,rfl,hbp,?_⟩⟩;rw[Nat.mul_one];have hw':wd=1∨wd=2∨wd=3∨wd=4:=by omega
  rcases hw' with rfl | rfl | rfl | rfl<;>rfl
 refine be tQ (by omega) (hc.same m10) (Src.ofSlIs (hk:=jU.choose_spec) 4 hsl (tV _)) (by rw[hcl',cH h3]; omega) (by rw[hcl',cH h3]; omega) ?_;intro v22 w22 ho22 hm22 hf22;have ncb:¬bf cv b:=fun e=>by have:=hcl b e; rw[h1]at this; cases this
 have ntb:¬bf tv b:=fun e=>by have:=htl b e; rw[h1]at this; cases this
 have hb22:=hm22.get hba ncb;have hp22:=hm22.get hbp (fun e=>by have:=hc.vblk_lt e; omega);obtain⟨a',n',c',rfl,_⟩:=ho22.is;refine aq ?_;refine aa ?_;refine bJ hb22 rfl rfl (by simp) fun w24 h24 hs24 hb24=>?_;simp only[List.setIfInBounds_toArray,List.set_cons_succ,List.set_cons_zero]at hb24;have hp24:=h24.get hp22 (by omega);have hsa:=m10.size;have n22:∀k,bf (.slice a' n' c') k→k≠b:=fun k hk e=>by
  subst e;rcases hf22 _ hk with h | h
  ·exact ncb h
  ·omega
 have ho24:=(ho22.mod h24 fun k hk e=>n22 k hk e)
 have ht24:bV w24 tv 1 (rows.map tickV):=((ht.same m10).mod hm22 fun k hk e=>by
  have e1:=htl k hk;have e2:=hcl k e;rw[e1]at e2; cases e2).mod h24 fun k hk e=>ntb (e▸hk)
 have hb24:aX w24.drew b=_:=hb24;have hp24:aX w24.drew _=_:=hp24;have ho24:bV w24.drew _ _ _:=ho24.same ((aH.refl _ _).drew);have ht24:bV w24.drew _ _ _:=ht24.same ((aH.refl _ _).drew);have hA:aH (fun k=>k=b∨bf cv k) w w24.drew:=((aH.of_same m10).trans ((hm22.mono fun k _ h=>.inr h).trans (h24.mono fun k _ h=>.inl h))).drew;have hs24:w24.drew.heap.size=w22.heap.size:=hs24;generalize w24.drew=wb at *;refine aq ?_;refine aa ?_;refine aj hb24 rfl ?_;refine ah rfl ?_;refine aa ?_;refine ao (v:=tickV p) hp24 (by simp[Part.cells,tickV,nV]) ?_;refine ah rfl ?_;refine aR (cs:=[tickV p]) rfl fun w30 h30 hs30 hb30=>?_;have hb30b:=h30.get hb24 (fun h=>h);refine ah (aj hb30b rfl ⟨rfl,rfl⟩) ?_;refine be tQ (by omega) (ht24.same h30) (Src.ofSlIs (hk:=jU.choose_spec) 1 (aZ.blk hb30 rfl) rfl) (by simp; omega) (by simp; omega) ?_;intro v32 w32 ho32 hm32 hf32;have hb32:=hm32.get hb30b ntb;obtain⟨a2,n2,c2,rfl,_,hn2⟩:=ho32.is;have hn2:n2=rows.length+1:=by have:=hn2 rfl; simpa using this
 subst hn2;refine aq ?_;refine aa ?_;refine bJ hb32 rfl rfl (by simp) fun w34 h34 hs34 hb34=>?_;simp only[List.setIfInBounds_toArray,List.set_cons_succ,List.set_cons_zero]at hb34;refine aq ?_;refine aa ?_;refine aj hb34 rfl ?_;refine aK ?_;refine cM (by omega) (by omega) ?_;have hsz:w.heap.size≤wa.heap.size∧wa.heap.size≤w22.heap.size∧w22.heap.size≤w30.heap.size:=⟨hsa,hm22.size,by have:=h30.size; omega⟩
 have n32:∀k,bf (.slice a2 (rows.length+1) c2) k→k≠b:=fun k hk e=>by
  subst e;rcases hf32 _ hk with h | h
  ·exact ntb h
  ·omega
 have hco:∀k,bf (.slice a' n' c') k→¬bf tv k:=fun k hk e=>by
  have e1:=htl k e;rcases hf22 _ hk with h | h
  ·rw[hcl k h]at e1; cases e1
  ·have:=ht.vblk_lt e; omega
 refine⟨by rw[show(((rows.length+1:Nat):Int)-1)=(rows.length:Int) by omega],ext (ext o wa.heap.size (.ccells i c)) w30.heap.size (.cticks i c),?_,⟨?_,h2,h3,h4,by simp; omega,?_,_,_,hb34,?_,?_,?_,?_⟩,?_⟩
 ·intro k hk;unfold ext;rw[if_pos (by omega),if_pos (by omega)]
 ·unfold ext;rw[if_pos (by omega),if_pos (by omega)]; exact h1
 ·intro q hq;rcases List.mem_append.1 hq with h | h
  ·exact h6 q h
  ·obtain rfl:q=p:=by simpa using h
   exact hp
 ·rw[List.flatMap_append,List.flatMap_cons,List.flatMap_nil,List.append_nil];exact((ho24.same h30).mod hm32 hco).mod h34 fun k hk e=>n22 k hk e
 ·rw[List.map_append];exact ho32.mod h34 fun k hk e=>n32 k hk e
 ·intro k hk;have hlt:=ho22.vblk_lt hk;unfold ext;rw[if_pos (by omega)];rcases hf22 _ hk with h | h
  ·have:=hc.vblk_lt h;rw[if_pos (by omega)]; exact hcl k h
  ·rw[if_neg (by omega)]
 ·intro k hk;unfold ext;rcases hf32 _ hk with h | h
  ·have:=ht.vblk_lt h;rw[if_pos (by omega),if_pos (by omega)]; exact htl k h
  ·rw[if_neg (by omega)]
 ·have hB:aH (fun k=>k=b∨bf cv k∨bf tv k) w w34:=(hA.mono fun k _ h=>h.imp id .inl).trans ((aH.of_same h30).trans ((hm32.mono fun k _ h=>.inr (.inr h)).trans (h34.mono fun k _ h=>.inl h)));refine hB.mono fun k _ hk=>?_;rcases hk with rfl | hk | hk
  ·exact⟨_,h1,.inl rfl⟩
  ·exact⟨_,hcl k hk,.inr (.inl rfl)⟩
  ·exact⟨_,htl k hk,.inr (.inr rfl)⟩
end
end Go.Proofs.YtcmijampbjcbgaaGreatDoor
