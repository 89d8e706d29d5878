/-
Lemmas for the statements of this seat: no statement of the seat is proved in this part (5 of 8); the conditions stand in each theorem.
-/
import Derived.Test.YtcmijampbjcbgaaGreatDoorMruns4
import Derived.Test.YtcmijampbjcbgaaGreatDoorProg
set_option autoImplicit true
set_option relaxedAutoImplicit true
set_option linter.unusedSimpArgs false
set_option linter.unusedVariables false
set_option maxRecDepth 100000
namespace Go.Proofs.YtcmijampbjcbgaaGreatDoor
open Go Go.Ev
section
def Hk x1 x2 (Q:PQ) w:=ai 0 x2 fun v16=>aw v16 w fun v17=>ae Tryz.prog 63 #[v17] w fun v18 w19=>aP [.slice none 0 0,.slice none 0 0] [(0,1,v18)] fun v20=>knew #[.slice none 0 0,.slice none 0 0] 70 w19 fun v21 w22=>bj 2 v21 v20 w22 fun w23=>aB 2 v21 w23 fun v24=>aP [.slice none 0 0,.slice none 0 0,.int .i64 0,.slice none 0 0,.int .i64 0,.int .i64 0] [(0,2,v24),(2,1,x1)] fun v25=>knew (Value.cells v25) 133 w23 fun v26 w27=>Q (.tuple #[v26,.nilIface]) w27
def AX x1 x2 x19 (Q:PQ) w:=kB x19 fun b28=>aA b28 (aw (.pointer (some ⟨3,0,none⟩)) w fun v13=>ae Tryz.prog 68 #[v13] w fun v14 w15=>Q (.tuple #[.pointer none,v14]) w15) (Hk x1 x2 Q w)
def Hl x1 x2 (Q:PQ) w:=kint .i64 .lss x1 (.int .i64 0) fun v10=>kB v10 fun b11=>aA (!b11) (kint .i64 .gtr x1 (.int .i64 64) fun v12=>AX x1 x2 v12 Q w) (AX x1 x2 (.bool true) Q w)
def Sb x0 x1 (Q:PQ) w:=knew (Value.cells x0) 70 w fun v1 w2=>aB 2 v1 w2 fun v3=>ae Tryz.prog 67 #[v3] w2 fun v4 w5=>keq Tryz.prog .neq 37 false true v4 .nilIface w5 fun v6 w7=>kB v6 fun b29=>aA b29 (ae Tryz.prog 68 #[v4] w7 fun v8 w9=>Q (.tuple #[.pointer none,v8]) w9) (Hl x1 v1 Q w7)
theorem La (h:Sb x0 x1 Q w):af Tryz.prog 31 #[x0,x1] w Q :=
 ax (c:=Tryz.f31.body.get rfl) [] Tryz.func31 rfl rfl (args:=[x0,x1]) rfl (by kernel_rfl) h
def Sc x0 (Q:PQ) w:=ae Tryz.prog 80 #[(.string ⟨#[111,114,100,101,114,115]⟩),x0] w fun v1 w2=>Q v1 w2
theorem Lb (h:Sc x0 Q w):af Tryz.prog 68 #[x0] w Q :=
 ax (c:=Tryz.f68.body.get rfl) [] Tryz.func68 rfl rfl (args:=[x0]) rfl (by kernel_rfl) h
def AY (Q:PQ) w:=Q (.bool false) w
def pF x3 x5 x23 (Q:PQ) w:=kB x23 fun b24=>aA b24 (ai 3 x3 fun v17=>aw v17 w fun v18=>kint .i64 .geq v18 (.int .i64 0) fun v19=>kB v19 fun b20=>aA b20 (ai 3 x3 fun v21=>aw v21 w fun v22=>kint .i64 .lss v22 x5 fun v23=>Q v23 w) (Q (.bool false) w)) (AY Q w)
def OG x0 x1 (Q:PQ) w:=knew (Value.cells x1) 130 w fun v1 w2=>kN x0<|ai 0 x0 fun v3=>ai 0 v3 fun v4=>aw v4 w2 fun v5=>aU v5 fun v6=>ai 0 v1 fun v8=>aw v8 w2 fun v9=>kint .i64 .eql v9 (.int .i64 1) fun v10=>kB v10 fun b28=>aA b28 (ai 2 v1 fun v11=>aw v11 w2 fun v12=>kint .u32 .shr v12 v6 fun v13=>kint .u32 .eql v13 (.int .u32 0) fun v14=>Q v14 w2) (kint .i64 .eql v9 (.int .i64 2) fun v15=>kB v15 fun b27=>aA b27 (Q (.bool true) w2) (kint .i64 .eql v9 (.int .i64 3) fun v16=>kB v16 fun b26=>aA b26 (pF v1 v6 v16 Q w2) (kint .i64 .eql v9 (.int .i64 4) fun v25=>pF v1 v6 v25 Q w2)))
theorem EC (h:OG x0 x1 Q w):af Tryz.prog 179 #[x0,x1] w Q :=
 ax (c:=Tryz.f179.body.get rfl) [] Tryz.func179 rfl rfl (args:=[x0,x1]) rfl (by kernel_rfl) h
def AZ x0 x3 (Q:PQ) w:=kN x0<|ai 4 x0 fun v28=>aw v28 w fun v29=>kint .i64 .add v29 (.int .i64 1) fun v30=>kN x0<|ai 4 x0 fun v31=>bj 1 v31 v30 w fun w32=>kN x0<|ai 3 x0 fun v33=>aw v33 w32.drew fun v34=>kG (w32.drew=w32.drew)<|aB 4 x3 w32.drew fun v35=>kG (w32.drew=w32.drew)<|ay [.int .i64 0,.int .i64 0,.int .u32 0,.int .i64 0] 1 [(0,4,v35)] 130 w32.drew fun v36 w37=>kG (aw v33 w37 fun v42=>v42=v34∧w37=w37)<|ksem Tryz.prog (Builtin.append_ #[75,75] 0 #[v34,v36]) w37 fun v38 w39=>kN x0<|ai 3 x0 fun v40=>bj 1 v40 v38 w39 fun w41=>Q .nilIface w41
def A0 x0 x1 (Q:PQ) w:=knew (Value.cells x1) 130 w fun v1 w2=>keq Tryz.prog .eql 41 false true x0 (.pointer none) w2 fun v3 w4=>kB v3 fun b45=>aA b45 (aw (.pointer (some ⟨2,0,none⟩)) w4 fun v5=>ae Tryz.prog 68 #[v5] w4 fun v6 w7=>Q v6 w7) (aB 4 v1 w4 fun v8=>ae Tryz.prog 179 #[x0,v8] w4 fun v9 w10=>kun .not (some .bool) v9 fun v11=>kB v11 fun b44=>aA b44 (aw (.pointer (some ⟨3,0,none⟩)) w10 fun v12=>ae Tryz.prog 68 #[v12] w10 fun v13 w14=>Q v13 w14) (kN x0<|ai 4 x0 fun v15=>aw v15 w10.drew fun v16=>kG (w10.drew=w10.drew)<|kN x0<|ai 2 x0 fun v17=>aw v17 w10.drew fun v18=>kG (w10.drew=w10.drew)<|kint .i64 .geq v16 v18 fun v19=>kB v19 fun b43=>aA b43 (kN x0<|ai 5 x0 fun v20=>aw v20 w10.drew fun v21=>kint .i64 .add v21 (.int .i64 1) fun v22=>kN x0<|ai 5 x0 fun v23=>bj 1 v23 v22 w10.drew fun w24=>aw (.pointer (some ⟨4,0,none⟩)) w24 fun v25=>ae Tryz.prog 68 #[v25] w24 fun v26 w27=>Q v26 w27) (AZ x0 v1 Q w10.drew)))
theorem lx (h:A0 x0 x1 Q w):af Tryz.prog 134 #[x0,x1] w Q :=
 ax (c:=Tryz.f134.body.get rfl) [] Tryz.func134 rfl rfl (args:=[x0,x1]) rfl (by kernel_rfl) h
def OH x0 (Q:PQ) w:=kN x0<|ai 3 x0 fun v3=>aw v3 w fun v4=>ae Tryz.prog 57 #[v4] w fun v5 w6=>Q v5 w6
def f26 x0 (Q:PQ) w:=keq Tryz.prog .eql 41 false true x0 (.pointer none) w fun v1 w2=>kB v1 fun b7=>aA b7 (Q (.slice none 0 0) w2) (OH x0 Q w2)
def OI x0 (Q:PQ) w:=kN x0<|ai 5 x0 fun v3=>aw v3 w fun v4=>Q v4 w
def f27 x0 (Q:PQ) w:=keq Tryz.prog .eql 41 false true x0 (.pointer none) w fun v1 w2=>kB v1 fun b5=>aA b5 (Q (.int .i64 0) w2) (OI x0 Q w2)
def OJ x0 (Q:PQ) w:=ay [.int .i64 0,.int .i64 0,.int .u32 0,.int .i64 0] 0 [] 130 w fun v3 w4=>ksem Tryz.prog (Builtin.append_ #[75,75] 0 #[v3,x0]) w4 fun v5 w6=>Q v5 w6
def f57 x0 (Q:PQ) w:=keq Tryz.prog .eql 75 false true x0 (.slice none 0 0) w fun v1 w2=>kB v1 fun b7=>aA b7 (Q (.slice none 0 0) w2) (OJ x0 Q w2)
end
section
def rollF (l:List Bool):Nat:=l.zipIdx.foldl (fun m p=>if p.1 then m |||bitF p.2 else m) 0
theorem mQ (l:List Bool) (x:Bool):rollF (l++[x])=if x then rollF l |||bitF l.length else rollF l:=by
 simp[rollF,List.zipIdx_append]
theorem um {α:Type} (f:Nat→α→Nat) (hf:∀m x,m<4294967296→f m x<4294967296):∀(l:List α) (m:Nat),m<4294967296→l.foldl f m<4294967296
 | [],m,h=>h
 | x::l,m,h=>um f hf l _ (hf m x h)
theorem OK (ha:a<4294967296) (hb:b<4294967296):a |||b<4294967296:=Nat.or_lt_two_pow (n:=32) (by omega) (by omega)
theorem ri (l:List Bool):rollF l<4294967296:=by
 refine um _ (fun m x h=>?_) _ 0 (by omega);split
 ·exact OK h (bitF_lt _)
 ·exact h
def A1 (w:World) (l:List Comp) (x y:Value) (wr:World):Prop:=∃i:Nat,i≤l.length∧y=.int .i64 i∧x=msk (rollF ((l.map (·.rb)).take i))∧Same w wr
theorem sW (l:List Comp) (hn:l.length≤4611686018427387903) (a:Option Addr) (c:Nat) (r:Value) (w:World) (hs:aZ w a l.length 7 (l.flatMap Comp.cells)) (hr:r.cells=#[r]) :
  af Tryz.prog 104 #[.agg #[.slice a l.length c,r],.bool true] w fun v w'=>v=msk (rollF (l.map (·.rb)))∧Same w w':=by
 refine EB ?_;unfold OE;simp -dsimp [Value.cells];refine tK (A1 w l) (fun _ y _=>l.length-(RowKit.intOf y).toNat) ⟨⟨0,by omega,rfl,by simp[rollF,msk],(aH.refl _ _).alloc _⟩,?_⟩;rintro x y wr ⟨i,hi,rfl,rfl,hm⟩;unfold AW;simp -dsimp;refine am (fun hlt=>?_) (fun hge=>?_)
 ·have hlt:i<l.length:=by omega
  obtain⟨b,o,c',t',f',rfl,hb,hle,hcs⟩:=(hs.same hm).at hlt (by omega);rw[d5 Comp.cells 7 (fun _=>rfl) l i hlt]at hcs;have htk:(l.map (·.rb)).take (i+1)=(l.map (·.rb)).take i++[l[i].rb]:=by rw[List.take_succ_eq_append_getElem (by simpa using hlt)]; simp
  have hlen:((l.map (·.rb)).take i).length=i:=by simp; omega
  generalize l[i]=p at *;have hadd:=qx (i:=i) (by omega);unfold AR;simp -dsimp [hlt,hb,hle,hcs,Comp.cells];have hal:∀o,Same w (wr.alloc o):=fun o=>hm.alloc o;cases hrb:p.rb with
  | true =>
   simp -dsimp;refine ab (nY _ _ (ri _) (by omega) (by omega) _) ?_;rintro v w' ⟨rfl,rfl⟩;unfold pE;simp -dsimp [hadd];refine⟨⟨i+1,by omega,rfl,?_,hal _⟩,by simp[RowKit.intOf]; omega⟩;rw[htk,mQ,hrb,if_pos rfl,hlen]
  | false =>
   simp -dsimp;unfold pE;simp -dsimp [hadd];refine⟨⟨i+1,by omega,rfl,?_,hal _⟩,by simp[RowKit.intOf]; omega⟩;rw[htk,mQ,hrb,if_neg (by decide)]
 ·have:i=l.length:=by omega
  subst this;unfold AU;exact⟨by rw[List.take_of_length_le (by simp)],hm⟩
theorem nE (l:List Comp) (hn:l.length≤4611686018427387903) (a:Option Addr) (c:Nat) (r:Value) (w:World) (hs:aZ w a l.length 7 (l.flatMap Comp.cells)) (hr:r.cells=#[r]) :
  af Tryz.prog 66 #[.agg #[.slice a l.length c,r]] w fun v w'=>v=msk (rollF (l.map (·.rb)))∧Same w w':=by
 refine K9 ?_;unfold R9;simp -dsimp [Value.cells];refine ab (sW l hn a c r _ (hs.same (d6 _ _)) hr) ?_;rintro v w' ⟨rfl,hm⟩;exact⟨rfl,(d6 _ _).trans hm⟩
end
section
attribute [local irreducible] kO kB bG bH kN kG aA ai aw aB bj knew bB aP ay aE bk aD aU bC bD a8 kbool kint kstr keq kun ksl bz cQ kta kmk kmm ksem ksemU bd aI aL ae kL
end
section
structure OrdM where
 kind:Int
 id:Int
 mask:Nat
 comp:Int
def OrdM.cells (x:OrdM):List Value:=[.int .i64 x.kind,.int .i64 x.id,msk x.mask,.int .i64 x.comp]
def OrdM.fit (n:Nat) (x:OrdM):Prop:=(x.kind=1∧x.mask<2^n)∨x.kind=2∨((x.kind=3∨x.kind=4)∧0≤x.comp∧x.comp<n)
theorem fR (S:SM) (B:BdM):(bX S B).length=B.l.length:=by unfold bX; simp
theorem iw.full (h:iw S B):S.free=[]↔¬(bX S B).length<S.gens.length:=by
 have:=h.cnt;rw[fR];constructor
 ·intro e;rw[e]at this;simp at this;omega
 ·intro hn;exact List.eq_nil_of_length_eq_zero (by omega)
theorem iw.le (h:iw S B) (hg:S.gens.length≤64):B.l.length≤64:=by
 have:=h.cnt;omega
theorem fS (h:gt V x=some y):y∈V∧((y.1:Nat):Int)=x:=by
 unfold gt at h;refine⟨List.mem_of_find?_eq_some h,?_⟩;have:=List.find?_some h;simpa using this
end
section
def Hm (x5 x18 x19:Value) x20 (J6:Value→World→Prop) (Q:PQ) w:=kint .i64 .add x20 (.int .i64 1) fun v41=>J6 v41 w
def Hn x5 x18 x19 x20 (J6:Value→World→Prop) (Q:PQ) w:=bz (some (.slice 147)) (some 2) x18 x20 fun v20=>aB 2 v20 w fun v21=>knew #[(.string ⟨#[]⟩),.int .i64 0] 147 w fun v22 w23=>bj 2 v22 v21 w23 fun w24=>kN x5<|ai 0 x5 fun v25=>aw v25 w24.drew fun v26=>kG (w24.drew=w24.drew)<|ai 0 v22 fun v27=>aw v27 w24.drew fun v28=>kG (w24.drew=w24.drew)<|ksemU Tryz.prog (Instr.mapUpdate 172 v26 v28 x20) w24.drew fun _ w30=>kN x5<|ai 1 x5 fun v31=>aw v31 w30.drew fun v32=>kG (w30.drew=w30.drew)<|ai 1 v22 fun v33=>aw v33 w30.drew fun v34=>kG (w30.drew=w30.drew)<|ay [.int .i64 0] 1 [(0,1,v34)] 3 w30.drew fun v35 w36=>kG (aw v31 w36 fun v42=>v42=v32∧w36=w36)<|ksem Tryz.prog (Builtin.append_ #[49,49] 0 #[v32,v35]) w36 fun v37 w38=>kN x5<|ai 1 x5 fun v39=>bj 1 v39 v37 w38 fun w40=>Hm x5 x18 x19 x20 J6 Q w40
def Ho x5 (Q:PQ) w:=Q (.tuple #[x5,.nilIface]) w
def Hp x20 x5 x18 x19 (J6:Value→World→Prop) (Q:PQ) w:=kint .i64 .lss x20 x19 fun v19=>kB v19 fun b43=>aA b43 (Hn x5 x18 x19 x20 J6 Q w) (Ho x5 Q w)
def Hq x1 (Q:PQ) w:=bB w fun v10 w11=>aP [.map none,.slice none 0 0,.int .i64 0] [(0,1,v10)] fun v12=>knew (Value.cells v12) 174 w11 fun v13 w14=>ai 1 x1 fun v15=>aw v15 w14 fun v16=>aU v16 fun v17=>kL fun(I:Value→World→Prop) (μ:Value→World→Nat)=>I (.int .i64 0) w14∧∀(x20:Value) (w1:World),I x20 w1→Hp x20 v13 v16 v17 (fun y20 w2=>I y20 w2∧μ y20 w2<μ x20 w1) Q w1
def Sd x0 (Q:PQ) w:=knew (Value.cells x0) 70 w fun v1 w2=>aB 2 v1 w2 fun v3=>ae Tryz.prog 67 #[v3] w2 fun v4 w5=>keq Tryz.prog .neq 37 false true v4 .nilIface w5 fun v6 w7=>kB v6 fun b44=>aA b44 (ae Tryz.prog 103 #[v4] w7 fun v8 w9=>Q (.tuple #[.pointer none,v8]) w9) (Hq v1 Q w7)
theorem Lc (h:Sd x0 Q w):af Tryz.prog 62 #[x0] w Q :=
 ax (c:=Tryz.f62.body.get rfl) [(6,[20])] Tryz.func62 rfl rfl (args:=[x0]) rfl (by kernel_rfl) h
def OL x0 (Q:PQ) w:=ae Tryz.prog 80 #[(.string ⟨#[103,111,111,100,115]⟩),x0] w fun v1 w2=>Q v1 w2
theorem ED (h:OL x0 Q w):af Tryz.prog 103 #[x0] w Q :=
 ax (c:=Tryz.f103.body.get rfl) [] Tryz.func103 rfl rfl (args:=[x0]) rfl (by kernel_rfl) h
def Hr x0 (Q:PQ) w:=kN x0<|ai 1 x0 fun v3=>aw v3 w fun v4=>ae Tryz.prog 46 #[v4] w fun v5 w6=>Q v5 w6
def Se x0 (Q:PQ) w:=keq Tryz.prog .eql 106 false true x0 (.pointer none) w fun v1 w2=>kB v1 fun b7=>aA b7 (Q (.slice none 0 0) w2) (Hr x0 Q w2)
theorem Ld (h:Se x0 Q w):af Tryz.prog 43 #[x0] w Q :=
 ax (c:=Tryz.f43.body.get rfl) [] Tryz.func43 rfl rfl (args:=[x0]) rfl (by kernel_rfl) h
def A2 x0 (Q:PQ) w:=kN x0<|ai 1 x0 fun v3=>aw v3 w fun v4=>aU v4 fun v5=>Q v5 w
def OM x0 (Q:PQ) w:=keq Tryz.prog .eql 106 false true x0 (.pointer none) w fun v1 w2=>kB v1 fun b7=>aA b7 (Q (.int .i64 0) w2) (A2 x0 Q w2)
theorem EE (h:OM x0 Q w):af Tryz.prog 205 #[x0] w Q :=
 ax (c:=Tryz.f205.body.get rfl) [] Tryz.func205 rfl rfl (args:=[x0]) rfl (by kernel_rfl) h
def A3 x0 x1 (Q:PQ) w:=kN x0<|ai 1 x0 fun v6=>aw v6 w fun v7=>bz (some (.slice 3)) (some 1) v7 x1 fun v8=>aw v8 w fun v9=>Q (.tuple #[v9,.bool true]) w
def mR x0 x1 x13 (Q:PQ) w:=kB x13 fun b10=>aA b10 (Q (.tuple #[.int .i64 0,.bool false]) w) (A3 x0 x1 Q w)
def ON x0 x1 (Q:PQ) w:=kint .i64 .lss x1 (.int .i64 0) fun v1=>kB v1 fun b2=>aA (!b2) (ae Tryz.prog 205 #[x0] w fun v3 w4=>kint .i64 .geq x1 v3 fun v5=>mR x0 x1 v5 Q w4) (mR x0 x1 (.bool true) Q w)
theorem EF (h:ON x0 x1 Q w):af Tryz.prog 174 #[x0,x1] w Q :=
 ax (c:=Tryz.f174.body.get rfl) [] Tryz.func174 rfl rfl (args:=[x0,x1]) rfl (by kernel_rfl) h
def A4 x0 x1 x2 x8 (Q:PQ) w:=kN x0<|ai 1 x0 fun v14=>aw v14 w fun v15=>bz (some (.slice 3)) (some 1) v15 x1 fun v16=>bj 1 v16 x2 w fun w17=>kN x0<|ai 2 x0 fun v18=>aw v18 w17 fun v19=>kint .i64 .add v19 (.int .i64 1) fun v20=>kN x0<|ai 2 x0 fun v21=>bj 1 v21 v20 w17 fun w22=>Q (.tuple #[x8,.nilIface]) w22
def Le x0 x1 x2 (Q:PQ) w:=ae Tryz.prog 174 #[x0,x1] w fun v1 w2=>aE v1 0 fun v3=>aE v1 1 fun v4=>keq Tryz.prog .eql 106 false true x0 (.pointer none) w2 fun v5 w6=>kB v5 fun b24=>aA b24 (aw (.pointer (some ⟨2,0,none⟩)) w6 fun v7=>ae Tryz.prog 103 #[v7] w6 fun v8 w9=>Q (.tuple #[.int .i64 0,v8]) w9) (kun .not (some .bool) v4 fun v10=>kB v10 fun b23=>aA b23 (aw (.pointer (some ⟨11,0,none⟩)) w6 fun v11=>ae Tryz.prog 103 #[v11] w6 fun v12 w13=>Q (.tuple #[.int .i64 0,v12]) w13) (A4 x0 x1 x2 v3 Q w6))
theorem un (h:Le x0 x1 x2 Q w):af Tryz.prog 178 #[x0,x1,x2] w Q :=
 ax (c:=Tryz.f178.body.get rfl) [] Tryz.func178 rfl rfl (args:=[x0,x1,x2]) rfl (by kernel_rfl) h
end
section
attribute [local irreducible] kO kB bG bH kN kG aA ai aw aB bj knew bB aP ay aE bk aD aU bC bD a8 kbool kint kstr keq kun ksl bz cQ kta kmk kmm ksem ksemU bd aI aL ae kL
structure WC where
 bw:Nat
 bs:Nat
 bb:Nat
 ca:Option Addr
 cc:Nat
 rv:Value
 bg:Nat
 gm:Value
 gs:Value
 gn:Value
 R:List Int
 L:List Comp
 rolled:Nat
 frame:Int
 seed:Int
def WC.cells (c:WC):Array Value:=#[.slice c.ca c.L.length c.cc,c.rv,.pointer (some ⟨c.bs,0,none⟩),.pointer (some ⟨c.bb,0,none⟩),.pointer (some ⟨c.bg,0,none⟩),msk c.rolled,.int .i64 c.frame,.int .i64 c.seed,.pointer none]
def WC.mine (c:WC) (k:Nat):Prop:=k=c.bw∨(∃f,c.ca=some ⟨k,f,none⟩)∨k=c.bg∨bf c.gs k
structure cB (c:WC) (w0:World) (fx:Nat→Prop) (w:World) (S:SM) (t:Nat) (B:BdM):Prop where
 here:aX w c.bw=some (.cells c.cells 109)
 fm:∀k,c.mine k→fx k
 comps:aZ w c.ca c.L.length 7 (c.L.flatMap Comp.cells)
 gh:aX w c.bg=some (.cells #[c.gm,c.gs,c.gn] 174)
 go:bV w c.gs 1 (c.R.map (Value.int .i64))
 rvc:c.rv.cells=#[c.rv]
 good:dQ c.L
 rl:c.rolled<4294967296
 A:mN w0 fx c.bs c.bb w S t B
 link:iw S B
 cs:S.cs=c.L
 gi:∃n:Int,c.gn=.int .i64 n
 ap:(∀k,bf c.gs k→k≠c.bg∧k≠c.bw∧∀f,c.ca≠some ⟨k,f,none⟩)∧c.bg≠c.bw∧∀k f,c.ca=some ⟨k,f,none⟩→k≠c.bg∧k≠c.bw
theorem cB.fw {fx:Nat→Prop} (h:cB c w0 fx w S t B):fx c.bw:=h.fm _ (.inl rfl)
theorem cB.part {fx fp:Nat→Prop} (h:cB c w0 fx w S t B) (m:aH fp w w') (hf:∀k,c.mine k→¬fp k) {fx':Nat→Prop} {S':SM} {t':Nat} {B':BdM} (hs:∀k,c.mine k→fx' k) (hA:mN w0 fx' c.bs c.bb w' S' t' B') (hl:iw S' B') (hcs:S'.cs=S.cs):cB c w0 fx' w' S' t' B' :=
 ⟨m.get h.here (hf _ (.inl rfl)),hs,h.comps.mod m (fun k f e=>hf k (.inr (.inl ⟨f,e⟩))),m.get h.gh (hf _ (.inr (.inr (.inl rfl)))),h.go.mod m (fun k hk=>hf k (.inr (.inr (.inr hk)))),h.rvc,h.good,h.rl,hA,hl,hcs.trans h.cs,h.gi,h.ap⟩
theorem cB.loc (h:cB c w0 fx w S t B) (m:Same w w'):cB c w0 fx w' S t B :=
 h.part m (fun _ _ h=>h) h.fm (h.A.loc m) h.link rfl
theorem cB.step {fx:Nat→Prop} (h:cB c w0 fx w S t B) (hA:mN w0 fx c.bs c.bb w' S' t' B') (m:aH (fun k=>w0.heap.size≤k∧¬fx k) w w') (hl:iw S' B') (hcs:S'.cs=S.cs):cB c w0 fx w' S' t' B' :=
 h.part m (fun k hk hn=>hn.2 (h.fm k hk)) h.fm hA hl hcs
theorem cB.other {fx fp:Nat→Prop} (h:cB c w0 fx w S t B) (m:aH fp w w') (hfp:∀k,fp k→fx k∧¬c.mine k):cB c w0 (fun k=>fx k∨(w.heap.size≤k∧k<w'.heap.size)) w' S t B :=
 h.part m (fun k hk hn=>(hfp k hn).2 hk) (fun k hk=>.inl (h.fm k hk)) (h.A.other m (fun k hk=>(hfp k hk).1)) h.link rfl
theorem cB.less {fx fx':Nat→Prop} (h:cB c w0 fx w S t B) (hs:∀k,fx' k→fx k) (h1:∀k,c.mine k→fx' k):cB c w0 fx' w S t B :=
 h.part (aH.refl (fun _=>False) _) (fun _ _ h=>h) h1 (h.A.less hs) h.link rfl
theorem cB.gs (h:cB c w0 fx w S t B):GS S t:=by
 obtain⟨o,p,U,C,_⟩:=h.A;exact C.gs
theorem cB.wf (h:cB c w0 fx w S t B):B.WF:=by
 obtain⟨o,p,U,_,⟨bo,bi,sv,q⟩,_⟩:=h.A;exact q.wf
def SJ (c:WC) (w0:World) (fx:Nat→Prop) (w:World) (S:SM) (t:Nat) (B:BdM) (res:Option (List (Nat×List Part)×Nat)) (w':World):Prop :=
 ∃S' B',cB c w0 fx w' S' (t+1) B'∧S'.gens.length=S.gens.length∧aH (fun k=>w0.heap.size≤k∧¬fx k) w w'∧bX S' B'=(match res with | some x=>x.1 | none=>bX S B)∧B'.nx=(match res with | some x=>x.2 | none=>B.nx)
theorem fK:dM Tryz.prog 40=true:=by kernel_rfl
theorem OO:dM Tryz.prog 107=true:=by kernel_rfl
theorem jx (h:cC Sa k lo x w) (hlo:lo≤w.heap.size):af Tryz.prog 61 #[x] w fun v w'=>cC Sa k lo v w'∧Same w w':=by
 refine KW ?_;unfold R2;refine ab (gF _ h hlo) ?_;rintro v w' ⟨h1,h2⟩;exact⟨h1,h2⟩
theorem ol {c:WC} (h:aX w c.bw=some (.cells c.cells 109)) (u:Value):af Tryz.prog 70 #[.pointer (some ⟨c.bw,0,none⟩),u] w fun v w'=>v=.tuple #[]∧Same w w':=by
 refine KX ?_;unfold R3;refine ar fun w2 h2 hs2 hb2=>?_;have hh:=h2.get h (fun h=>h);refine aq ?_;refine aa ?_;refine ao (v:=.pointer none) hh rfl ?_;rw[eU OO];refine ac ?_;refine az rfl ?_;exact⟨rfl,h2⟩
theorem EG {c:WC} (h:aX w c.bw=some (.cells c.cells 109)) (hr:c.rolled<4294967296) (kd id:Int) (q:Part) (hq:bZ q.comp):af Tryz.prog 177 #[.pointer (some ⟨c.bw,0,none⟩),.int .i64 kd,.int .i64 id,.agg q.cells.toArray] w fun v w'=>v=.tuple #[]∧Same w w':=by
 refine Eu ?_;unfold Oy;refine ar fun w2 h2 hs2 hb2=>?_;have hb2:aX w2 w.heap.size=some (.cells q.cells.toArray 95):=hb2;have md:Same w2 w2.drew:=(aH.refl (fun _=>False) _).drew;have hh:=(h2.trans md).get h (fun h=>h);have hbd:=md.get hb2 (fun h=>h);refine aq ?_;refine aa ?_;refine ao (v:=msk c.rolled) hh rfl ?_;refine ah rfl ?_;refine aa ?_;refine ao (v:=.int .i64 q.comp) hbd (by simp[Part.cells]) ?_;refine ah rfl ?_;refine ab (my c.rolled q.comp hr hq.1 hq.2 _) ?_;rintro v w8 ⟨rfl,rfl⟩;have m2:=h2.trans md;refine ac ?_;refine am (fun _=>?_) (fun _=>⟨rfl,m2⟩);refine au (cs:=q.cells) hbd rfl (by omega) ?_;refine aW (cs:=.int .i64 kd::.int .i64 id::(q.cells++[.slice none 0 0,.int .i64 0,.int .i64 0])) rfl ?_;refine ab (ol (m2.get h (fun h=>h)) _) ?_;rintro v w12 ⟨rfl,h12⟩;exact⟨rfl,m2.trans h12⟩
theorem ik (h:cB c w0 fx w S t B) {x:Int} {y:Nat×EK} (hf:B.l.find? (fun z=>decide (((z.1:Nat):Int)=x))=some y) :
  af Tryz.prog 97 #[.pointer (some ⟨c.bw,0,none⟩),.int .i64 x] w fun v w'=>v=.tuple #[y.2.v,.nilIface]∧Same w w':=by
 refine sU ?_;unfold Qh;refine ar fun w2 h2 hs2 hb2=>?_;have hb2:aX w2 w.heap.size=some (.cells #[.int .i64 0,.int .i64 0] 157):=hb2;rw[aJ fK];refine ac ?_;refine az rfl ?_;unfold AG;have hh:=h2.get h.here (fun h=>h);refine aq ?_;refine aa ?_;refine ao (v:=.pointer (some ⟨c.bb,0,none⟩)) hh rfl ?_;obtain⟨o,p,U,C,hb,hU,hfx⟩:=h.A;refine ab (rh (hb.same h2) x) ?_;rintro v w14 ⟨rfl,h14⟩;rw[hf];refine ak rfl ?_;refine ak rfl ?_;have m14:=h2.trans h14;refine ar fun w18 h18 hs18 hb18=>?_;refine aQ (vs:=[.int .i64 y.2.i,.int .i64 y.2.g]) hb18 rfl rfl rfl (by simp) (by simp) fun w19 h19 hs19 hb19=>?_;have hb19:aX w19 w14.heap.size=some (.cells #[.int .i64 y.2.i,.int .i64 y.2.g] 157):=hb19;have m19:Same w14 w19:=h18.trans' (h19.mono fun k _ e=>.inr (by omega));have hb219:=m19.get (h14.get hb2 (fun h=>h)) (fun h=>h);have hz14:=m14.size;refine bP ?_;refine ac ?_;refine az rfl ?_;unfold G3;refine au (cs:=[.int .i64 y.2.i,.int .i64 y.2.g]) hb19 rfl (by omega) ?_;refine aQ (vs:=[.int .i64 y.2.i,.int .i64 y.2.g]) hb219 rfl rfl rfl (by simp) (by simp) fun w28 h28 hs28 hb28=>?_;have hb28:aX w28 w.heap.size=some (.cells #[.int .i64 y.2.i,.int .i64 y.2.g] 157):=hb28;refine au (cs:=[.int .i64 y.2.i,.int .i64 y.2.g]) hb28 rfl (by omega) ?_;exact⟨rfl,(m14.trans m19).trans' (h28.mono fun k _ e=>.inr (by omega))⟩
theorem mS {pr:Nat→Prop} (hL:cO pr Sa w0) (h17:pr 17) {fx:Nat→Prop} {w:World} {S:SM} {t:Nat} {B:BdM} (h:cB c w0 fx w S t B) {x:Int} (hf:B.l.find? (fun z=>decide (((z.1:Nat):Int)=x))=none) :
  af Tryz.prog 97 #[.pointer (some ⟨c.bw,0,none⟩),.int .i64 x] w fun v w'=>(∃e,v=.tuple #[entV 0 0,e]∧cC Sa 17 w.heap.size e w')∧Same w w':=by
 refine sU ?_;unfold Qh;refine ar fun w2 h2 hs2 hb2=>?_;have hb2:aX w2 w.heap.size=some (.cells #[.int .i64 0,.int .i64 0] 157):=hb2;rw[aJ fK];refine ac ?_;refine az rfl ?_;unfold AG;have hh:=h2.get h.here (fun h=>h);refine aq ?_;refine aa ?_;refine ao (v:=.pointer (some ⟨c.bb,0,none⟩)) hh rfl ?_;have hs0:=h.A.same0;obtain⟨o,p,U,C,hb,hU,hfx⟩:=h.A;refine ab (rh (hb.same h2) x) ?_;rintro v w14 ⟨rfl,h14⟩;rw[hf];refine ak rfl ?_;refine ak rfl ?_;have m14:=h2.trans h14;refine ar fun w18 h18 hs18 hb18=>?_;refine aQ (vs:=[.int .i64 0,.int .i64 0]) hb18 rfl rfl rfl (by simp) (by simp) fun w19 h19 hs19 hb19=>?_;have m19:Same w14 w19:=h18.trans' (h19.mono fun k _ e=>.inr (by omega));have hb219:=m19.get (h14.get hb2 (fun h=>h)) (fun h=>h);have hz14:=m14.size;refine bP ?_;refine ac ?_;refine aN rfl ?_;refine aW (cs:=[.int .i64 0,.int .i64 0]) rfl ?_;have mw:=m14.trans m19;refine dD (hL.same (hs0.trans mw)) h17 rfl rfl ?_;have hz2:=h2.size;refine ab (jx (cC.sent Sa 17 (w.heap.size+1) w19) (by have:=m19.size; have:=h14.size; omega)) ?_;rintro v w24 ⟨hE,h24⟩;have hb224:=h24.get hb219 (fun h=>h);refine aQ (vs:=[.int .i64 0,.int .i64 0]) hb224 rfl rfl rfl (by simp) (by simp) fun w25 h25 hs25 hb25=>?_;have hb25:aX w25 w.heap.size=some (.cells #[.int .i64 0,.int .i64 0] 157):=hb25;refine au (cs:=[.int .i64 0,.int .i64 0]) hb25 rfl (by omega) ?_;refine⟨⟨_,rfl,?_⟩,(mw.trans h24).trans' (h25.mono fun k _ e=>.inr (by omega))⟩;exact(hE.mod h25 (fun b hlo _ e=>by omega)).mono (by omega)
def sX (v:Value):Prop:=∃ty y,v=.iface ty y
theorem OP (hG:GS S t) (ht:t≤10000) {i:Nat} {x:Int×Bool} (h:S.gens[i]?=some x) {g:Int} (hg:0≤g) (hg2:g≤x.1+1):∃e:EK,e.i=(i:Int)∧e.g=g:=by
 have h1:=hG.gen i x h;have h2:=(List.getElem?_eq_some_iff.1 h).1;have h3:=hG.g64;exact⟨⟨(i:Int),g,by unfold bZ; omega,by unfold bZ; omega⟩,rfl,rfl⟩
theorem vW {pr:Nat→Prop} (hL:cO pr Sa w0) (h6:pr 6) (hD:fM w0) {fx:Nat→Prop} {w:World} {S:SM} {t:Nat} {B:BdM} (h:cB c w0 fx w S t B) (ht:t≤10000) (hnx:B.nx≤1000000)
  {P:List Part} {a:Option Addr} {cp:Nat} (hs:aZ w a P.length 6 (P.flatMap Part.cells)) (hfa:∀k f,a=some ⟨k,f,none⟩→fx k) (hn:P.length≤64) (hf:∀q∈P,d7 c.L q) (hnt:fa P) (hso:oe P) (hlt:(bX S B).length<S.gens.length) :
  af Tryz.prog 36 #[.pointer (some ⟨c.bw,0,none⟩),.slice a P.length cp] w fun v w'=>v=.tuple #[natV B.nx,.nilIface]∧SJ c w0 fx w S t B (some (bX S B++[(B.nx,P)],B.nx+1)) w':=by
 have hs0:=h.A.same0;have hh:=h.here;have hbwlt:=aC h.here;have hwf:=h.wf;have hA:=h.A;obtain⟨o,p,U,C,hb,hU,hfx⟩:=hA;refine KY ?_;unfold R4;rw[aJ fK];refine ac ?_;refine az rfl ?_;unfold G6;refine aq ?_;refine aa ?_;refine ao (v:=.pointer (some ⟨c.bs,0,none⟩)) hh rfl ?_;have hfull:S.free≠[]:=fun e=>h.link.full.1 e hlt;have hsp:=Ab (L:=P) (c:=cp) (hD.same C.same) C.sp (C.lo _ hD.lt) C.gs ht hfull hs (fun k f e=>(hfx k (hfa k f e)).2.2) (by omega) (by rw[h.cs]; exact hf) hnt;rw[ptrV]at hsp;refine ab hsp ?_;rintro v w9 ⟨i,g0,L1,S1,hi1,hg1,rfl,hp1,hs1',hG1,B1,T1⟩;have eL:L1=P:=(nD hp1.symm hso hs1' hnt).symm;subst eL;obtain⟨hA9,hm9⟩:=mN.turned C hb hU hfx T1 hG1;obtain⟨ek,hei,heg⟩:=OP C.gs ht hg1 (g:=g0+1) (by have:=(C.gs.gen i _ hg1).1; omega) (by omega);have hids:B.ids ek=none:=BdM.ids_none.2 fun x hx e=>by
  obtain⟨j,h1,h2⟩:=h.link.live x hx;rw[e,hei]at h1;have:i=j:=by omega
  subst this;rw[hg1]at h2;cases h2
 have hBl:B.l.length<64:=by
  have:=C.gs.g64;rw[fR]at hlt;omega
 refine ak rfl ?_;refine ak rfl ?_;have hz9:=hm9.size;refine ar fun w13 h13 hs13 hb13=>?_;refine aQ (vs:=[.int .i64 i,.int .i64 (g0+1)]) hb13 rfl rfl rfl (by simp) (by simp) fun w14 h14 hs14 hb14=>?_;have hb14:aX w14 w9.heap.size=some (.cells #[.int .i64 i,.int .i64 (g0+1)] 157):=hb14;have m14:Same w9 w14:=h13.trans' (h14.mono fun k _ e=>.inr (by omega));rw[aV bU];refine ac ?_;refine az rfl ?_;unfold G5;have hA14:=hA9.loc m14;have hm14:aH (fun k=>w0.heap.size≤k∧¬fx k) w w14:=hm9.trans (aH.of_same m14);have hh14:=hm14.get hh (fun hk=>hk.2 h.fw);obtain⟨o4,p4,U4,C4,hb4,hU4,hfx4⟩:=hA14;refine aq ?_;refine aa ?_;refine ao (v:=.pointer (some ⟨c.bb,0,none⟩)) hh14 rfl ?_;refine ab (AF hb4) ?_;rintro v w22 ⟨rfl,rfl⟩;have md:Same w22 w22.drew:=(aH.refl (fun _=>False) _).drew;refine aq ?_;refine aa ?_;refine ao (v:=.pointer (some ⟨c.bb,0,none⟩)) (md.get hh14 (fun h=>h)) rfl ?_;refine ah rfl ?_;refine au (cs:=[.int .i64 i,.int .i64 (g0+1)]) (md.get hb14 (fun h=>h)) rfl (by omega) ?_;refine ah rfl ?_;have hgv:=KT (hb4.same md) ek hids hBl (by omega);have hev:ek.v=.agg #[.int .i64 i,.int .i64 (g0+1)]:=by unfold EK.v entV; rw[hei,heg]
 rw[hev]at hgv;refine ab hgv ?_;rintro v w27 ⟨rfl,hB27,hm27⟩;have C4d:=C4.loc md;obtain⟨hA27,hm27'⟩:=mN.badged C4d (fun k hk=>hU4 k hk) (fun k hk=>⟨(hfx4 k hk).1,Nat.lt_of_lt_of_le (hfx4 k hk).2.1 md.size,(hfx4 k hk).2.2⟩) hB27 hm27;refine ak rfl ?_;refine ak rfl ?_;rw[aV bU];refine ac ?_;refine az rfl ?_;unfold G4;have hm27w:aH (fun k=>w0.heap.size≤k∧¬fx k) w w27:=(hm14.trans (aH.of_same md)).trans hm27';have hh27:=hm27w.get hh (fun hk=>hk.2 h.fw);refine aW (cs:=[.int .i64 7,.int .i64 0,.int .i64 0,.int .i64 0,.int .i64 0,.int .i64 0,.int .i64 0,.int .i64 0,.slice none 0 0,.int .i64 0,natV B.nx]) rfl ?_;refine ab (ol hh27 _) ?_;rintro v w41 ⟨rfl,h41⟩;refine aW (cs:=[.int .i64 2,natV B.nx,.int .i64 0,.int .i64 0,.int .i64 0,.int .i64 0,.int .i64 0,.int .i64 0,.slice none 0 0,.int .i64 0,.int .i64 0]) rfl ?_;refine ab (ol (h41.get hh27 (fun h=>h)) _) ?_;rintro v w44 ⟨rfl,h44⟩;have m44:=h41.trans h44;have hfr:=hfull;refine⟨rfl,S1,_,(h.step hA27 hm27w (h.link.born hfr B1 hg1 hei heg) B1.cs).loc m44,by rw[B1.gens,List.length_set],hm27w.trans (aH.of_same m44),vV h.link B1 hg1 hei,rfl⟩
theorem cB.ext (h:cB c w0 fx w S t B) (m:Same w w'):cB c w0 (fun k=>fx k∨(w.heap.size≤k∧k<w'.heap.size)) w' S t B :=
 h.other m fun k hk=>hk.elim
theorem Lf {c:WC} (h:aX w c.bw=some (.cells c.cells 109)):af Tryz.prog 130 #[.pointer (some ⟨c.bw,0,none⟩)] w fun v w'=>v=.int .i64 c.frame∧w'=w:=by
 refine ug ?_;unfold K0;rw[aJ fK];refine ac ?_;refine az rfl ?_;unfold AI;refine aq ?_;refine aa ?_;refine ao (v:=.int .i64 c.frame) h rfl ?_;exact⟨rfl,rfl⟩
end
section
structure OC where
 bo:Nat
 ca:Option Addr
 cc:Nat
 rv:Value
 L:List Comp
 most:Nat
def OC.cells (o:OC) (sv:Value) (gv dr:Nat):Array Value:=#[.slice o.ca o.L.length o.cc,o.rv,natV o.most,sv,natV gv,natV dr]
def OrdM.ok (x:OrdM):Prop:=bZ x.kind∧bZ x.id∧x.mask<4294967296∧bZ x.comp
structure nF (o:OC) (U:Nat→Prop) (w:World) (l:List OrdM) (gv dr:Nat):Prop where
 ex:∃sv,aX w o.bo=some (.cells (o.cells sv gv dr) 133)∧bV w sv 4 (l.flatMap OrdM.cells)∧∀k,bf sv k→U k∧k≠o.bo∧∀f,o.ca≠some ⟨k,f,none⟩
 comps:aZ w o.ca o.L.length 7 (o.L.flatMap Comp.cells)
 own:U o.bo
 ca:∀k f,o.ca=some ⟨k,f,none⟩→U k∧k≠o.bo
 good:dQ o.L
 rvc:o.rv.cells=#[o.rv]
 fit:∀x∈l,x.fit o.L.length∧x.ok
theorem nF.mod {U fp:Nat→Prop} (h:nF o U w l gv dr) (m:aH fp w w') (hf:∀k,U k→¬fp k):nF o U w' l gv dr:=by
 obtain⟨⟨sv,h1,h2,h3⟩,h4,h5,h6,h7,h8,h9⟩:=h;exact⟨⟨sv,m.get h1 (hf _ h5),h2.mod m (fun k hk=>hf k (h3 k hk).1),h3⟩,h4.mod m (fun k f e=>hf k (h6 k f e).1),h5,h6,h7,h8,h9⟩
theorem nF.same (h:nF o U w l gv dr) (m:Same w w'):nF o U w' l gv dr:=h.mod m fun _ _ h=>h
theorem oq (h:aZ w a n sz vs) (hn:0<n) (hs:0<sz):∀k f,a=some ⟨k,f,none⟩→k<w.heap.size:=by
 intro k f e;obtain⟨b,o,c,t,z,e2,hb,_⟩:=h.at hn hs;rw[e]at e2;cases e2;exact aC hb
theorem nF.cut (h:nF o U w l gv dr) (h0:0<o.L.length):nF o (fun k=>U k∧k<w.heap.size) w l gv dr:=by
 obtain⟨⟨sv,h1,h2,h3⟩,h4,h5,h6,h7,h8,h9⟩:=h;exact⟨⟨sv,h1,h2,fun k hk=>⟨⟨(h3 k hk).1,h2.vblk_lt hk⟩,(h3 k hk).2⟩⟩,h4,⟨h5,aC h1⟩,fun k f e=>⟨⟨(h6 k f e).1,oq h4 h0 (by omega) k f e⟩,(h6 k f e).2⟩,h7,h8,h9⟩
structure c9 (c:WC) (w0:World) (o:OC) (X:Nat→Prop) (w:World) (S:SM) (t:Nat) (B:BdM) (l:List OrdM) (gv dr:Nat):Prop where
 ex:∃fx U,cB c w0 fx w S t B∧nF o U w l gv dr∧(∀k,U k→fx k∧¬X k∧¬c.mine k)∧∀k,X k→fx k
 pos:0<o.L.length
theorem c9.order {o:OC} {X fx U:Nat→Prop} (h0:0<o.L.length) (hW:cB c w0 fx w S t B) (hU:∀k,U k→fx k∧¬X k∧¬c.mine k) (hX:∀k,X k→fx k)
  (hO:nF o (fun k=>U k∨w.heap.size≤k) w' l' gv' dr') (m:aH U w w'):c9 c w0 o X w' S t B l' gv' dr'∧aH (fun k=>w0.heap.size≤k∧¬X k) w w':=by
 refine⟨⟨⟨_,_,hW.other m (fun k hk=>⟨(hU k hk).1,(hU k hk).2.2⟩),hO.cut h0,fun k hk=>?_,fun k hk=>.inl (hX k hk)⟩,h0⟩,m.mono fun k _ hk=>⟨(hW.A.lt (hU k hk).1).1,(hU k hk).2.1⟩⟩;obtain⟨hk,hlt⟩:=hk;rcases hk with hk | hk
 ·exact⟨.inl (hU k hk).1,(hU k hk).2⟩
 ·refine⟨.inr ⟨hk,hlt⟩,fun hx=>?_,fun e=>?_⟩
  ·have:=(hW.A.lt (hX k hx)).2; omega
  ·have:=(hW.A.lt (hW.fm k e)).2; omega
theorem c9.act {c:WC} {o:OC} {X fx U:Nat→Prop} (h0:0<o.L.length) (hO:nF o U w l gv dr) (hU:∀k,U k→fx k∧¬X k∧¬c.mine k) (hX:∀k,X k→fx k)
  (hW':cB c w0 fx w' S' t' B') (m:aH (fun k=>w0.heap.size≤k∧¬fx k) w w'):c9 c w0 o X w' S' t' B' l gv dr∧aH (fun k=>w0.heap.size≤k∧¬X k) w w' :=
 ⟨⟨⟨fx,U,hW',hO.mod m (fun k hk hn=>hn.2 (hU k hk).1),hU,hX⟩,h0⟩,m.mono fun k _ hk=>⟨hk.1,fun hx=>hk.2 (hX k hx)⟩⟩
theorem c9.grow {X:Nat→Prop} (h:c9 c w0 o X w S t B l gv dr) {fp:Nat→Prop} (m:aH fp w w') (hp:∀k,fp k→X k∧¬c.mine k):c9 c w0 o (fun k=>X k∨(w.heap.size≤k∧k<w'.heap.size)) w' S t B l gv dr:=by
 obtain⟨⟨fx,U,hW,hO,hU,hX⟩,h0⟩:=h;refine⟨⟨_,U,hW.other m (fun k hk=>⟨hX k (hp k hk).1,(hp k hk).2⟩),hO.mod m (fun k hk hf=>(hU k hk).2.1 (hp k hf).1),fun k hk=>⟨.inl (hU k hk).1,fun hx=>?_,(hU k hk).2.2⟩,fun k hk=>?_⟩,h0⟩
 ·rcases hx with hx | hx
  ·exact(hU k hk).2.1 hx
  ·have:=(hW.A.lt (hU k hk).1).2; omega
 ·rcases hk with hk | hk
  ·exact .inl (hX k hk)
  ·exact .inr hk
theorem c9.loc (h:c9 c w0 o X w S t B l gv dr) (m:Same w w'):c9 c w0 o X w' S t B l gv dr:=by
 obtain⟨⟨fx,U,hW,hO,hU,hX⟩,h0⟩:=h;exact⟨⟨fx,U,hW.loc m,hO.same m,hU,hX⟩,h0⟩
theorem c9.less {X X':Nat→Prop} (h:c9 c w0 o X w S t B l gv dr) (hs:∀k,X' k→X k):c9 c w0 o X' w S t B l gv dr:=by
 obtain⟨⟨fx,U,hW,hO,hU,hX⟩,h0⟩:=h;exact⟨⟨fx,U,hW,hO,fun k hk=>⟨(hU k hk).1,fun hx=>(hU k hk).2.1 (hs k hx),(hU k hk).2.2⟩,fun k hk=>hX k (hs k hk)⟩,h0⟩
theorem c9.lt {X:Nat→Prop} (h:c9 c w0 o X w S t B l gv dr) {k:Nat} (hk:X k):w0.heap.size≤k∧k<w.heap.size:=by
 obtain⟨⟨fx,U,hW,hO,hU,hX⟩,h0⟩:=h;exact hW.A.lt (hX k hk)
theorem c9.same0 (h:c9 c w0 o X w S t B l gv dr):Same w0 w:=by
 obtain⟨⟨fx,U,hW,hO,hU,hX⟩,h0⟩:=h;exact hW.A.same0
theorem cB.base (h:cB c w0 fx w S t B) (m:Same w00 w0):cB c w00 (fun k=>fx k∨(w00.heap.size≤k∧k<w0.heap.size)) w S t B:=by
 have hz:=m.size;obtain⟨o,p,U,C,hb,hU,hf⟩:=h.A;have hzw:=C.same.size;refine⟨h.here,fun k hk=>.inl (h.fm k hk),h.comps,h.gh,h.go,h.rvc,h.good,h.rl,⟨o,p,U,⟨C.sp,C.gs,fun k hk=>C.lo k (by omega),C.hi,m.trans C.same⟩,hb,fun k hk=>⟨by have:=(hU k hk).1; omega,(hU k hk).2.1,fun hx=>?_⟩,fun k hk=>?_⟩,h.link,h.cs,h.gi,h.ap⟩
 ·rcases hx with hx | hx
  ·exact(hU k hk).2.2 hx
  ·have:=(hU k hk).1; omega
 ·rcases hk with hk | hk
  ·exact⟨by have:=(hf k hk).1; omega,(hf k hk).2⟩
  ·exact⟨hk.1,by omega,C.lo k hk.2⟩
theorem cB.le (h:cB c w0 fx w S t B):B.l.length≤64:=h.link.le h.gs.g64
def cX (w w':World) (X:Nat→Prop):Nat→Prop:=fun k=>X k∨(w.heap.size≤k∧k<w'.heap.size)
end
section
abbrev d8:Type:=List (Nat×List Part)
def nr (V:d8):Prop:=∀y∈V,∀q∈y.2,q.ok
end
section
attribute [local irreducible] kO kB bG bH kN kG aA ai aw aB bj knew bB aP ay aE bk aD aU bC bD a8 kbool kint kstr keq kun ksl bz cQ kta kmk kmm ksem ksemU bd aI aL ae kL
instance (n:Nat) (x:OrdM):Decidable (x.fit n):=by unfold OrdM.fit; infer_instance
def OrdM.val (x:OrdM):Value:=.agg x.cells.toArray
theorem rj:dM Tryz.prog 41=true:=by kernel_rfl
theorem mT:appT Tryz.prog 75 4 32=true:=by kernel_rfl
theorem fW:∃e,Tryz.prog.underlying 75=some (.slice e):=dI (by kernel_rfl)
theorem ones_ord:∀l:List OrdM,oneCells (l.flatMap OrdM.cells)=true
 | []=>rfl
 | q::l=>by
  rw[List.flatMap_cons];show oneCells (.int .i64 q.kind::.int .i64 q.id::msk q.mask::.int .i64 q.comp::l.flatMap OrdM.cells)=true;simp only[oneCells,msk,ones_ord l]; rfl
theorem sY (h:cC Sa k lo x w) (hlo:lo≤w.heap.size):af Tryz.prog 68 #[x] w fun v w'=>cC Sa k lo v w'∧Same w w':=by
 refine Lb ?_;unfold Sc;refine ab (gF _ h hlo) ?_;rintro v w' ⟨h1,h2⟩;exact⟨h1,h2⟩
theorem mU {o:OC} (h:aX w o.bo=some (.cells (o.cells sv gv dr) 133)) (hn:o.L.length≤32) (x:OrdM) (hx:x.ok) :
  af Tryz.prog 179 #[.pointer (some ⟨o.bo,0,none⟩),x.val] w fun v w'=>v=.bool (decide (x.fit o.L.length))∧Same w w':=by
 obtain⟨h1,h2',h3,h4⟩:=hx;have hfit:x.fit o.L.length↔(x.kind=1∧x.mask<2^o.L.length)∨x.kind=2∨((x.kind=3∨x.kind=4)∧0≤x.comp∧x.comp<o.L.length):=Iff.rfl;unfold OrdM.val;refine EC ?_;unfold OG;refine ar fun w2 h2 hs2 hb2=>?_;have hb2:aX w2 w.heap.size=some (.cells x.cells.toArray 130):=hb2;have hh:=h2.get h (fun h=>h);refine aq ?_;refine aa ?_;refine aa ?_;refine ao (v:=.slice o.ca o.L.length o.cc) hh rfl ?_;refine aK ?_;refine aa ?_;refine ao (v:=.int .i64 x.kind) hb2 rfl ?_;refine aF ?_;refine ac ?_;have rest:∀b:Bool,b=decide (x.kind=3∨x.kind=4)→x.kind≠1→x.kind≠2→pF (.pointer (some ⟨w.heap.size,0,none⟩)) (.int .i64 o.L.length) (.bool b) (fun v w'=>v=.bool (decide (x.fit o.L.length))∧Same w w') w2:=by
  intro b hb n1 n2;unfold pF;refine ac ?_;refine dh (fun e=>?_) (fun e=>?_)
  ·have h34:x.kind=3∨x.kind=4:=of_decide_eq_true (hb.symm.trans e);refine aa ?_;refine ao (v:=.int .i64 x.comp) hb2 rfl ?_;refine bI ?_;refine ac ?_;refine am (fun hc=>?_) (fun hc=>?_)
   ·refine aa ?_;refine ao (v:=.int .i64 x.comp) hb2 rfl ?_;refine aM ?_;refine⟨?_,h2⟩;congr 1;rw[decide_eq_decide,hfit];omega
   ·refine⟨?_,h2⟩;congr 1;symm;rw[decide_eq_false_iff_not,hfit];omega
  ·have h34:¬(x.kind=3∨x.kind=4):=of_decide_eq_false (hb.symm.trans e);unfold AY;refine⟨?_,h2⟩;congr 1;symm;rw[decide_eq_false_iff_not,hfit];omega
 refine am (fun e1=>?_) (fun e1=>?_)
 ·refine aa ?_;refine ao (v:=msk x.mask) hb2 rfl ?_;rw[msk,dz];refine ah (by omega) ?_;rw[iZ x.mask o.L.length (by show o.L.length≤32; omega)];refine aF ?_;refine⟨?_,h2⟩;congr 1;rw[decide_eq_decide,hfit];have hp:0<2^o.L.length:=Nat.pow_pos (by omega);constructor
  ·intro e;have e:x.mask/2^o.L.length=0:=by omega
   exact .inl ⟨e1,by rcases(Nat.div_eq_zero_iff).1 e with h | h; omega; exact h⟩
  ·intro e;have:x.mask<2^o.L.length:=by
    rcases e with e | e | e
    ·exact e.2
    ·omega
    ·omega
   rw[Nat.div_eq_of_lt this]; rfl
 ·refine aF ?_;refine ac ?_;refine am (fun e2=>?_) (fun e2=>?_)
  ·refine⟨?_,h2⟩;congr 1;symm;rw[decide_eq_true_eq,hfit];omega
  ·refine aF ?_;refine ac ?_;refine am (fun e3=>?_) (fun e3=>?_)
   ·rw[co e3];exact rest true (by rw[co (Or.inl e3)]) e1 e2
   ·refine aF ?_;refine rest _ ?_ e1 e2;rw[decide_eq_decide];omega
theorem A5 {pr:Nat→Prop} (hL:cO pr Sa w) (h1:pr 1) (h:nF o U w l gv dr) (x:OrdM) (hx:x.ok) (hb:¬x.fit o.L.length) :
  af Tryz.prog 134 #[.pointer (some ⟨o.bo,0,none⟩),x.val] w fun v w'=>cC Sa 1 w.heap.size v w'∧Same w w':=by
 have hl:=h.good.len;obtain⟨sv,hh,hO,hv⟩:=h.ex;unfold OrdM.val;refine lx ?_;unfold A0;refine ar fun w2 h2 hs2 hb2=>?_;have hb2:aX w2 w.heap.size=some (.cells x.cells.toArray 130):=hb2;have hh2:=h2.get hh (fun h=>h);rw[aJ rj];refine ac ?_;refine az rfl ?_;refine au (cs:=x.cells) hb2 rfl (by omega) ?_;have his:=mU hh2 (by omega) x hx;rw[OrdM.val]at his;refine ab his ?_;rintro v w10 ⟨rfl,h10⟩;refine bP ?_;rw[bT hb];refine ac ?_;refine aN rfl ?_;refine dD (hL.same (h2.trans h10)) h1 rfl rfl ?_;have hz:=(h2.trans h10).size;refine ab (sY (cC.sent Sa 1 w.heap.size w10) hz) ?_;rintro v w14 ⟨hE,h14⟩;exact⟨hE,(h2.trans h10).trans h14⟩
theorem vX {pr:Nat→Prop} {U:Nat→Prop} (hL:cO pr Sa w0) (h6:pr 6) (hs0:Same w0 w) (hlo:∀k,U k→w0.heap.size≤k) (h:nF o U w l gv dr) (x:OrdM) (hx:x.ok) (hb:x.fit o.L.length) (hf:o.most≤gv) (hdr:dr≤1000000) :
  af Tryz.prog 134 #[.pointer (some ⟨o.bo,0,none⟩),x.val] w fun v w'=>cC Sa 6 w.heap.size v w'∧nF o U w' l gv (dr+1)∧aH U w w':=by
 have hl:=h.good.len;obtain⟨⟨sv,hh,hO,hv⟩,hcm,hown,hca,hgood,hrv,hfit⟩:=h;have hbl:=aC hh;unfold OrdM.val;refine lx ?_;unfold A0;refine ar fun w2 h2 hs2 hb2=>?_;have hb2:aX w2 w.heap.size=some (.cells x.cells.toArray 130):=hb2;have hh2:=h2.get hh (fun h=>h);rw[aJ rj];refine ac ?_;refine az rfl ?_;refine au (cs:=x.cells) hb2 rfl (by omega) ?_;have his:=mU hh2 (by omega) x hx;rw[OrdM.val]at his;refine ab his ?_;rintro v w10 ⟨rfl,h10⟩;refine bP ?_;rw[co hb];refine ac ?_;refine az rfl ?_;have md:Same w10 w10.drew:=(aH.refl (fun _=>False) _).drew;have mw:Same w w10.drew:=(h2.trans h10).trans md;have hhd:=mw.get hh (fun h=>h);have hz:=mw.size;generalize w10.drew=wd at *;refine aq ?_;refine aa ?_;refine ao (v:=natV gv) hhd rfl ?_;refine ah rfl ?_;refine aq ?_;refine aa ?_;refine ao (v:=natV o.most) hhd rfl ?_;refine ah rfl ?_;refine bI ?_;rw[co (by omega)];refine ac ?_;refine aN rfl ?_;refine aq ?_;refine aa ?_;refine ao (v:=natV dr) hhd rfl ?_;refine aY (by omega) (by omega) ?_;refine aq ?_;refine aa ?_;refine bJ hhd rfl rfl (by show 5<6; omega) fun w24 h24 hs24 hb24=>?_;have hb24:aX w24 o.bo=some (.cells (o.cells sv gv (dr+1)) 133):=hb24;have m24:aH (fun k=>k=o.bo) w w24:=(aH.of_same mw).trans h24;have hbo:=hlo _ hown;have s024:Same w0 w24:=hs0.trans' (m24.mono fun k _ e=>.inr (by omega));refine dD (hL.same s024) h6 rfl rfl ?_;refine ab (sY (cC.sent Sa 6 w.heap.size w24) m24.size) ?_;rintro v w27 ⟨hE,h27⟩;have m27:aH (fun k=>k=o.bo) w w27:=m24.trans (aH.of_same h27);exact⟨hE,⟨⟨sv,h27.get hb24 (fun h=>h),hO.mod m27 (fun k hk e=>(hv k hk).2.1 e),hv⟩,hcm.mod m27 (fun k f e hk=>(hca k f e).2 hk),hown,hca,hgood,hrv,hfit⟩,m27.mono fun k _ e=>by rw[e]; exact hown⟩
theorem EH (h:nF o U w l gv dr) (x:OrdM) (hx:x.ok) (hb:x.fit o.L.length) (hf:gv<o.most) (hmo:o.most≤1000000) (hln:l.length≤1000000) (h0:0<o.L.length) :
  af Tryz.prog 134 #[.pointer (some ⟨o.bo,0,none⟩),x.val] w fun v w'=>v=.nilIface∧nF o (fun k=>U k∨w.heap.size≤k) w' (l++[x]) (gv+1) dr∧aH U w w':=by
 have hl:=h.good.len;obtain⟨⟨sv,hh,hO,hv⟩,hcm,hown,hca,hgood,hrv,hfit⟩:=h;have hbl:=aC hh;have hfl:=flat_len OrdM.cells 4 (fun _=>rfl) l;unfold OrdM.val;refine lx ?_;unfold A0;refine ar fun w2 h2 hs2 hb2=>?_;have hb2:aX w2 w.heap.size=some (.cells x.cells.toArray 130):=hb2;have hh2:=h2.get hh (fun h=>h);rw[aJ rj];refine ac ?_;refine az rfl ?_;refine au (cs:=x.cells) hb2 rfl (by omega) ?_;have his:=mU hh2 (by omega) x hx;rw[OrdM.val]at his;refine ab his ?_;rintro v w10 ⟨rfl,h10⟩;refine bP ?_;rw[co hb];refine ac ?_;refine az rfl ?_;have md:Same w10 w10.drew:=(aH.refl (fun _=>False) _).drew;have mw:Same w w10.drew:=(h2.trans h10).trans md;have hhd:=mw.get hh (fun h=>h);have hbd:=(h10.trans md).get hb2 (fun h=>h);have hz:=mw.size;generalize w10.drew=wd at *;refine aq ?_;refine aa ?_;refine ao (v:=natV gv) hhd rfl ?_;refine ah rfl ?_;refine aq ?_;refine aa ?_;refine ao (v:=natV o.most) hhd rfl ?_;refine ah rfl ?_;refine bI ?_;rw[bT (by omega)];refine ac ?_;refine az rfl ?_;unfold AZ;refine aq ?_;refine aa ?_;refine ao (v:=natV gv) hhd rfl ?_;refine aY (by omega) (by omega) ?_;refine aq ?_;refine aa ?_;refine bJ hhd rfl rfl (by show 4<6; omega) fun w32 h32 hs32 hb32=>?_;have hb32:aX w32 o.bo=some (.cells (o.cells sv (gv+1) dr) 133):=hb32;have m32:aH (fun k=>k=o.bo) w w32:=(aH.of_same mw).trans h32;have md2:Same w32 w32.drew:=(aH.refl (fun _=>False) _).drew;have m32d:=m32.trans (aH.of_same md2);have hhe:=md2.get hb32 (fun h=>h);have hbe:=md2.get (h32.get hbd (by omega)) (fun h=>h);have hOd:bV w32.drew sv 4 (l.flatMap OrdM.cells):=hO.mod m32d (fun k hk e=>(hv k hk).2.1 e);have hzd:=m32d.size;generalize w32.drew=we at *;refine aq ?_;refine aa ?_;refine ao (v:=sv) hhe rfl ?_;refine ah rfl ?_;refine au (cs:=x.cells) hbe rfl (by omega) ?_;refine ah rfl ?_;refine aR (cs:=x.cells) rfl fun w37 h37 hs37 hb37=>?_;refine ah (ao (v:=sv) (h37.get hhe (fun h=>h)) rfl ⟨rfl,rfl⟩) ?_;refine be mT (by omega) (hOd.same h37) (Src.ofSlIs (hk:=fW.choose_spec) 1 (aZ.blk hb37 rfl) rfl) (by simp[OrdM.cells,hfl]; omega) (by simp[OrdM.cells,hfl]; omega) ?_;intro v' w39 hO39 m39 hf39;have hh39:=m39.get (h37.get hhe (fun h=>h)) (fun hk=>(hv _ hk).2.1 rfl);refine aq ?_;refine aa ?_;obtain⟨a',n',c',rfl,_,_⟩:=hO39.is;refine bJ hh39 rfl rfl (by show 3<6; omega) fun w41 h41 hs41 hb41=>?_;have hb41:aX w41 o.bo=some (.cells (o.cells (.slice a' n' c') (gv+1) dr) 133):=hb41;have m37:aH (fun k=>k=o.bo) w w37:=m32d.trans (aH.of_same h37);have hz37:=m37.size;have hvn:∀k,bf (.slice a' n' c') k→(bf sv k∨w.heap.size≤k):=fun k hk=>by
  rcases hf39 k hk with h | h
  ·exact .inl h
  ·exact .inr (by omega)
 have mall:aH U w w41:=((m37.mono fun k _ e=>by rw[e]; exact hown).trans (m39.mono fun k _ hk=>(hv k hk).1)).trans (h41.mono fun k _ e=>by rw[e]; exact hown);have hcb:∀k f,o.ca=some ⟨k,f,none⟩→¬(k=o.bo)∧¬bf sv k:=fun k f e=>⟨(hca k f e).2,fun hk=>(hv k hk).2.2 f e⟩
 refine⟨rfl,⟨⟨.slice a' n' c',hb41,?_,fun k hk=>?_⟩,?_,.inl hown,fun k f e=>⟨.inl (hca k f e).1,(hca k f e).2⟩,hgood,hrv,fun y hy=>?_⟩,mall⟩
 ·rw[List.flatMap_append];have:bV w39 (.slice a' n' c') 4 (l.flatMap OrdM.cells++[x].flatMap OrdM.cells):=by simpa using hO39
  refine this.mod h41 fun k hk e=>?_;rcases hvn k hk with h | h
  ·exact(hv k h).2.1 e
  ·omega
 ·rcases hvn k hk with h | h
  ·exact⟨.inl (hv k h).1,(hv k h).2⟩
  ·refine⟨.inr h,by omega,fun f e=>?_⟩;have:=oq hcm h0 (by omega) k f e;omega
 ·exact((hcm.mod m37 (fun k f e=>(hcb k f e).1)).mod m39 (fun k f e=>(hcb k f e).2)).mod h41 (fun k f e=>(hcb k f e).1)
 ·rcases List.mem_append.1 hy with hy | hy
  ·exact hfit y hy
  ·have:y=x:=by simpa using hy
   subst this; exact⟨hb,hx⟩
end
end Go.Proofs.YtcmijampbjcbgaaGreatDoor
namespace Go.Ev
open Go
section
section
variable {P:Program} {kt:TypeId}
theorem text_beq (a b:ByteArray):(a ==b)=decide (a=b):=by
 cases a with | mk a =>
 cases b with | mk b =>
 show(a ==b)=_;rw[Bool.eq_iff_iff,decide_eq_true_eq,ByteArray.mk.injEq];exact beq_iff_eq
theorem findNow_entsS (n:ByteArray):∀(i j:Nat) (kv:List (ByteArray×Value)),Instr.findNow .string (.string n) (entsG Value.string i kv) j=some ((lkG n kv).map fun x=>(j+x.1,x.2))
 | _,_,[]=>by simp[entsG,Instr.findNow,lkG]
 | i,j,(m,v)::r=>by
  simp only[entsG,Instr.findNow,Instr.sameNow,lkG];by_cases h:n=m
  ·subst h;rw[text_beq,decide_eq_true rfl]; simp
  ·rw[text_beq,decide_eq_false h];simp only[h,if_false];rw[findNow_entsS n (i+1) (j+1) r];cases lkG n r with
   | none=>simp
   | some x=>simp; omega
theorem gM.string (hk:P.underlying kt=some .string):gM P kt Value.string where
 find n kv w:=by
  simp only[Instr.findKey,Sem.run_bind,run_underlying hk,Result.andThen_ok,findNow_entsS,Sem.run_pure];cases lkG n kv<;>simp
 check e a w:=by
  rw[Instr.checkKey];simp[run_underlying hk]
 stays a:=by simp[Instr.sameBits,text_beq]
end
end
end Go.Ev
namespace Go.Proofs.YtcmijampbjcbgaaGreatDoor
open Go Go.Ev
section
attribute [local irreducible] kO kB bG bH kN kG aA ai aw aB bj knew bB aP ay aE bk aD aU bC bD a8 kbool kint kstr keq kun ksl bz cQ kta kmk kmm ksem ksemU bd aI aL ae kL
theorem Lg:Tryz.prog.underlying 172=some (.map 9 3):=by kernel_rfl
theorem Lh:Tryz.prog.underlying 9=some .string:=by kernel_rfl
theorem QC {L:List Comp} {R:List ResM} (hs:aZ w a L.length 7 (L.flatMap Comp.cells)) (hG:dQ L) (hr:aZ w ra R.length 2 (R.flatMap ResM.cells)) (hGR:iR L R) :
  af Tryz.prog 62 #[gr a L.length cp (.slice ra R.length rc)] w fun v w'=>(∃g gm gs,v=.tuple #[.pointer (some ⟨g,0,none⟩),.nilIface]∧w.heap.size≤g∧aX w' g=some (.cells #[gm,gs,.int .i64 0] 174)∧bV w' gs 1 ((R.map (·.value)).map (Value.int .i64))∧∀k,bf gs k→w.heap.size≤k∧k≠g)∧Same w w':=by
 have hlR:=hGR.len;rw[gr];refine Lc ?_;unfold Sd;refine ar fun w2 h2 hs2 hb2=>?_;have hb2:aX w2 w.heap.size=some (.cells #[.slice a L.length cp,.slice ra R.length rc] 70):=hb2;refine au (cs:=[.slice a L.length cp,.slice ra R.length rc]) hb2 rfl (by omega) ?_;have hck:=iS (ra:=ra) (rc:=rc) (cp:=cp) (hs.same h2) hG (hr.same h2) hGR;rw[gr]at hck;refine ab hck ?_;rintro v w5 ⟨rfl,h5⟩;rw[aV bU];refine ac ?_;refine az rfl ?_;unfold Hq;refine jS fun w11 h11 hs11 hm11=>?_;refine aW (cs:=[.map (some w5.heap.size),.slice none 0 0,.int .i64 0]) rfl ?_;refine ar fun w14 h14 hs14 hb14=>?_;have hb14:aX w14 w11.heap.size=some (.cells #[.map (some w5.heap.size),.slice none 0 0,.int .i64 0] 174):=hb14;have m14:=(h2.trans h5).trans (h11.trans h14);have hz2:=h2.size;have hz5:=h5.size;have hmp:kA Value.string w14 w5.heap.size []:=(show kA Value.string w11 w5.heap.size []from hm11 .i64).same h14;refine aa ?_;refine ao (v:=.slice ra R.length rc) ((h5.trans (h11.trans h14)).get hb2 (fun h=>h)) rfl ?_;refine aK ?_;refine cA R.length (fun j y wr=>y=.int .i64 j∧∃gs kv,aX wr w11.heap.size=some (.cells #[.map (some w5.heap.size),gs,.int .i64 0] 174)∧kA Value.string wr w5.heap.size kv∧bV wr gs 1 (((R.take j).map (·.value)).map (Value.int .i64))∧(∀k,bf gs k→w14.heap.size≤k)∧Same w wr∧w14.heap.size≤wr.heap.size) ⟨c8 ⟨rfl,_,_,hb14,hmp,bV.nil _ _,(fun k hk=>by obtain⟨_,_,_,e⟩:=hk; cases e),m14,Nat.le_refl _⟩,fun y wr hx=>?_⟩;obtain⟨j,hj,⟨rfl,gs,kv,hbg,hmr,hO,hgk,hwr,hzr⟩,hJ⟩:=bK hx;unfold Hp;refine aM ?_;refine ac ?_;refine am (fun hlt=>?_) (fun hge=>?_)
 ·have hlt:j<R.length:=by omega
  have htk:((R.take (j+1)).map (·.value)).map (Value.int .i64)=((R.take j).map (·.value)).map (Value.int .i64)++[.int .i64 (R[j]).value]:=by
   rw[List.take_succ_eq_append_getElem hlt,List.map_append,List.map_append]; rfl
  have hlo:(((R.take j).map (·.value)).map (Value.int .i64)).length=j:=by
   rw[List.length_map,List.length_map,List.length_take]; omega
  unfold Hn;refine cK (F:=ResM.cells) (sz:=2) (fun _=>rfl) (by omega) (hr.same hwr) hlt rfl ?_;refine ar fun w23 h23 hs23 hb23=>?_;refine aQ (vs:=(R[j]).cells) hb23 rfl rfl rfl (by simp) (by simp[ResM.cells]) fun w24 h24 hs24 hb24=>?_;have hb24:aX w24 wr.heap.size=some (.cells (R[j]).cells.toArray 147):=hb24;have m24:Same wr w24:=h23.trans' (h24.mono fun k _ e=>.inr (by omega));have md:Same w24 w24.drew:=(aH.refl (fun _=>False) _).drew;have mrd:=m24.trans md;have hb24:=md.get hb24 (fun h=>h);have hgd:=mrd.get hbg (fun h=>h);have hmd:=hmr.same mrd;have hOd:=hO.same mrd;have hzd:=mrd.size;generalize w24.drew=wd at *;refine aq ?_;refine aa ?_;refine ao (v:=.map (some w5.heap.size)) hgd rfl ?_;refine ah rfl ?_;refine aa ?_;refine ao (v:=.string (R[j]).name) hb24 rfl ?_;refine ah rfl ?_;refine Ek Lg (gM.string Lh) hmd fun w30 h30 hs30 hm30=>?_;have md2:Same w30 w30.drew:=(aH.refl (fun _=>False) _).drew;have hr30:=md2.get (h30.get hb24 (by omega)) (fun h=>h);have hg30:=md2.get (h30.get hgd (by omega)) (fun h=>h);have hO30:=(hOd.mod h30 fun k hk e=>by have:=hgk k hk; omega).same md2;have hm30:=hm30.same md2;have n30:aH (fun k=>k=w5.heap.size) wd w30.drew:=h30.trans (aH.of_same md2);have hz30:=n30.size;generalize w30.drew=we at *;refine aq ?_;refine aa ?_;refine ao (v:=gs) hg30 rfl ?_;refine ah rfl ?_;refine aa ?_;refine ao (v:=.int .i64 (R[j]).value) hr30 rfl ?_;refine ah rfl ?_;refine aR (cs:=[.int .i64 (R[j]).value]) rfl fun w36 h36 hs36 hb36=>?_;refine ah (ao (v:=gs) (h36.get hg30 (fun h=>h)) rfl ⟨rfl,rfl⟩) ?_;refine be pA (by omega) (hO30.same h36) (Src.ofSlIs (hk:=i8.choose_spec) 1 (aZ.blk hb36 rfl) rfl) (by rw[hlo]; simp; omega) (by rw[hlo]; simp; omega) ?_;intro v' w38 hO38 m38 hf38;have hgk2:∀k,bf v' k→w14.heap.size≤k:=fun k hk=>by
   rcases hf38 k hk with h | h
   ·exact hgk k h
   ·omega
  have hg38:=m38.get (h36.get hg30 (fun h=>h)) (fun hk=>by have:=hgk _ hk; omega);obtain⟨av,nv,cv,rfl,_,_⟩:=hO38.is;refine aq ?_;refine aa ?_;refine bJ hg38 rfl rfl (by show 1<3; omega) fun w40 h40 hs40 hb40=>?_;have hb40:aX w40 w11.heap.size=some (.cells #[.map (some w5.heap.size),.slice av nv cv,.int .i64 0] 174):=hb40;unfold Hm;refine aY (by omega) (by omega) ?_;rw[a7];have hz38:=m38.size;have hz36:=h36.size;refine hJ _ _ hlt ⟨rfl,.slice av nv cv,_,hb40,((hm30.same h36).mod m38 (fun hk=>by have:=hgk _ hk; omega)).mod h40 (by omega),?_,hgk2,?_,by omega⟩
  ·rw[htk];exact(show bV w38 (.slice av nv cv) 1 (((R.take j).map (·.value)).map (Value.int .i64)++[.int .i64 (R[j]).value])from hO38).mod h40 fun k hk e=>by have:=hgk2 k hk; omega
  ·exact(((hwr.trans mrd).trans' (n30.mono fun k _ e=>.inr (by omega))).trans h36).trans' ((m38.mono fun k _ e=>.inr (by have:=hgk k e; omega)).trans (h40.mono fun k _ e=>.inr (by omega)))
 ·have:j=R.length:=by omega
  subst this;unfold Ho;rw[List.take_length]at hO;exact⟨⟨_,_,gs,rfl,by omega,hbg,hO,fun k hk=>by have:=hgk k hk; have:=aC hb14; omega⟩,hwr⟩
theorem OQ {L:List Comp} {R:List ResM} (hs:aZ w a L.length 7 (L.flatMap Comp.cells)) (hG:dQ L) (hr:aZ w ra R.length 2 (R.flatMap ResM.cells)) (hGR:iR L R) (h0:0<L.length) {most:Nat} (hm:most≤64) :
  af Tryz.prog 31 #[gr a L.length cp (.slice ra R.length rc),.int .i64 most] w fun v w'=>∃o:OC,v=.tuple #[.pointer (some ⟨o.bo,0,none⟩),.nilIface]∧o.L=L∧o.most=most∧nF o (fun k=>w.heap.size≤k) w' [] 0 0∧Same w w':=by
 have hl:=hG.len;rw[gr];refine La ?_;unfold Sb;refine ar fun w2 h2 hs2 hb2=>?_;have hb2:aX w2 w.heap.size=some (.cells #[.slice a L.length cp,.slice ra R.length rc] 70):=hb2;refine au (cs:=[.slice a L.length cp,.slice ra R.length rc]) hb2 rfl (by omega) ?_;have hck:=iS (ra:=ra) (rc:=rc) (cp:=cp) (hs.same h2) hG (hr.same h2) hGR;rw[gr]at hck;refine ab hck ?_;rintro v w5 ⟨rfl,h5⟩;rw[aV bU];refine ac ?_;refine az rfl ?_;unfold Hl;refine aM ?_;rw[bT (by omega)];refine ac ?_;refine aN rfl ?_;refine bO ?_;rw[bT (by omega)];unfold AX;refine ac ?_;refine az rfl ?_;unfold Hk;refine aa ?_;refine ao (v:=.slice a L.length cp) (h5.get hb2 (fun h=>h)) rfl ?_;have m5:=h2.trans h5;have hz5:=m5.size;refine ab (fF (hs.same m5) (by omega)) ?_;rintro v w19 ⟨hO19,h19,hf19⟩;obtain⟨a1,n1,c1,rfl,hs19,_⟩:=hO19.is;have hfl:=flat_len Comp.cells 7 (fun _=>rfl) L;have hn1:n1=L.length:=by have h1:=hs19.1; omega
 subst hn1;refine aW (cs:=[.slice a1 L.length c1,.slice none 0 0]) rfl ?_;refine ar fun w22 h22 hs22 hb22=>?_;refine aQ (vs:=[.slice a1 L.length c1,.slice none 0 0]) hb22 rfl rfl rfl (by simp) (by simp) fun w23 h23 hs23 hb23=>?_;have hb23:aX w23 w19.heap.size=some (.cells #[.slice a1 L.length c1,.slice none 0 0] 70):=hb23;have m23:Same w19 w23:=h22.trans' (h23.mono fun k _ e=>.inr (by omega));refine au (cs:=[.slice a1 L.length c1,.slice none 0 0]) hb23 rfl (by omega) ?_;refine aW (cs:=[.slice a1 L.length c1,.slice none 0 0,natV most,.slice none 0 0,natV 0,natV 0]) rfl ?_;refine ar fun w27 h27 hs27 hb27=>?_;have hz19:=h19.size;have hz23:=m23.size;have hlt1:=oq hs19 h0 (by omega);refine⟨⟨w23.heap.size,a1,c1,.slice none 0 0,L,most⟩,rfl,rfl,rfl,⟨⟨.slice none 0 0,hb27,bV.nil _ _,fun k hk=>by obtain⟨_,_,_,e⟩:=hk; cases e⟩,hs19.same (m23.trans h27),by show w.heap.size≤w23.heap.size; omega,fun k f e=>?_,hG,rfl,fun x hx=>by cases hx⟩,(m5.trans h19).trans (m23.trans h27)⟩;have e:a1=some ⟨k,f,none⟩:=e;have h1:=hf19 k ⟨f,L.length,c1,by rw[e]⟩;have h2:=hlt1 k f e;exact⟨by omega,by show k≠w23.heap.size; omega⟩
theorem vY (L:List Comp) (most:Nat):iw (newS L most) ⟨[],1⟩ where
 live x hx:=by cases hx
 all i g hg:=by
  have:(List.replicate most ((0:Int),false))[i]?=some (g,true):=hg;obtain⟨_,e⟩:=List.getElem?_eq_some_iff.1 this;rw[List.getElem_replicate]at e; cases e
 tm:=by simp[newS,newS0,layS]
 cnt:=by simp[newS,newS0,layS]
theorem vZ {o:dd} (hG:dQ L) (C:qZ w0 o w b p (newS L most) 0) {a:Option Addr} {cp:Nat} {ra:Option Addr} {rn rc:Nat} (hs:aZ w a L.length 7 (L.flatMap Comp.cells)) {bs:Nat} (hbs:aX w bs=some (.cells #[.slice a L.length cp,.slice ra rn rc] 70))
  {a1:Option Addr} {c1:Nat} {a2:Option Addr} {n2 c2:Nat} (hs1:aZ w a1 L.length 7 (L.flatMap Comp.cells)) (ha1:∀k f,a1=some ⟨k,f,none⟩→w0.heap.size≤k∧k<w.heap.size∧o k=none) (hag:∀k f,a1=some ⟨k,f,none⟩→k≠g∧¬bf gs k) (hsg:∀k,bf gs k→k≠g) {bc:Nat} (hbc:aX w bc=some (.cells #[.slice a1 L.length c1,.slice a2 n2 c2] 70)) (seed:Int) {Rv:List Int} (hg:aX w g=some (.cells #[gm,gs,.int .i64 0] 174)) (hglo:w0.heap.size≤g∧o g=none) (hgo:bV w gs 1 (Rv.map (Value.int .i64))) (hgs:∀k,bf gs k→w0.heap.size≤k∧o k=none) {Q:Value→World→Prop}
  (hQ:∀(c:WC) w',c.L=L→c.frame=0→c.seed=seed→c.rolled=rollF (L.map (·.rb))→c.R=Rv→cB c w0 c.mine w' (newS L most) 0 ⟨[],1⟩→Q (.tuple #[.pointer (some ⟨c.bw,0,none⟩),.nilIface]) w') :
  oh (.int .i64 seed) (.pointer (some ⟨bs,0,none⟩)) (ptrV b) (.pointer (some ⟨g,0,none⟩)) (.pointer (some ⟨bc,0,none⟩)) Q w:=by
 have hl:=hG.len;rw[ptrV];unfold oh;have md:Same w w.drew:=(aH.refl (fun _=>False) _).drew;have hbs:=md.get hbs (fun h=>h);have hbc:=md.get hbc (fun h=>h);have C:=C.loc md;have hgd:=md.get hg (fun h=>h);have hgl:=aC hgd;have hs:=hs.same md;have hs1:=hs1.same md;have hzd:=md.size;have hwz:w.heap.size=w.drew.heap.size:=rfl;generalize w.drew=wd at *;refine au (cs:=[.slice a1 L.length c1,.slice a2 n2 c2]) hbc rfl (by omega) ?_;refine ah rfl ?_;refine ab (Ow wd) ?_;rintro v w35 ⟨bb,rfl,hB,h35⟩;refine ah (au (cs:=[.slice a1 L.length c1,.slice a2 n2 c2]) (h35.get hbc (fun h=>h)) rfl (by omega) ⟨rfl,rfl⟩) ?_;refine au (cs:=[.slice a L.length cp,.slice ra rn rc]) (h35.get hbs (fun h=>h)) rfl (by omega) ?_;refine ah rfl ?_;refine ah (au (cs:=[.slice a L.length cp,.slice ra rn rc]) hbs rfl (by omega) ⟨rfl,rfl⟩) ?_;refine ab (nE L (by omega) a cp (.slice ra rn rc) w35 (hs.same h35) rfl) ?_;rintro v w38 ⟨rfl,h38⟩;refine ah (au (cs:=[.slice a1 L.length c1,.slice a2 n2 c2]) ((h35.trans h38).get hbc (fun h=>h)) rfl (by omega) ⟨rfl,rfl⟩) ?_;refine aW (cs:=[.slice a1 L.length c1,.slice a2 n2 c2,.pointer (some ⟨b,0,none⟩),.pointer (some ⟨bb,0,none⟩),.pointer (some ⟨g,0,none⟩),msk (rollF (L.map (·.rb))),.int .i64 0,.int .i64 seed,.pointer none]) rfl ?_;refine ar fun w41 h41 hs41 hb41=>?_;have m41:=(h35.trans h38).trans h41;have hz35:=h35.size;have hz38:=h38.size;have hz0:=C.same.size;refine hQ ⟨w38.heap.size,b,bb,a1,c1,.slice a2 n2 c2,g,gm,gs,.int .i64 0,Rv,L,rollF (L.map fun x:Comp=>x.rb),0,seed⟩ w41 rfl rfl rfl rfl rfl ⟨hb41,fun k hk=>hk,hs1.same m41,m41.get hgd (fun h=>h),hgo.same (md.trans m41),rfl,hG,ri _,⟨o,p,fun k=>wd.heap.size≤k∧k<w35.heap.size,C.loc m41,(hB.mono (U':=fun k=>wd.heap.size≤k∧k<w35.heap.size) fun k hk hu=>⟨hu,hk⟩).same (h38.trans h41),fun k hk=>⟨by omega,C.hi k hk.1,fun hx=>?_⟩,fun k hx=>?_⟩,vY L most,rfl,⟨0,rfl⟩,fun k hk=>⟨hsg k hk,by have:=hgo.vblk_lt hk; show k≠w38.heap.size; omega,fun f e=>(hag k f e).2 hk⟩,by show g≠w38.heap.size; omega,fun k f e=>⟨(hag k f e).1,by have:=(ha1 k f e).2.1; show k≠w38.heap.size; omega⟩⟩
 ·have hx:k=w38.heap.size∨(∃f,a1=some ⟨k,f,none⟩)∨k=g∨bf gs k:=hx;rcases hx with e | ⟨f,e⟩ | e | e
  ·omega
  ·have:=(ha1 k f e).2.1; omega
  ·omega
  ·have:=hgo.vblk_lt e; omega
 ·have hx:k=w38.heap.size∨(∃f,a1=some ⟨k,f,none⟩)∨k=g∨bf gs k:=hx;rcases hx with e | ⟨f,e⟩ | e | e
  ·exact⟨by omega,by omega,C.hi k (by omega)⟩
  ·obtain⟨h1,h2,h3⟩:=ha1 k f e;exact⟨h1,by omega,h3⟩
  ·rw[e]; exact⟨hglo.1,by omega,hglo.2⟩
  ·exact⟨(hgs k e).1,by have:=hgo.vblk_lt e; omega,(hgs k e).2⟩
theorem OS (hD:fM w) {a:Option Addr} {L:List Comp} {cp:Nat} {ra:Option Addr} {R:List ResM} {rc:Nat} (hs:aZ w a L.length 7 (L.flatMap Comp.cells)) (hG:dQ L) (hr:aZ w ra R.length 2 (R.flatMap ResM.cells)) (hGR:iR L R) (h0:0<L.length) {most:Nat} (hm:most≤64) (seed:Int) :
  af Tryz.prog 29 #[gr a L.length cp (.slice ra R.length rc),.int .i64 most,.int .i64 seed] w fun v w'=>∃c:WC,v=.tuple #[.pointer (some ⟨c.bw,0,none⟩),.nilIface]∧c.L=L∧c.frame=0∧c.seed=seed∧c.rolled=rollF (L.map (·.rb))∧c.R=R.map (·.value)∧cB c w c.mine w' (newS L most) 0 ⟨[],1⟩:=by
 have hl:=hG.len;have hfl:=flat_len Comp.cells 7 (fun _=>rfl) L;have hsc:gr a L.length cp (.slice ra R.length rc)=.agg #[.slice a L.length cp,.slice ra R.length rc]:=rfl;rw[hsc];refine KV ?_;unfold f29;refine ar fun w2 h2 hs2 hb2=>?_;have hb2:aX w2 w.heap.size=some (.cells #[.slice a L.length cp,.slice ra R.length rc] 70):=hb2;refine au (cs:=[.slice a L.length cp,.slice ra R.length rc]) hb2 rfl (by omega) ?_;have hsn:=sP (hD.same h2) (ra:=ra) (rc:=rc) (cp:=cp) (hs.same h2) hG (hr.same h2) hGR hm;rw[hsc]at hsn;refine ab hsn ?_;rintro v w5 ⟨b,rfl,o,p,hP5,hlo5,hhi5,h5⟩;have hz2:=h2.size;have C5:qZ w o w5 b p (newS L most) 0:=⟨hP5,Ei hm,fun k hk=>hlo5 k (by omega),hhi5,h2.trans h5⟩
 refine ak rfl ?_;refine ak rfl ?_;rw[aV bU];refine ac ?_;refine az rfl ?_;unfold G2;have hb5:=h5.get hb2 (fun h=>h);refine au (cs:=[.slice a L.length cp,.slice ra R.length rc]) hb5 rfl (by omega) ?_;have hgn:=QC (ra:=ra) (rc:=rc) (cp:=cp) (hs.same C5.same) hG (hr.same C5.same) hGR;rw[hsc]at hgn;refine ab hgn ?_;rintro v w14 ⟨⟨g,gm,gs,rfl,hglo,hg14,hgo14,hgs14⟩,h14⟩;refine ak rfl ?_;refine ak rfl ?_;rw[aV bU];refine ac ?_;refine az rfl ?_;unfold G1;have md:Same w14 w14.drew:=(aH.refl (fun _=>False) _).drew;have Cd:=C5.loc (h14.trans md);have hbd:=(h14.trans md).get hb5 (fun h=>h);have hgd:=md.get hg14 (fun h=>h);have hgo:w.heap.size≤g∧o g=none:=⟨by have:=C5.same.size; omega,C5.hi g hglo⟩
 have hgsd:=hgo14.same md;have hgsl:∀k,bf gs k→w.heap.size≤k∧o k=none:=fun k hk=>⟨by have:=(hgs14 k hk).1; have:=C5.same.size; omega,C5.hi k (hgs14 k hk).1⟩
 have hlR:=hGR.len;generalize w14.drew=wd at *;have hsd:=hs.same Cd.same;have hrd:=hr.same Cd.same;have fin:∀(w':World) (a1:Option Addr) (c1:Nat) (a2:Option Addr) (n2 c2:Nat) (bc:Nat),Same wd w'→aZ w' a1 L.length 7 (L.flatMap Comp.cells)→(∀k f,a1=some ⟨k,f,none⟩→wd.heap.size≤k)→aX w' bc=some (.cells #[.slice a1 L.length c1,.slice a2 n2 c2] 70) →
   oh (.int .i64 seed) (.pointer (some ⟨w.heap.size,0,none⟩)) (ptrV b) (.pointer (some ⟨g,0,none⟩)) (.pointer (some ⟨bc,0,none⟩)) (fun v w'=>∃c:WC,v=.tuple #[.pointer (some ⟨c.bw,0,none⟩),.nilIface]∧c.L=L∧c.frame=0∧c.seed=seed∧c.rolled=rollF (L.map (·.rb))∧c.R=R.map (·.value)∧cB c w c.mine w' (newS L most) 0 ⟨[],1⟩) w':=by
  intro w' a1 c1 a2 n2 c2 bc m hs1 ha1 hbc;have hz:=Cd.same.size;exact vZ hG (Cd.loc m) (hsd.same m) (m.get hbd (fun h=>h)) hs1 (fun k f e=>⟨by have:=ha1 k f e; omega,oq hs1 h0 (by omega) k f e,Cd.hi k (ha1 k f e)⟩) (fun k f e=>⟨by have:=ha1 k f e; have:=aC hgd; omega,fun hv=>by have:=ha1 k f e; have:=hgsd.vblk_lt hv; omega⟩) (fun k hk=>(hgs14 k hk).2) hbc seed (m.get hgd (fun h=>h)) hgo (hgsd.same m) hgsl fun c w'' e1 e2 e3 e4 e5 hW=>⟨c,rfl,e1,e2,e3,e4,e5,hW⟩
 rw[ptrV]at fin ⊢;refine⟨?_,?_⟩
 ·refine aa ?_;refine ao (v:=.slice a L.length cp) hbd rfl ?_;refine ah rfl ?_;refine ab (fF hsd (by omega)) ?_;rintro v w24 ⟨hO24,h24,hf24⟩;obtain⟨a1,n1,c1,rfl,hs24,_⟩:=hO24.is;have hn1:n1=L.length:=by have h1:=hs24.1; omega
  subst hn1;have ha1:∀k f,a1=some ⟨k,f,none⟩→wd.heap.size≤k:=fun k f e=>hf24 k ⟨f,L.length,c1,by rw[e]⟩;have hb24:=h24.get hbd (fun h=>h);refine⟨?_,?_⟩
  ·refine aa ?_;refine ao (v:=.slice ra R.length rc) hb24 rfl ?_;refine ah rfl ?_;refine ah (ao (v:=.slice ra R.length rc) hbd rfl ⟨rfl,rfl⟩) ?_;refine ab (eq (hrd.same h24) (by omega)) ?_;rintro v w28 ⟨⟨a2,n2,c2,rfl⟩,h28⟩;refine ar fun w30 h30 hs30 hb30=>?_;have hb30':=(h28.trans h30).get hb24 (fun h=>h);refine ah (ao (v:=.slice ra R.length rc) hb30' rfl ⟨rfl,rfl⟩) ?_;refine ah (ao (v:=.slice a L.length cp) hb30' rfl ⟨rfl,rfl⟩) ?_;refine aW (cs:=[.slice a1 L.length c1,.slice a2 n2 c2]) rfl ?_;refine aQ (vs:=[.slice a1 L.length c1,.slice a2 n2 c2]) hb30 rfl rfl rfl (by simp) (by simp) fun w32 h32 hs32 hb32=>?_;have m32:Same w28 w32:=h30.trans' (h32.mono fun k _ e=>.inr (by omega));exact fin w32 a1 c1 _ _ _ _ (h24.trans (h28.trans m32)) (hs24.same (h28.trans m32)) ha1 hb32
  ·refine ar fun w49 h49 hs49 hb49=>?_;have hb49':=h49.get hb24 (fun h=>h);refine ah (ao (v:=.slice a L.length cp) hb49' rfl ⟨rfl,rfl⟩) ?_;refine aa ?_;refine ao (v:=.slice ra R.length rc) hb49' rfl ?_;refine ah rfl ?_;refine ah (ao (v:=.slice ra R.length rc) hb24 rfl ⟨rfl,rfl⟩) ?_;refine ah (ao (v:=.slice ra R.length rc) hbd rfl ⟨rfl,rfl⟩) ?_;refine ab (eq (hrd.same (h24.trans h49)) (by omega)) ?_;rintro v w53 ⟨⟨a2,n2,c2,rfl⟩,h53⟩;refine aW (cs:=[.slice a1 L.length c1,.slice a2 n2 c2]) rfl ?_;refine aQ (vs:=[.slice a1 L.length c1,.slice a2 n2 c2]) (h53.get hb49 (fun h=>h)) rfl rfl rfl (by simp) (by simp) fun w55 h55 hs55 hb55=>?_;have m55:Same w24 w55:=(h49.trans h53).trans' (h55.mono fun k _ e=>.inr (by omega));exact fin w55 a1 c1 _ _ _ _ (h24.trans m55) (hs24.same m55) ha1 hb55
 ·refine ar fun w60 h60 hs60 hb60=>?_;have hb60':=h60.get hbd (fun h=>h);refine aa ?_;refine ao (v:=.slice a L.length cp) hb60' rfl ?_;refine ah rfl ?_;refine ah (ao (v:=.slice a L.length cp) hbd rfl ⟨rfl,rfl⟩) ?_;refine ab (fF (hsd.same h60) (by omega)) ?_;rintro v w64 ⟨hO64,h64,hf64⟩;obtain⟨a1,n1,c1,rfl,hs64,_⟩:=hO64.is;have hn1:n1=L.length:=by have h1:=hs64.1; omega
  subst hn1;have ha1:∀k f,a1=some ⟨k,f,none⟩→wd.heap.size≤k:=fun k f e=>by have:=hf64 k ⟨f,L.length,c1,by rw[e]⟩; omega
  have hb64:=h64.get hb60' (fun h=>h);refine aa ?_;refine ao (v:=.slice ra R.length rc) hb64 rfl ?_;refine ah rfl ?_;refine ah (ao (v:=.slice ra R.length rc) hb60' rfl ⟨rfl,rfl⟩) ?_;refine ah (ao (v:=.slice ra R.length rc) hbd rfl ⟨rfl,rfl⟩) ?_;refine ab (eq (hrd.same (h60.trans h64)) (by omega)) ?_;rintro v w68 ⟨⟨a2,n2,c2,rfl⟩,h68⟩;refine aW (cs:=[.slice a1 L.length c1,.slice a2 n2 c2]) rfl ?_;have hz64:=h64.size;have hz60:=h60.size;have hz68:=h68.size;refine aQ (vs:=[.slice a1 L.length c1,.slice a2 n2 c2]) ((h64.trans h68).get hb60 (fun h=>h)) rfl rfl rfl (by simp) (by simp) fun w70 h70 hs70 hb70=>?_;have m70:Same wd w70:=(h60.trans (h64.trans h68)).trans' (h70.mono fun k _ e=>.inr (by omega));have hs70:aZ w70 a1 L.length 7 (L.flatMap Comp.cells):=(hs64.same h68).mod h70 fun k f e hk=>by have:=hf64 k ⟨f,L.length,c1,by rw[e]⟩; omega
  exact fin w70 a1 c1 _ _ _ _ m70 hs70 ha1 hb70
theorem c9.new {o:OC} (h0:0<o.L.length) (hW:cB c w0 fx w S t B) (m:Same w w') (hO:nF o (fun k=>w.heap.size≤k) w' l gv dr):c9 c w0 o fx w' S t B l gv dr:=by
 refine⟨⟨_,_,hW.ext m,hO.cut h0,fun k hk=>⟨.inr hk,fun hx=>?_,fun e=>?_⟩,fun k hk=>.inl hk⟩,h0⟩
 ·have:=(hW.A.lt hx).2; omega
 ·have:=(hW.A.lt (hW.fm k e)).2; omega
theorem c9.orderX {o:OC} {X fx U:Nat→Prop} (h0:0<o.L.length) (hW:cB c w0 fx w S t B) (hU:∀k,U k→fx k∧¬X k∧¬c.mine k) (hX:∀k,X k→fx k)
  (hO:nF o U w' l' gv' dr') (m:aH U w w'):c9 c w0 o (fun k=>X k∨(w.heap.size≤k∧k<w'.heap.size)) w' S t B l' gv' dr'∧aH (fun k=>w0.heap.size≤k∧¬X k) w w':=by
 refine⟨⟨⟨_,_,hW.other m (fun k hk=>⟨(hU k hk).1,(hU k hk).2.2⟩),hO,fun k hk=>⟨.inl (hU k hk).1,fun hx=>?_,(hU k hk).2.2⟩,fun k hk=>?_⟩,h0⟩,m.mono fun k _ hk=>⟨(hW.A.lt (hU k hk).1).1,(hU k hk).2.1⟩⟩
 ·rcases hx with hx | hx
  ·exact(hU k hk).2.1 hx
  ·have:=(hW.A.lt (hU k hk).1).2; omega
 ·rcases hk with hk | hk
  ·exact .inl (hX k hk)
  ·exact .inr hk
theorem A6 {pr:Nat→Prop} (hL:cO pr Sa w0) (h1:pr 1) {o:OC} {X:Nat→Prop} {w:World} {S:SM} {t:Nat} {B:BdM} {l:List OrdM} {gv dr:Nat} (h:c9 c w0 o X w S t B l gv dr) (x:OrdM) (hx:x.ok) (hb:¬x.fit o.L.length) :
  af Tryz.prog 134 #[.pointer (some ⟨o.bo,0,none⟩),x.val] w fun v w'=>cC Sa 1 w.heap.size v w'∧Same w w':=by
 have hs:=h.same0;obtain⟨⟨fx,U,hW,hO,hU,hX⟩,h0⟩:=h;exact A5 (hL.same hs) h1 hO x hx hb
theorem wg {pr:Nat→Prop} (hL:cO pr Sa w0) (h6:pr 6) {o:OC} {X:Nat→Prop} {w:World} {S:SM} {t:Nat} {B:BdM} {l:List OrdM} {gv dr:Nat} (h:c9 c w0 o X w S t B l gv dr) (x:OrdM) (hx:x.ok) (hb:x.fit o.L.length) (hf:o.most≤gv) (hdr:dr≤1000000) :
  af Tryz.prog 134 #[.pointer (some ⟨o.bo,0,none⟩),x.val] w fun v w'=>cC Sa 6 w.heap.size v w'∧c9 c w0 o (fun k=>X k∨(w.heap.size≤k∧k<w'.heap.size)) w' S t B l gv (dr+1)∧aH (fun k=>w0.heap.size≤k∧¬X k) w w':=by
 have hs:=h.same0;obtain⟨⟨fx,U,hW,hO,hU,hX⟩,h0⟩:=h;refine(vX hL h6 hs (fun k hk=>(hW.A.lt (hU k hk).1).1) hO x hx hb hf hdr).mono ?_;rintro v w' ⟨hE,hO',m⟩;exact⟨hE,c9.orderX h0 hW hU hX hO' m⟩
theorem EI {X:Nat→Prop} (h:c9 c w0 o X w S t B l gv dr) (x:OrdM) (hx:x.ok) (hb:x.fit o.L.length) (hf:gv<o.most) (hmo:o.most≤1000000) (hln:l.length≤1000000) :
  af Tryz.prog 134 #[.pointer (some ⟨o.bo,0,none⟩),x.val] w fun v w'=>v=.nilIface∧c9 c w0 o X w' S t B (l++[x]) (gv+1) dr∧aH (fun k=>w0.heap.size≤k∧¬X k) w w':=by
 obtain⟨⟨fx,U,hW,hO,hU,hX⟩,h0⟩:=h;refine(EH hO x hx hb hf hmo hln h0).mono ?_;rintro v w' ⟨rfl,hO',m⟩;exact⟨rfl,c9.order h0 hW hU hX hO' m⟩
theorem EJ (h:cB c w0 fx w S t B) {x:Int} {n:Nat} {y:Nat×EK} (hf:B.l.find? (fun z=>decide (((z.1:Nat):Int)=x))=some y) {q:Part} (hq:q∈partsOf S y.2.i.toNat) (hqc:q.comp=(n:Int)) :
  af Tryz.prog 173 #[.pointer (some ⟨c.bw,0,none⟩),.int .i64 x,.int .i64 n] w fun v w'=>v=.tuple #[.agg q.cells.toArray,.nilIface]∧Same w w':=by
 have hym:=List.mem_of_find?_eq_some hf;obtain⟨i,hyi,hg⟩:=h.link.live y hym;rw[hyi,Int.toNat_natCast]at hq;refine pC ?_;unfold Ew;refine ar fun w2 h2 hs2 hb2=>?_;refine ab (ik (h.loc h2) hf) ?_;rintro v w4 ⟨rfl,h4⟩;unfold EK.v entV;rw[hyi];refine ak rfl ?_;refine ak rfl ?_;refine ar fun w8 h8 hs8 hb8=>?_;refine aQ (vs:=[.int .i64 i,.int .i64 y.2.g]) hb8 rfl rfl rfl (by simp) (by simp) fun w9 h9 hs9 hb9=>?_;have hb9:aX w9 w4.heap.size=some (.cells #[.int .i64 i,.int .i64 y.2.g] 157):=hb9;have m9:Same w4 w9:=h8.trans' (h9.mono fun k _ e=>.inr (by omega));rw[aV bU];refine ac ?_;refine az rfl ?_;unfold sV;have md:Same w9 w9.drew:=(aH.refl (fun _=>False) _).drew;have m29:Same w2 w9.drew:=(h4.trans m9).trans md;have hd:=h.loc (h2.trans m29);have hbd:=md.get hb9 (fun h=>h);have hb2d:=m29.get hb2 (fun h=>h);have hz2:=m29.size;generalize w9.drew=wd at *;have key:∀{w1:World},Same wd w1→aX w1 c.bw=some (.cells c.cells 109):=fun m=>m.get hd.here (fun h=>h);have tail:∀(w1:World) (bp:Nat),Same wd w1→bp≠w.heap.size→aX w1 bp=some (.cells q.cells.toArray 95)→kC (.pointer (some ⟨w.heap.size,0,none⟩)) .nilIface (.pointer (some ⟨bp,0,none⟩)) (fun v w'=>v=.tuple #[.agg q.cells.toArray,.nilIface]∧Same w w') w1:=by
  intro w1 bp m hne hbp;unfold kC;rw[aV bU];refine ac ?_;refine az rfl ?_;unfold AH;refine au (cs:=q.cells) hbp rfl (by omega) ?_;refine aQ (vs:=q.cells) (m.get hb2d (fun h=>h)) rfl rfl rfl (by simp) (by simp[Part.cells]) fun w33 h33 hs33 hb33=>?_;have hb33:aX w33 w.heap.size=some (.cells q.cells.toArray 95):=hb33;refine au (cs:=q.cells) hb33 rfl (by omega) ?_;exact⟨rfl,((h2.trans m29).trans m).trans' (h33.mono fun k _ e=>.inr (by omega))⟩
 obtain⟨o,p,U,C,hb,hU,hfx⟩:=hd.A;have hget:∀w1,Same wd w1→af Tryz.prog 204 #[.pointer (some ⟨c.bs,0,none⟩),.agg #[.int .i64 i,.int .i64 y.2.g],.int .i64 n] w1 fun v w'=>v=.tuple #[.agg q.cells.toArray,.nilIface]∧Same w1 w':=by
  intro w1 m;have:=Kt (C.sp.same m) C.gs hg hq hqc;rw[ptrV,entV]at this;exact this
 refine⟨?_,?_⟩
 ·refine aq ?_;refine aa ?_;refine ao (v:=.pointer (some ⟨c.bs,0,none⟩)) hd.here rfl ?_;refine ah rfl ?_;refine au (cs:=[.int .i64 i,.int .i64 y.2.g]) hbd rfl (by omega) ?_;refine ah rfl ?_;refine ab (hget _ (aH.refl _ _)) ?_;rintro v w19 ⟨rfl,h19⟩;refine ar fun w21 h21 hs21 hb21=>?_;refine ah (au (cs:=[.int .i64 i,.int .i64 y.2.g]) ((h19.trans h21).get hbd (fun h=>h)) rfl (by omega) ⟨rfl,rfl⟩) ?_;refine ah (ao (v:=.pointer (some ⟨c.bs,0,none⟩)) (key (h19.trans h21)) rfl ⟨rfl,rfl⟩) ?_;refine ak rfl ?_;refine aQ (vs:=q.cells) hb21 rfl rfl rfl (by simp) (by simp[Part.cells]) fun w23 h23 hs23 hb23=>?_;have hb23:aX w23 w19.heap.size=some (.cells q.cells.toArray 95):=hb23;refine ak rfl ?_;have hz19:=h19.size;exact tail _ _ (h19.trans (h21.trans' (h23.mono fun k _ e=>.inr (by omega)))) (by omega) hb23
 ·refine ar fun w39 h39 hs39 hb39=>?_;refine aq ?_;refine aa ?_;refine ao (v:=.pointer (some ⟨c.bs,0,none⟩)) (key h39) rfl ?_;refine ah rfl ?_;refine ah (ao (v:=.pointer (some ⟨c.bs,0,none⟩)) hd.here rfl ⟨rfl,rfl⟩) ?_;refine au (cs:=[.int .i64 i,.int .i64 y.2.g]) (h39.get hbd (fun h=>h)) rfl (by omega) ?_;refine ah rfl ?_;refine ah (au (cs:=[.int .i64 i,.int .i64 y.2.g]) hbd rfl (by omega) ⟨rfl,rfl⟩) ?_;refine ab (hget _ h39) ?_;rintro v w44 ⟨rfl,h44⟩;refine ak rfl ?_;refine aQ (vs:=q.cells) (h44.get hb39 (fun h=>h)) rfl rfl rfl (by simp) (by simp[Part.cells]) fun w46 h46 hs46 hb46=>?_;have hb46:aX w46 wd.heap.size=some (.cells q.cells.toArray 95):=hb46;refine ak rfl ?_;exact tail _ _ ((h39.trans h44).trans' (h46.mono fun k _ e=>.inr (by omega))) (by omega) hb46
theorem A7 (L:List Comp) (most:Nat):(newS L most).gens.length=most:=by simp[newS,newS0,layS]
theorem rk (n:Nat):(Builtin.zeroCells #[.int .i64 0,.int .i64 0,.int .i64 0,.int .i64 0,.int .i64 0,.int .i64 0] n).toList=List.replicate (n*6) (.int .i64 0):=by
 rw[List.eq_replicate_iff];constructor
 ·rw[Array.length_toList];exact size_zeroCells _ _
 ·intro b hb;unfold Builtin.zeroCells at hb;rw[Array.toList_map,List.mem_map]at hb;obtain⟨i,_,rfl⟩:=hb;have:i%6<6:=Nat.mod_lt _ (by omega);show(#[Value.int .i64 0,.int .i64 0,.int .i64 0,.int .i64 0,.int .i64 0,.int .i64 0]:Array Value)[i%6]! = _;have h:i%6=0∨i%6=1∨i%6=2∨i%6=3∨i%6=4∨i%6=5:=by omega
  rcases h with h | h | h | h | h | h<;>rw[h]<;>rfl
theorem rm {ty:TypeId} {K:Value→World→Prop} {tt:TypeId} (hb:aX w b=some (.cells arr tt)) (hle:o+n*6≤arr.size)
  (h:∀w2 arr',aH (fun k=>k=b) w w2→aX w2 b=some (.cells arr' tt)→arr'.size=arr.size→arr'.toList.take o=arr.toList.take o→K (.tuple #[]) w2) :
  ksem Tryz.prog (Builtin.clear_ #[90] ty #[.slice (some ⟨b,o,none⟩) n cp]) w K:=by
 cases n with
 | zero =>
  have hr:(Builtin.clear_ #[90] ty #[.slice (some ⟨b,o,none⟩) 0 cp]).run Tryz.prog w=.ok (.tuple #[]) w:=by
   simp only[Builtin.clear_];simp[run_underlying elPart,Result.andThen]
  rw[dA hr];exact h w arr (aH.refl _ _) hb rfl rfl
 | succ n =>
  have hz:∀w,(zeroValue 95).run Tryz.prog w=.ok (.agg #[.int .i64 0,.int .i64 0,.int .i64 0,.int .i64 0,.int .i64 0,.int .i64 0]) w:=fun w=>run_zero' Kr;have hst:=run_storeCells_cells (P:=Tryz.prog) b o (List.replicate ((n+1)*6) (Value.int .i64 0)) 0 w
   (fun j hj=>by
    rw[List.length_replicate]at hj;rw[Nat.add_zero,cell_mk,hb,dU]; simp; omega)
   (fun j hj=>by simp[World.frozen?,show w.heap[b]?=_ from hb]) (by intro v hv; rw[(List.mem_replicate.1 hv).2]; rfl)
  have hr:(Builtin.clear_ #[90] ty #[.slice (some ⟨b,o,none⟩) (n+1) cp]).run Tryz.prog w=.ok (.tuple #[]) (w.setCells b o (List.replicate ((n+1)*6) (Value.int .i64 0))):=by
   have hzc:=rk (n+1);simp only[Nat.add_zero]at hst;simp only[Builtin.clear_];simp[run_underlying elPart,hz,hzc,hst,Result.andThen]
  rw[dA hr,eW _ _ _ _ hb];have hsl:=dS (List.replicate ((n+1)*6) (Value.int .i64 0)) arr o (by rw[List.length_replicate]; exact hle);refine h _ _ ((aH.refl _ _).setBlk _ (.inl rfl)) (by rw[cN,if_pos rfl,hb]; rfl) ?_ ?_
  ·rw[←Array.length_toList,hsl,←Array.length_toList];simp;rw[Array.size_eq_length_toList]at hle;simp at hle;omega
  ·rw[hsl,List.append_assoc,List.take_append_of_le_length (by simp; omega),List.take_take,Nat.min_self]
def A8 (v:Value) (w:World) (f:Nat) (caps:Array Value) (L:List Part) (del:Part→Bool):Prop :=
 ∀q∈L,∀w1,aH (bf v) w w1→af Tryz.prog f (#[.agg q.cells.toArray]++caps) w1 fun r w2=>r=.bool (del q)∧Same w1 w2
theorem ro {L:List Part} (hs:aZ w a L.length 6 (L.flatMap Part.cells)) {f:Nat} {caps:Array Value} {del:Part→Bool} (ht:A8 v w f caps L del) (hlen:L.length≤1000000) :
  af Tryz.prog 78 #[.slice a L.length cp,.func (.func f) #[] caps] w fun r w'=>((∃k,∃h:k<L.length,r=.int .i64 k∧del L[k]=true∧∀j (hj:j<L.length),j<k→del L[j]=false)∨(r=.int .i64 (-1)∧∀q∈L,del q=false))∧Same w w':=by
 refine Kb ?_;unfold RV;refine aK ?_;refine cA L.length (fun j x wr=>x=.int .i64 j∧(∀i (hi:i<L.length),i<j→del L[i]=false)∧Same w wr) ⟨c8 ⟨rfl,fun i hi h=>by omega,aH.refl _ _⟩,fun x wr hx=>?_⟩;obtain⟨j,hj,⟨rfl,hbef,hm⟩,hJ⟩:=bK hx;unfold GE;refine aM ?_;refine ac ?_;refine am (fun hlt=>?_) (fun hge=>?_)
 ·have hlt:j<L.length:=by omega
  unfold GC;refine cK (F:=Part.cells) (sz:=6) (fun _=>rfl) (by omega) (hs.same hm) hlt rfl ?_;refine gL (ht L[j] (List.getElem_mem hlt) wr (aH.of_same hm)) ?_;rintro r w7 ⟨rfl,h7⟩;refine ac ?_;refine dh (fun e=>?_) (fun e=>?_)
  ·exact⟨.inl ⟨j,hlt,rfl,e,hbef⟩,hm.trans h7⟩
  ·unfold GB;refine aY (by omega) (by omega) ?_;rw[a7];refine hJ _ _ hlt ⟨rfl,fun i hi h=>?_,hm.trans h7⟩;by_cases he:i=j
   ·subst he; exact e
   ·exact hbef i hi (by omega)
 ·have:j=L.length:=by omega
  subst this;unfold GD;refine⟨.inr ⟨rfl,fun q hq=>?_⟩,hm⟩;obtain⟨i,hi,rfl⟩:=List.mem_iff_getElem.1 hq;exact hbef i hi hi
structure jk (L M:List Part) (del:Part→Bool) (i j:Nat):Prop where
 len:M.length=L.length
 ahead:M.take i=(L.take j).filter fun q=>!del q
 rest:∀x,j≤x→M[x]?=L[x]?
 le:i<j
theorem jk.first {L:List Part} {del:Part→Bool} (hk:k<L.length) (hd:del L[k]=true) (hb:∀j (hj:j<L.length),j<k→del L[j]=false):jk L L del k (k+1):=by
 refine⟨rfl,?_,fun _ _=>rfl,by omega⟩;rw[List.take_succ_eq_append_getElem hk,List.filter_append,List.filter_eq_self.2,List.filter_cons_of_neg (by simp[hd]),List.filter_nil,List.append_nil];intro q hq;obtain⟨i,hi,rfl⟩:=List.mem_iff_getElem.1 hq;rw[List.length_take]at hi;rw[List.getElem_take,hb i (by omega) (by omega)];rfl
theorem jk.keep {del:Part→Bool} (h:jk L M del i j) (hj:j<L.length) (hd:del L[j]=false):jk L (M.set i L[j]) del (i+1) (j+1):=by
 have hle:=h.le;refine⟨by rw[List.length_set]; exact h.len,?_,fun x hx=>?_,by omega⟩
 ·have hi:i<(M.set i L[j]).length:=by rw[List.length_set,h.len]; omega
  rw[List.take_succ_eq_append_getElem hi,List.getElem_set_self,List.take_set_of_le (Nat.le_refl i),h.ahead,List.take_succ_eq_append_getElem hj,List.filter_append,List.filter_cons_of_pos (by simp[hd]),List.filter_nil]
 ·rw[List.getElem?_set_ne (by omega)];exact h.rest x (by omega)
theorem jk.drop {del:Part→Bool} (h:jk L M del i j) (hj:j<L.length) (hd:del L[j]=true):jk L M del i (j+1):=by
 have hle:=h.le;refine⟨h.len,?_,fun x hx=>h.rest x (by omega),by omega⟩;rw[h.ahead,List.take_succ_eq_append_getElem hj,List.filter_append,List.filter_cons_of_neg (by simp[hd]),List.filter_nil,List.append_nil]
theorem pG {L:List Part} (hO:bV w v 6 (L.flatMap Part.cells)) {f:Nat} {caps:Array Value} {del:Part→Bool} (ht:A8 v w f caps L del) (hlen:L.length≤1000000) :
  af Tryz.prog 39 #[v,.func (.func f) #[] caps] w fun v' w'=>bV w' v' 6 ((L.filter fun q=>!del q).flatMap Part.cells)∧aH (bf v) w w'∧∀b,bf v' b→bf v b:=by
 obtain⟨sa,sn,sc,rfl,hsl,_⟩:=hO.is;have hfl:=flat_len Part.cells 6 (fun _=>rfl) L;have hsn:sn=L.length:=by have h1:=hsl.1; omega
 subst hsn;refine Ka ?_;unfold RU;refine ab (ro hsl ht hlen) ?_;rintro r w2 ⟨hr,h2⟩;rcases hr with⟨k,hk,rfl,hkd,hbef⟩ | ⟨rfl,hnone⟩
 rotate_left
 ·refine aF ?_;rw[co rfl];refine ac ?_;refine aN rfl ?_;rw[List.filter_eq_self.2 fun q hq=>by rw[hnone q hq]; rfl];exact⟨hO.same h2,aH.of_same h2,fun b hb=>hb⟩
 refine aF ?_;rw[bT (by omega)];refine ac ?_;refine az rfl ?_;unfold GA;refine aY (by omega) (by omega) ?_;rw[a7];obtain⟨bv,cp,arr,t,e,hbv,s1,s2,s3⟩:=hO.viewF (F:=Part.cells) (sz:=6) (fun _=>rfl) (by omega) (show 0<L.length by omega);cases e;have hmv:∀{w1 w2:World},aH (fun k=>k=bv) w1 w2→aH (bf (.slice (some ⟨bv,0,none⟩) L.length sc)) w1 w2:=fun h=>h.mono fun k _ e=>by subst e; exact⟨0,_,_,rfl⟩
 refine ib (L.length-(k+1)) (fun u x y wr=>y=.int .i64 ((k+1+u:Nat):Int)∧k+1+u≤L.length∧∃(i:Nat) (M:List Part),x=.int .i64 (i:Int)∧i<L.length∧jk L M del i (k+1+u)∧bV wr (.slice (some ⟨bv,0,none⟩) L.length sc) 6 (M.flatMap Part.cells)∧aH (fun k=>k=bv) w wr) ⟨jP ⟨rfl,by omega,k,L,rfl,hk,jk.first hk hkd hbef,hO.same h2,aH.of_same h2⟩,fun x y wr hx=>?_⟩;obtain⟨u,hu,⟨rfl,hle,i,M,rfl,hil,hM,hOM,hm⟩,hJ⟩:=eX hx;have hMl:=hM.len;obtain⟨bv',cp',arr',t',e',hbv',s1',s2',s3'⟩:=hOM.viewF (F:=Part.cells) (sz:=6) (fun _=>rfl) (by omega) (show 0<M.length by omega);rw[hMl]at e' s1' s2';cases e';unfold Gz;refine aK ?_;refine aM ?_;refine ac ?_;refine am (fun hlt=>?_) (fun hge=>?_)
 ·have hlt:k+1+u<L.length:=by omega
  have hMj:M[k+1+u]'(by omega)=L[k+1+u]:=by
   have:=hM.rest (k+1+u) (Nat.le_refl _);rw[List.getElem?_eq_getElem (by omega),List.getElem?_eq_getElem hlt]at this;exact Option.some.inj this
  have hsj:=s3' (k+1+u) (by omega);rw[hMj]at hsj;have hmem:L[k+1+u]∈L:=List.getElem_mem hlt;have hkeep:=fun h=>hM.keep hlt h;have hdrop:=fun h=>hM.drop hlt h;generalize hq:L[k+1+u]=q at *;unfold Gx;rw[ce];refine ah (by omega) ?_;rw[add_mk,Nat.zero_add,Int.toNat_natCast];refine au hbv' hsj (by omega) ?_;refine ar fun w11 h11 hs11 hb11=>?_;refine aQ (vs:=q.cells) hb11 rfl rfl rfl (by simp) (by simp[Part.cells]) fun w12 h12 hs12 hb12=>?_;have hb12:aX w12 wr.heap.size=some (.cells q.cells.toArray 95):=hb12;have m12:Same wr w12:=h11.trans' (h12.mono fun k _ e=>.inr (by omega));refine au (cs:=q.cells) hb12 rfl (by omega) ?_;refine gL (ht q hmem w12 (hmv (hm.trans (aH.of_same m12)))) ?_;rintro v w15 ⟨rfl,h15⟩;have m15:=m12.trans h15;refine bP ?_;refine ac ?_;refine dh (fun e=>?_) (fun e=>?_)
  ·have e:del q=false:=by simpa using e
   have hb15:=h15.get hb12 (fun h=>h);have hbv15:=m15.get hbv' (fun h=>h);refine au (cs:=q.cells) hb15 rfl (by omega) ?_;rw[ce];refine ah (by omega) ?_;rw[add_mk,Nat.zero_add,Int.toNat_natCast];have hsg:=(dY _ _ _ _ (s3' i (by omega))).1;rw[Array.length_toList]at hsg;refine aQ (vs:=q.cells) hbv15 rfl rfl rfl hsg (by simp[Part.cells]) fun w19 h19 hs19 hb19=>?_;refine aY (by omega) (by omega) ?_;unfold t6;refine aY (by omega) (by omega) ?_;rw[a7,a7];have hK:=hkeep e;have hile:=hM.le;refine hJ _ _ _ (by omega) ⟨by rw[Nat.add_assoc],by omega,i+1,M.set i q,rfl,by omega,hK,?_,hm.trans ((aH.of_same m15).trans h19)⟩;exact bV.setF (F:=Part.cells) (fun _=>rfl) hOM hbv' (x:=q) (i:=i) hb19 (by omega)
  ·have e:del q=true:=by simpa using e
   unfold t6;refine aY (by omega) (by omega) ?_;rw[a7];exact hJ _ _ _ (by omega) ⟨by rw[Nat.add_assoc],by omega,i,M,rfl,hil,hdrop e,hOM.same m15,hm.trans (aH.of_same m15)⟩
 ·have hge:k+1+u=L.length:=by omega
  unfold Gy;obtain⟨bc,n',cp',arr,tt,e,hba,v1,v2,v3,v4,v5⟩:=hOM.view (by
   intro e;have h1:=flat_len Part.cells 6 (fun _=>rfl) M;rw[e]at h1; simp at h1; omega)
  cases e;have hile:=hM.le;refine vl (by omega) v3 (by omega) ?_;rw[Nat.zero_add];refine rm hba (by rw[v2]; omega) fun w25 arr2 h25 hb25 z1 z2=>?_;refine nX (by omega) ?_;refine⟨?_,hmv (hm.trans h25),?_⟩
  ·have e1:(L.filter fun q=>!del q)=M.take i:=by rw[hM.ahead,hge,List.take_length]
   rw[e1,vk (F:=Part.cells) (sz:=6) (fun _=>rfl)];have hML:=flat_len Part.cells 6 (fun _=>rfl) M;refine⟨_,i,sc,rfl,by rw[List.length_take]; omega,by omega,v4,.inr ⟨bv,arr2,tt,rfl,hb25,by rw[z1,v2],?_⟩⟩;rw[z2,←v5,List.take_take,Nat.min_eq_left (by omega)]
  ·rintro b ⟨_,_,_,e⟩; cases e; exact⟨_,_,_,rfl⟩
theorem EL:je Tryz.prog 49=true:=by kernel_rfl
theorem ones_ints:∀l:List Int,oneCells (l.map (Value.int .i64))=true
 | []=>rfl
 | x::l=>by
  show oneCells (.int .i64 x::l.map (Value.int .i64))=true;simp only[oneCells,ones_ints l]; rfl
theorem gu {l:List Int} (hs:aZ w a n 1 (l.map (Value.int .i64))) (hn:l.length≤1000000) :
  af Tryz.prog 46 #[.slice a n c] w fun v w'=>bV w' v 1 (l.map (Value.int .i64))∧(∀k,bf v k→w.heap.size≤k)∧Same w w':=by
 have hl:n=l.length:=by have h1:=hs.1; rw[List.length_map]at h1; omega
 subst hl;refine KR ?_;unfold f46;rw[fg EL];cases a with
 | none =>
  have hL:l.length=0:=by rcases hs.2 with h | ⟨_,_,_,_,_,h,_⟩; exact h; cases h
  have:l=[]:=List.eq_nil_of_length_eq_zero hL;subst this;refine ac ?_;refine aN rfl ?_;exact⟨bV.nil _ _,(fun k hk=>by obtain⟨_,_,_,h⟩:=hk; cases h),aH.refl _ _⟩
 | some a =>
  refine ac ?_;refine az rfl ?_;unfold GY;refine aR (cs:=[]) rfl fun w5 h5 hs5 hb5=>?_;refine be pA (by omega) (vs:=[]) (bV.blk hb5 (n:=0) (by simp) (by simp[maxLen])) (Src.ofSlIs (hk:=i8.choose_spec) c (hs.same h5) (ones_ints l)) (by simp; omega) (by simp; omega) ?_;intro v' w' ho hm hf;refine⟨by simpa using ho,fun b hb=>?_,aH.after h5 hm (fun b hb=>by rw[cg hb]; exact Nat.le_refl _)⟩;rcases hf b hb with h | h
  ·rw[cg h]; exact Nat.le_refl _
  ·omega
theorem Li (h:ij U w b B) :
  af Tryz.prog 55 #[.pointer (some ⟨b,0,none⟩)] w fun v w'=>bV w' v 1 (B.nums.map (Value.int .i64))∧(∀k,bf v k→w.heap.size≤k)∧Same w w':=by
 obtain⟨bo,bi,sv,q⟩:=h;have hn:=q.nums;have hle:=q.le;obtain⟨a,n,c,rfl,hs,_⟩:=hn.is;refine KN ?_;unfold R1;rw[aJ q9];refine ac ?_;refine az rfl ?_;unfold GX;refine aq ?_;refine aa ?_;refine ao (v:=.slice a n c) q.here rfl ?_;refine ab (gu (l:=B.nums) hs (by unfold BdM.nums; rw[List.length_map]; omega)) ?_;rintro v w6 h;exact h
theorem uq:dM Tryz.prog 106=true:=by kernel_rfl
theorem QD {R:List Int} (hb:aX w bg=some (.cells #[gm,gs,gn] 174)) (ho:bV w gs 1 (R.map (Value.int .i64))) (hR:R.length≤1000000) :
  af Tryz.prog 43 #[.pointer (some ⟨bg,0,none⟩)] w fun v w'=>bV w' v 1 (R.map (Value.int .i64))∧(∀k,bf v k→w.heap.size≤k)∧Same w w':=by
 obtain⟨a,n,c,rfl,hs,_⟩:=ho.is;refine Ld ?_;unfold Se;rw[aJ uq];refine ac ?_;refine az rfl ?_;unfold Hr;refine aq ?_;refine aa ?_;refine ao (v:=.slice a n c) hb rfl ?_;refine ab (gu hs hR) ?_;rintro v w6 h;exact h
theorem wl (h:cB c w0 fx w S t B) {x:Int} {y:Nat×EK} (hf:B.l.find? (fun z=>decide (((z.1:Nat):Int)=x))=some y) :
  af Tryz.prog 56 #[.pointer (some ⟨c.bw,0,none⟩),.int .i64 x] w fun v w'=>∃s,v=.tuple #[s,.nilIface]∧bV w' s 6 ((partsOf S y.2.i.toNat).flatMap Part.cells)∧(∀k,bf s k→w.heap.size≤k)∧Same w w':=by
 have hym:=List.mem_of_find?_eq_some hf;obtain⟨i,hyi,hg⟩:=h.link.live y hym;rw[hyi,Int.toNat_natCast];refine KZ ?_;unfold R5;refine ab (ik h hf) ?_;rintro v w2 ⟨rfl,h2⟩;unfold EK.v entV;rw[hyi];refine ak rfl ?_;refine ak rfl ?_;refine ar fun w6 h6 hs6 hb6=>?_;refine aQ (vs:=[.int .i64 i,.int .i64 y.2.g]) hb6 rfl rfl rfl (by simp) (by simp) fun w7 h7 hs7 hb7=>?_;have hb7:aX w7 w2.heap.size=some (.cells #[.int .i64 i,.int .i64 y.2.g] 157):=hb7;have m7:Same w2 w7:=h6.trans' (h7.mono fun k _ e=>.inr (by omega));rw[aV bU];refine ac ?_;refine az rfl ?_;unfold G8;have md:Same w7 w7.drew:=(aH.refl (fun _=>False) _).drew;have mw:Same w w7.drew:=(h2.trans m7).trans md;have hd:=h.loc mw;have hbd:=md.get hb7 (fun h=>h);have hz:=mw.size;generalize w7.drew=wd at *;refine aq ?_;refine aa ?_;refine ao (v:=.pointer (some ⟨c.bs,0,none⟩)) hd.here rfl ?_;refine ah rfl ?_;refine au (cs:=[.int .i64 i,.int .i64 y.2.g]) hbd rfl (by omega) ?_;refine ah rfl ?_;obtain⟨o,p,U,C,hb,hU,hfx⟩:=hd.A;have hp:=Ar C.sp C.gs hg;rw[ptrV,entV]at hp;refine ab hp ?_;rintro v w14 ⟨s,rfl,hO,hsk,h14⟩;refine ak rfl ?_;refine ak rfl ?_;rw[aV bU];refine ac ?_;refine az rfl ?_;unfold G7;exact⟨s,rfl,hO,fun k hk=>by have:=hsk k hk; omega,mw.trans h14⟩
structure BeV where
 id:Nat
 pa:Option Addr
 pc:Nat
 parts:List Part
def BeV.pv (b:BeV):Value:=.slice b.pa b.parts.length b.pc
def BeV.cells (b:BeV):List Value:=[natV b.id,.slice b.pa b.parts.length b.pc]
def BeV.key (b:BeV):Nat×List Part:=(b.id,b.parts)
structure wm (lo:Nat) (w:World) (x:Value) (bl:List BeV):Prop where
 own:bV w x 2 (bl.flatMap BeV.cells)
 parts:∀b∈bl,bV w b.pv 6 (b.parts.flatMap Part.cells)
 xlo:∀k,bf x k→lo≤k
 plo:∀b∈bl,∀k,bf b.pv k→lo≤k
 ne:∀b∈bl,∀k,bf b.pv k→¬bf x k
 apart:bl.Pairwise fun b b'=>∀k,bf b.pv k→¬bf b'.pv k
theorem wm.same (h:wm lo w x bl) (m:Same w w'):wm lo w' x bl :=
 ⟨h.own.same m,fun b hb=>(h.parts b hb).same m,h.xlo,h.plo,h.ne,h.apart⟩
theorem OT:appT Tryz.prog 48 2 32=true:=by kernel_rfl
theorem A9:∃e,Tryz.prog.underlying 48=some (.slice e):=dI (by kernel_rfl)
theorem wn {B:BdM} (h:B.WF) {y:Nat×EK} (hy:y∈B.l):B.l.find? (fun z=>decide (((z.1:Nat):Int)=((y.1:Nat):Int)))=some y:=by
 cases hf:B.l.find? (fun z=>decide (((z.1:Nat):Int)=((y.1:Nat):Int)))with
 | none =>
  have:=List.find?_eq_none.1 hf y hy;simp at this
 | some z =>
  have h1:=List.mem_of_find?_eq_some hf;have h2:=List.find?_some hf;have h2:=of_decide_eq_true h2;have h2:z.1=y.1:=by omega
  rw[AE h h1 hy h2]
theorem OU (h:cB c w0 fx w S t B) (hle:B.l.length≤64) :
  af Tryz.prog 24 #[.pointer (some ⟨c.bw,0,none⟩)] w fun v w'=>∃bl,wm w.heap.size w' v bl∧bl.map BeV.key=bX S B∧Same w w':=by
 have hwf:=h.wf;have hnl:B.nums.length=B.l.length:=by unfold BdM.nums; rw[List.length_map]
 refine K6 ?_;unfold f24;rw[aJ fK];refine ac ?_;refine az rfl ?_;unfold He;refine aq ?_;refine aa ?_;refine ao (v:=.pointer (some ⟨c.bb,0,none⟩)) h.here rfl ?_;obtain⟨o,p,U,C,hb,hU,hfx⟩:=id h.A;refine ab (Li hb) ?_;rintro v w6 ⟨hO6,hk6,h6⟩;obtain⟨an,nn,cn,rfl,hsn,_⟩:=hO6.is;have hnn:nn=B.nums.length:=by have h1:=hsn.1; rw[List.length_map]at h1; omega
 subst hnn;have hz6:=h6.size;refine aK ?_;refine ib B.nums.length (fun j x y wr=>y=.int .i64 j∧∃bl,wm w6.heap.size wr x bl∧bl.map BeV.key=(bX S B).take j∧Same w6 wr) ⟨jP ⟨rfl,[],⟨bV.nil _ _,(fun b hb=>by cases hb),(fun k hk=>by obtain⟨_,_,_,e⟩:=hk; cases e),(fun b hb=>by cases hb),(fun b hb=>by cases hb),List.Pairwise.nil⟩,rfl,aH.refl _ _⟩,fun x y wr hx=>?_⟩;obtain⟨j,hj,⟨rfl,bl,hB,hbk,hmr⟩,hJ⟩:=eX hx;unfold Hd;refine aM ?_;refine ac ?_;refine am (fun hlt=>?_) (fun hge=>?_)
 ·have hlt:j<B.nums.length:=by omega
  have hltl:j<B.l.length:=by omega
  have hym:=List.getElem_mem hltl;have hnj:B.nums[j]=(((B.l[j]).1:Nat):Int):=by
   have hg:B.nums[j]?=some (((B.l[j]).1:Nat):Int):=by unfold BdM.nums; rw[List.getElem?_map,List.getElem?_eq_getElem hltl]; rfl
   rw[List.getElem?_eq_getElem hlt]at hg;exact Option.some.inj hg
  have hvj:(bX S B).take (j+1)=(bX S B).take j++[((B.l[j]).1,partsOf S (B.l[j]).2.i.toNat)]:=by
   have hv:(bX S B)[j]?=some ((B.l[j]).1,partsOf S (B.l[j]).2.i.toNat):=by unfold bX; rw[List.getElem?_map,List.getElem?_eq_getElem hltl]; rfl
   rw[List.take_add_one,hv]; rfl
  have hff:=wn hwf hym;have hmw:=h6.trans hmr;have hbll:bl.length=j:=by
   have:=congrArg List.length hbk;rw[List.length_map,List.length_take,fR]at this;omega
  unfold Hb;refine cF (F:=Value.int .i64) (l:=B.nums) (hsn.same hmr) hlt rfl ?_;rw[hnj];generalize B.l[j]=y at *;refine ab (wl (h.loc hmw) hff) ?_;rintro v w13 ⟨s,rfl,hOs,hsk,h13⟩;refine ak rfl ?_;refine ak rfl ?_;rw[aV bU];refine ac ?_;refine az rfl ?_;unfold Ha;obtain⟨pa,pn,pc,rfl,hps,_⟩:=hOs.is;have hfl:=flat_len Part.cells 6 (fun _=>rfl) (partsOf S y.2.i.toNat);have hpn:pn=(partsOf S y.2.i.toNat).length:=by have h1:=hps.1; omega
  subst hpn;refine aW (cs:=(⟨y.1,pa,pc,partsOf S y.2.i.toNat⟩:BeV).cells) rfl ?_;refine aR (cs:=(⟨y.1,pa,pc,partsOf S y.2.i.toNat⟩:BeV).cells) rfl fun w21 h21 hs21 hb21=>?_;have hfb:=flat_len BeV.cells 2 (fun _=>rfl) bl;have hlc:((⟨y.1,pa,pc,partsOf S y.2.i.toNat⟩:BeV).cells.toArray.toList).length=2:=rfl;have m21:Same wr w21:=h13.trans h21;have hzr:=hmr.size;have hz13:=h13.size;refine be OT (by omega) (hB.own.same m21) (Src.ofSlIs (hk:=A9.choose_spec) 1 (aZ.blk hb21 rfl) rfl) (by omega) (by omega) ?_;intro x' w23 hO23 m23 hf23;unfold AQ;refine aY (by omega) (by omega) ?_;rw[a7];have hOs23:bV w23 (.slice pa (partsOf S y.2.i.toNat).length pc) 6 ((partsOf S y.2.i.toNat).flatMap Part.cells):=(hOs.same h21).mod m23 fun k hk hx=>by
   have h1:=hsk k hk;have h2:=hB.own.vblk_lt hx;omega
  have hxl:∀k,bf x' k→(bf x k∨w21.heap.size≤k):=hf23;refine hJ _ _ _ hlt ⟨rfl,bl++[⟨y.1,pa,pc,partsOf S y.2.i.toNat⟩],⟨?_,fun b hb=>?_,fun k hk=>?_,fun b hb k hk=>?_,fun b hb k hk hx=>?_,?_⟩,?_,aH.after (hmr.trans m21) m23 fun k hk=>hB.xlo k hk⟩
  ·rw[List.flatMap_append]; simpa using hO23
  ·rcases List.mem_append.1 hb with hb | hb
   ·exact((hB.parts b hb).same m21).mod m23 fun k hk hx=>hB.ne b hb k hk hx
   ·have:b=⟨y.1,pa,pc,partsOf S y.2.i.toNat⟩:=by simpa using hb
    subst this; exact hOs23
  ·rcases hxl k hk with h | h
   ·exact hB.xlo k h
   ·omega
  ·rcases List.mem_append.1 hb with hb | hb
   ·exact hB.plo b hb k hk
   ·have:b=⟨y.1,pa,pc,partsOf S y.2.i.toNat⟩:=by simpa using hb
    subst this;have:=hsk k hk; omega
  ·rcases List.mem_append.1 hb with hb | hb
   ·rcases hxl k hx with h | h
    ·exact hB.ne b hb k hk h
    ·have:=(hB.parts b hb).vblk_lt hk; omega
   ·have:b=⟨y.1,pa,pc,partsOf S y.2.i.toNat⟩:=by simpa using hb
    subst this;rcases hxl k hx with h | h
    ·have h1:=hsk k hk; have h2:=hB.own.vblk_lt h; omega
    ·have h1:k<w13.heap.size:=hOs.vblk_lt hk;omega
  ·rw[List.pairwise_append];refine⟨hB.apart,List.pairwise_singleton _ _,fun b hb b' hb' k hk hk'=>?_⟩;have:b'=⟨y.1,pa,pc,partsOf S y.2.i.toNat⟩:=by simpa using hb'
   subst this;have h1:=(hB.parts b hb).vblk_lt hk;have h2:=hsk k hk';omega
  ·rw[List.map_append,hbk,hvj]; rfl
 ·have:j=B.nums.length:=by omega
  subst this;unfold Hc;rw[List.take_of_length_le (by rw[fR]; omega)]at hbk;exact⟨bl,⟨hB.own,hB.parts,fun k hk=>by have:=hB.xlo k hk; omega,fun b hb k hk=>by have:=hB.plo b hb k hk; omega,hB.ne,hB.apart⟩,hbk,h6.trans hmr⟩
theorem cz [Decidable p] {X Y:Prop} (h1:¬p→X) (h2:p→Y):aA (!decide p) X Y :=
 dh (fun h=>h1 (by simpa using h)) (fun h=>h2 (by simpa using h))
def kD (op:Int):Value:=.tuple #[.agg (rowC (dx op)).toArray,.bool (decide (0≤op∧op<36))]
theorem pH (hr:eY w) (op:Int):af Tryz.prog 83 #[.int .i64 op] w fun v w'=>v=kD op∧Same w w':=by
 by_cases hin:0≤op∧op<36
 ·obtain⟨n,rfl⟩:∃n:Nat,op=(n:Int):=⟨op.toNat,by omega⟩
  refine(qE hr n (by omega)).mono ?_;rintro v w' ⟨rfl,h⟩;refine⟨?_,h⟩;unfold kD;rw[iM n (by omega),decide_eq_true hin]
 ·refine yw ?_;unfold Qt;refine ar fun w2 h2 hs2 hb2=>?_;unfold kD;rw[jW (by omega),decide_eq_false hin];have hz:∀Q:PQ,(∀w',Same w w'→Q (.tuple #[.agg (rowC ([],0,0,0)).toArray,.bool false]) w')→qC (.int .i64 op) (.pointer (some ⟨w.heap.size,0,none⟩)) (.bool true) Q w2:=fun Q hQ=>by
   unfold qC;refine ac ?_;refine aN rfl ?_;refine aW (cs:=rowC ([],0,0,0)) rfl ?_;refine aQ (vs:=rowC ([],0,0,0)) hb2 rfl rfl rfl (by simp) (by simp[rowC]) fun w7 h7 hs7 hb7=>?_;have hb7:aX w7 w.heap.size=some (.cells (rowC ([],0,0,0)).toArray 180):=hb7;refine au (cs:=rowC ([],0,0,0)) hb7 rfl (by omega) ?_;exact hQ _ (aH.after h2 h7 (fun b hb=>by omega))
  refine aM ?_;refine ac ?_;refine cz (fun h0=>?_) (fun h0=>?_)
  ·refine bI ?_;rw[decide_eq_true (by omega)];exact hz _ fun w' h=>⟨rfl,h⟩
  ·exact hz _ fun w' h=>⟨rfl,h⟩
theorem Ba (hr:eY w) (op:Int):af Tryz.prog 49 #[.int .i64 op] w fun v w'=>v=.tuple #[.int .i64 (dx op).2.2.1,.int .i64 (dx op).2.2.2]∧Same w w':=by
 refine I5 ?_;unfold f49;refine ab (pH hr op) ?_;rintro v w2 ⟨rfl,h2⟩;unfold kD;generalize dx op=r;repeat (first | refine aq ?_ | refine ac ?_ | refine aa ?_ | refine ak rfl ?_ | refine ah (by first | exact rfl | omega) ?_ | refine aK ?_ | refine aF ?_ | refine cu ?_ | refine aM ?_ | refine db ?_ | refine bO ?_ | refine bI ?_ | refine aY (by omega) (by omega) ?_ | refine cM (by omega) (by omega) ?_ | refine bP ?_ | refine ey ?_ | refine df rfl ?_ | refine cP rfl ?_ | refine dg ?_ | refine bQ ?_ | refine dP ?_ | refine dN ?_ | refine aN (by first | exact rfl | exact co (by omega) | exact fG (bT (by omega))) ?_ | refine az (by first | exact rfl | exact bT (by omega) | exact gy (co (by omega))) ?_)
 refine ar fun w6 h6 hs6 hb6=>?_;refine aQ (vs:=rowC r) hb6 rfl rfl rfl (by simp) (by simp[rowC]) fun w7 h7 hs7 hb7=>?_;have hb7:aX w7.drew w2.heap.size=some (.cells (rowC r).toArray 180):=hb7;have m7:Same w w7.drew:=(h2.trans (aH.after h6 h7 (fun b hb=>by omega))).drew;generalize w7.drew=wd at *;repeat (first | refine aq ?_ | refine ac ?_ | refine aa ?_ | refine ak rfl ?_ | refine aj hb7 rfl ?_ | refine au hb7 rfl (by omega) ?_ | refine ah (by first | exact rfl | omega) ?_ | refine aK ?_ | refine aF ?_ | refine cu ?_ | refine aM ?_ | refine db ?_ | refine bO ?_ | refine bI ?_ | refine aY (by omega) (by omega) ?_ | refine cM (by omega) (by omega) ?_ | refine bP ?_ | refine ey ?_ | refine df rfl ?_ | refine cP rfl ?_ | refine dg ?_ | refine bQ ?_ | refine dP ?_ | refine dN ?_ | refine aN (by first | exact rfl | exact co (by omega) | exact fG (bT (by omega))) ?_ | refine az (by first | exact rfl | exact bT (by omega) | exact gy (co (by omega))) ?_)
 exact⟨rfl,m7⟩
theorem OV (hr:eY w) (op:Int):af Tryz.prog 82 #[.int .i64 op] w fun v w'=>v=.string (tx (dx op).1)∧Same w w':=by
 refine Ja ?_;unfold RJ;refine ab (pH hr op) ?_;rintro v w2 ⟨rfl,h2⟩;unfold kD;generalize dx op=r;repeat (first | refine aq ?_ | refine ac ?_ | refine aa ?_ | refine ak rfl ?_ | refine ah (by first | exact rfl | omega) ?_ | refine aK ?_ | refine aF ?_ | refine cu ?_ | refine aM ?_ | refine db ?_ | refine bO ?_ | refine bI ?_ | refine aY (by omega) (by omega) ?_ | refine cM (by omega) (by omega) ?_ | refine bP ?_ | refine ey ?_ | refine df rfl ?_ | refine cP rfl ?_ | refine dg ?_ | refine bQ ?_ | refine dP ?_ | refine dN ?_ | refine aN (by first | exact rfl | exact co (by omega) | exact fG (bT (by omega))) ?_ | refine az (by first | exact rfl | exact bT (by omega) | exact gy (co (by omega))) ?_)
 refine ar fun w6 h6 hs6 hb6=>?_;refine aQ (vs:=rowC r) hb6 rfl rfl rfl (by simp) (by simp[rowC]) fun w7 h7 hs7 hb7=>?_;have hb7:aX w7 w2.heap.size=some (.cells (rowC r).toArray 180):=hb7;repeat (first | refine aq ?_ | refine ac ?_ | refine aa ?_ | refine ak rfl ?_ | refine aj hb7 rfl ?_ | refine au hb7 rfl (by omega) ?_ | refine ah (by first | exact rfl | omega) ?_ | refine aK ?_ | refine aF ?_ | refine cu ?_ | refine aM ?_ | refine db ?_ | refine bO ?_ | refine bI ?_ | refine aY (by omega) (by omega) ?_ | refine cM (by omega) (by omega) ?_ | refine bP ?_ | refine ey ?_ | refine df rfl ?_ | refine cP rfl ?_ | refine dg ?_ | refine bQ ?_ | refine dP ?_ | refine dN ?_ | refine aN (by first | exact rfl | exact co (by omega) | exact fG (bT (by omega))) ?_ | refine az (by first | exact rfl | exact bT (by omega) | exact gy (co (by omega))) ?_)
 exact⟨rfl,h2.trans (aH.after h6 h7 (fun b hb=>by omega))⟩
theorem Lj (hr:eY w) (op:Int):af Tryz.prog 81 #[.int .i64 op] w fun v w'=>(∃j:Bool,v=.tuple #[.bool (decide (op=20∨op=21)),.bool j])∧Same w w':=by
 refine I9 ?_;unfold RI;refine ab (pH hr op) ?_;rintro v w2 ⟨rfl,h2⟩;unfold kD;generalize dx op=r;repeat (first | refine aq ?_ | refine ac ?_ | refine aa ?_ | refine ak rfl ?_ | refine ah (by first | exact rfl | omega) ?_ | refine aK ?_ | refine aF ?_ | refine cu ?_ | refine aM ?_ | refine db ?_ | refine bO ?_ | refine bI ?_ | refine aY (by omega) (by omega) ?_ | refine cM (by omega) (by omega) ?_ | refine bP ?_ | refine ey ?_ | refine df rfl ?_ | refine cP rfl ?_ | refine dg ?_ | refine bQ ?_ | refine dP ?_ | refine dN ?_ | refine aN (by first | exact rfl | exact co (by omega) | exact fG (bT (by omega))) ?_ | refine az (by first | exact rfl | exact bT (by omega) | exact gy (co (by omega))) ?_)
 refine ar fun w6 h6 hs6 hb6=>?_;refine aQ (vs:=rowC r) hb6 rfl rfl rfl (by simp) (by simp[rowC]) fun w7 h7 hs7 hb7=>?_;have m7:Same w w7:=h2.trans (aH.after h6 h7 (fun b hb=>by omega));refine aF ?_;refine ac ?_;refine am (fun h=>?_) (fun h35=>?_)
 ·unfold F5;exact⟨⟨false,by rw[decide_eq_false (by omega)]⟩,m7⟩
 unfold F9;refine aF ?_;refine ac ?_;refine am (fun h=>?_) (fun h20=>?_)
 ·unfold F6;exact⟨⟨false,by rw[decide_eq_true (by omega)]⟩,m7⟩
 unfold F8;refine aF ?_;refine ac ?_;refine am (fun h=>?_) (fun h21=>?_)
 ·unfold F7 tR yv;exact⟨⟨decide (0≤op∧op<36),by rw[decide_eq_true (show op=20∨op=21 by omega)]⟩,m7⟩
 ·unfold tR yv;exact⟨⟨decide (0≤op∧op<36),by rw[decide_eq_false (show ¬(op=20∨op=21) by omega)]⟩,m7⟩
theorem Bb:appT Tryz.prog 49 1 8=true:=by kernel_rfl
theorem OW:je Tryz.prog 27=true:=by kernel_rfl
theorem OX:appT Tryz.prog 27 3 24=true:=by kernel_rfl
theorem mV:dM Tryz.prog 54=true:=by kernel_rfl
structure HC where
 wp:Option Addr
 op:Option Addr
 i0:Int
 i1:Int
 who:Int
def HC.cells (h:HC):List Value:=[.pointer h.wp,.pointer h.op,.int .i64 h.i0,.int .i64 h.i1,.int .i64 h.who]
def millC (h:HC) (la:Option Addr) (n lc:Nat) (place:Nat) (sv:Value) (fuel:Nat) (over:Bool):Array Value :=
 #[.pointer h.wp,.pointer h.op,.int .i64 h.i0,.int .i64 h.i1,.int .i64 h.who,.slice la n lc,natV place,sv,natV fuel,.bool over]
structure eG {σ:Type} (h:HC) (l:List IN) (bM:Nat) (E X:Nat→Prop) (w:World) (m:MS σ):Prop where
 ex:∃la lc sv,aX w bM=some (.cells (millC h la l.length lc m.place sv m.fuel m.over) 114)∧aZ w la l.length 3 (l.flatMap IN.cells)∧bV w sv 1 (m.st.map nV)∧(∀k f,la=some ⟨k,f,none⟩→(X k∧k≠bM∧¬bf sv k)∧k<w.heap.size∧¬E k)∧∀k,bf sv k→X k∧k≠bM∧¬E k
 own:X bM∧¬E bM
section
variable {σ:Type} {h:HC} {l:List IN} {bM:Nat} {E X:Nat→Prop} {w w':World} {m:MS σ}
theorem eG.mod {fp:Nat→Prop} (hM:eG h l bM E X w m) (mm:aH fp w w') (hf:∀k,X k→¬fp k):eG h l bM E X w' m:=by
 obtain⟨⟨la,lc,sv,h1,h2,h3,h4,h5⟩,h6⟩:=hM;exact⟨⟨la,lc,sv,mm.get h1 (hf _ h6.1),h2.mod mm (fun k f e=>hf k (h4 k f e).1.1),h3.mod mm (fun k hk=>hf k (h5 k hk).1),fun k f e=>⟨(h4 k f e).1,Nat.lt_of_lt_of_le (h4 k f e).2.1 mm.size,(h4 k f e).2.2⟩,h5⟩,h6⟩
theorem eG.same (hM:eG h l bM E X w m) (mm:Same w w'):eG h l bM E X w' m:=hM.mod mm fun _ _ h=>h
theorem eG.weak {X':Nat→Prop} (hM:eG h l bM E X w m) (hs:∀k,X k→X' k):eG h l bM E X' w m:=by
 obtain⟨⟨la,lc,sv,h1,h2,h3,h4,h5⟩,h6⟩:=hM;exact⟨⟨la,lc,sv,h1,h2,h3,fun k f e=>⟨⟨hs k (h4 k f e).1.1,(h4 k f e).1.2⟩,(h4 k f e).2⟩,fun k hk=>⟨hs k (h5 k hk).1,(h5 k hk).2⟩⟩,hs _ h6.1,h6.2⟩
theorem eG.lt (hM:eG h l bM E X w m):bM<w.heap.size:=by
 obtain⟨⟨la,lc,sv,h1,_⟩,_⟩:=hM;exact aC h1
theorem eG.hosts (hM:eG h l bM E X w m) (s:σ):eG h l bM E X w (m.hosts s):=⟨hM.ex,hM.own⟩
theorem eG.set (hM:eG h l bM E X w m) {m':MS σ} (hst:m'.st=m.st) (mm:aH (fun k=>k=bM) w w')
  (hb:∀la lc sv,aX w bM=some (.cells (millC h la l.length lc m.place sv m.fuel m.over) 114)→aX w' bM=some (.cells (millC h la l.length lc m'.place sv m'.fuel m'.over) 114)):eG h l bM E X w' m':=by
 obtain⟨⟨la,lc,sv,h1,h2,h3,h4,h5⟩,h6⟩:=hM;exact⟨⟨la,lc,sv,hb la lc sv h1,h2.mod mm (fun k f e=>(h4 k f e).1.2.1),by rw[hst]; exact h3.mod mm (fun k hk=>(h5 k hk).2.1),fun k f e=>⟨(h4 k f e).1,Nat.lt_of_lt_of_le (h4 k f e).2.1 mm.size,(h4 k f e).2.2⟩,h5⟩,h6⟩
theorem Bc (hM:eG h l bM E X w m):af Tryz.prog 15 #[.pointer (some ⟨bM,0,none⟩)] w fun v w'=>v=.bool (eZ l.length m)∧Same w w':=by
 obtain⟨⟨la,lc,sv,hb,_⟩,_⟩:=hM;refine I0 ?_;unfold f15;have hm:Same w w.drew:=(aH.refl _ w).drew;have hb:aX w.drew bM=_:=hb;generalize w.drew=wd at *;rw[aJ mV];unfold eZ;refine ah rfl ?_;refine ac ?_;refine aN rfl ?_;refine aq ?_;refine aa ?_;refine aj hb rfl ?_;refine ah rfl ?_;refine ac ?_;refine dh (fun ho=>?_) (fun ho=>?_)
 ·have ho:m.over=false:=by simpa using ho
  repeat (first | refine aq ?_ | refine ac ?_ | refine aa ?_ | refine ak rfl ?_ | refine aj hb rfl ?_ | refine au hb rfl (by omega) ?_ | refine ah (by first | exact rfl | omega) ?_ | refine aK ?_ | refine aF ?_ | refine cu ?_ | refine aM ?_ | refine db ?_ | refine bO ?_ | refine bI ?_ | refine aY (by omega) (by omega) ?_ | refine cM (by omega) (by omega) ?_ | refine bP ?_ | refine ey ?_ | refine df rfl ?_ | refine cP rfl ?_ | refine dg ?_ | refine bQ ?_ | refine dP ?_ | refine dN ?_ | refine aN (by first | exact rfl | exact co (by omega) | exact fG (bT (by omega))) ?_ | refine az (by first | exact rfl | exact bT (by omega) | exact gy (co (by omega))) ?_)
  rw[ho,Bool.false_or];exact⟨rfl,hm⟩
 ·have ho:m.over=true:=by simpa using ho
  rw[ho,Bool.true_or];exact⟨rfl,hm⟩
theorem Bd (hM:eG h l bM E X w m):af Tryz.prog 18 #[.pointer (some ⟨bM,0,none⟩)] w fun v w'=>v=natV m.fuel∧w'=w:=by
 obtain⟨⟨la,lc,sv,hb,_⟩,_⟩:=hM;refine IZ ?_;unfold RE;rw[aJ mV];repeat (first | refine aq ?_ | refine ac ?_ | refine aa ?_ | refine ak rfl ?_ | refine aj hb rfl ?_ | refine au hb rfl (by omega) ?_ | refine ah (by first | exact rfl | omega) ?_ | refine aK ?_ | refine aF ?_ | refine cu ?_ | refine aM ?_ | refine db ?_ | refine bO ?_ | refine bI ?_ | refine aY (by omega) (by omega) ?_ | refine cM (by omega) (by omega) ?_ | refine bP ?_ | refine ey ?_ | refine df rfl ?_ | refine cP rfl ?_ | refine dg ?_ | refine bQ ?_ | refine dP ?_ | refine dN ?_ | refine aN (by first | exact rfl | exact co (by omega) | exact fG (bT (by omega))) ?_ | refine az (by first | exact rfl | exact bT (by omega) | exact gy (co (by omega))) ?_)
 exact⟨rfl,rfl⟩
theorem EM (hM:eG h l bM E X w m) (hn:m.st.length≤1000):af Tryz.prog 20 #[.pointer (some ⟨bM,0,none⟩)] w fun v w'=>bV w' v 1 (m.st.map nV)∧(∀k,bf v k→w.heap.size≤k)∧Same w w':=by
 obtain⟨⟨la,lc,sv,hb,_,ho,_⟩,_⟩:=hM;obtain⟨a,n,c,rfl,hs,_⟩:=ho.is;refine IY ?_;unfold f20;rw[aJ mV];repeat (first | refine aq ?_ | refine ac ?_ | refine aa ?_ | refine ak rfl ?_ | refine aj hb rfl ?_ | refine au hb rfl (by omega) ?_ | refine ah (by first | exact rfl | omega) ?_ | refine aK ?_ | refine aF ?_ | refine cu ?_ | refine aM ?_ | refine db ?_ | refine bO ?_ | refine bI ?_ | refine aY (by omega) (by omega) ?_ | refine cM (by omega) (by omega) ?_ | refine bP ?_ | refine ey ?_ | refine df rfl ?_ | refine cP rfl ?_ | refine dg ?_ | refine bQ ?_ | refine dP ?_ | refine dN ?_ | refine aN (by first | exact rfl | exact co (by omega) | exact fG (bT (by omega))) ?_ | refine az (by first | exact rfl | exact bT (by omega) | exact gy (co (by omega))) ?_)
 refine ab (gu hs (by omega)) ?_;rintro v w' ⟨h1,h2,h3⟩;exact⟨h1,h2,h3⟩
theorem OY (hM:eG h l bM E X w m) (hE:∀k,E k→k<w.heap.size) (ns:List Int) {a:Option Addr} {n c:Nat} (hs:aZ w a n 1 (ns.map nV)) (h1:m.st.length≤1000) (h2:ns.length≤1000) :
  af Tryz.prog 85 #[.pointer (some ⟨bM,0,none⟩),.slice a n c] w fun v w'=>eG h l bM E (cX w w' X) w' (m.lays ns)∧aH (fun k=>X k∧¬E k) w w':=by
 have hbM:=hM.lt;obtain⟨⟨la,lc,sv,hb,hl,ho,hla,hsv⟩,hX⟩:=hM;refine Jc ?_;unfold RL;refine aq ?_;refine aa ?_;refine aj hb rfl ?_;refine be Bb (by omega) ho (Src.ofSlIs (hk:=(dI (P:=Tryz.prog) (t:=49) (by kernel_rfl)).choose_spec) c hs (ones_ints ns)) (by simp; omega) (by simp; omega) ?_;intro v' w4 ho4 hm4 hf4;have hb4:=hm4.get hb (fun e=>(hsv _ e).2.1 rfl);have hnv:¬bf v' bM:=fun e=>by
  rcases hf4 _ e with e | e
  ·exact(hsv _ e).2.1 rfl
  ·omega
 refine aq ?_;refine aa ?_;obtain⟨a',n',c',e',_⟩:=ho4.is;subst e';refine aQ (vs:=[.slice a' n' c']) hb4 rfl rfl rfl (by simp[millC]) (by simp) fun w6 h6 hs6 hb6=>?_;have hm6:aH (fun k=>k=bM∨bf sv k) w w6:=(hm4.mono fun _ _ h=>.inr h).trans (h6.mono fun _ _ h=>.inl h);have hlt:∀k,bf (.slice a' n' c') k→k<w6.heap.size:=fun k hk=>Nat.lt_of_lt_of_le (ho4.vblk_lt hk) h6.size;refine⟨⟨⟨la,lc,_,hb6,hl.mod hm6 ?_,?_,?_,?_⟩,.inl hX.1,hX.2⟩,hm6.mono fun k _ hk=>?_⟩
 ·intro k f e hbad;obtain⟨⟨p1,p2,p3⟩,p4⟩:=hla k f e;rcases hbad with hbad | hbad
  ·exact p2 hbad
  ·exact p3 hbad
 ·show bV w6 _ 1 ((m.st++ns).map nV);rw[List.map_append];exact ho4.mod h6 fun b hv e=>hnv (e▸hv)
 ·intro k f e;obtain⟨⟨p1,p2,p3⟩,p4⟩:=hla k f e;refine⟨⟨.inl p1,p2,fun hv=>?_⟩,Nat.lt_of_lt_of_le p4.1 hm6.size,p4.2⟩;rcases hf4 _ hv with hv | hv
  ·exact p3 hv
  ·omega
 ·intro k hk;have hk6:=hlt k hk;refine⟨?_,fun e=>hnv (e▸hk),fun he=>?_⟩
  ·rcases hf4 _ hk with hv | hv
   ·exact .inl (hsv _ hv).1
   ·exact .inr ⟨hv,hk6⟩
  ·rcases hf4 _ hk with hv | hv
   ·exact(hsv _ hv).2.2 he
   ·have:=hE k he; omega
 ·rcases hk with rfl | hk
  ·exact hX
  ·exact⟨(hsv k hk).1,(hsv k hk).2.2⟩
end
end
section
attribute [local irreducible] kO kB bG bH kN kG aA ai aw aB bj knew bB aP ay aE bk aD aU bC bD a8 kbool kint kstr keq kun ksl bz cQ kta kmk kmm ksem ksemU bd aI aL ae kL
section
variable {σ:Type} {h:HC} {l:List IN} {bM:Nat} {E X:Nat→Prop} {w w':World} {m:MS σ}
theorem Lk (hM:eG h l bM E X w m) (k:Nat) (hk:k≤m.st.length) (h1:m.st.length≤1000) :
  af Tryz.prog 51 #[.pointer (some ⟨bM,0,none⟩),.int .i64 k] w fun v w'=>bV w' v 1 ((m.st.drop (m.st.length-k)).map nV)∧eG h l bM E X w' { m with st:=m.st.take (m.st.length-k) }∧aH (fun k=>k=bM) w w':=by
 have hbM:=hM.lt;obtain⟨⟨la,lc,sv,hb,hl,ho,hla,hsv⟩,hX⟩:=hM;have ho':=ho;obtain⟨a,n,c,rfl,hlen,hnc,hc,hbk⟩:=ho';have hn:n=m.st.length:=by simpa using hlen.symm
 subst hn;refine I7 ?_;unfold RG;have hwr:((m.st.length:Int)-(k:Int))=((m.st.length-k:Nat):Int):=by omega
 repeat (first | refine aq ?_ | refine ac ?_ | refine aa ?_ | refine ak rfl ?_ | refine aj hb rfl ?_ | refine au hb rfl (by omega) ?_ | refine ah (by first | exact rfl | omega) ?_ | refine aK ?_ | refine aF ?_ | refine cu ?_ | refine aM ?_ | refine db ?_ | refine bO ?_ | refine bI ?_ | refine aY (by omega) (by omega) ?_ | refine cM (by omega) (by omega) ?_ | refine bP ?_ | refine ey ?_ | refine df rfl ?_ | refine cP rfl ?_ | refine dg ?_ | refine bQ ?_ | refine dP ?_ | refine dN ?_ | refine aN (by first | exact rfl | exact co (by omega) | exact fG (bT (by omega))) ?_ | refine az (by first | exact rfl | exact bT (by omega) | exact gy (co (by omega))) ?_)
 rw[hwr];repeat (first | refine aq ?_ | refine ac ?_ | refine aa ?_ | refine ak rfl ?_ | refine aj hb rfl ?_ | refine au hb rfl (by omega) ?_ | refine ah (by first | exact rfl | omega) ?_ | refine aK ?_ | refine aF ?_ | refine cu ?_ | refine aM ?_ | refine db ?_ | refine bO ?_ | refine bI ?_ | refine aY (by omega) (by omega) ?_ | refine cM (by omega) (by omega) ?_ | refine bP ?_ | refine ey ?_ | refine df rfl ?_ | refine cP rfl ?_ | refine dg ?_ | refine bQ ?_ | refine dP ?_ | refine dN ?_ | refine aN (by first | exact rfl | exact co (by omega) | exact fG (bT (by omega))) ?_ | refine az (by first | exact rfl | exact bT (by omega) | exact gy (co (by omega))) ?_)
 rw[ff rfl rfl];refine ah (by simp only[loV_int,hiV_none]; omega) ?_;simp only[loV_int,hiV_none,Int.toNat_natCast,Nat.mul_one];have hsl:aZ w (if c=m.st.length-k then a else a.map fun x=>x.add (m.st.length-k)) (m.st.length-(m.st.length-k)) 1 ((m.st.drop (m.st.length-k)).map nV):=by
  refine⟨by simp,?_⟩;by_cases h0:k=0
  ·left; omega
  ·right;rcases hbk with⟨_,hc0⟩ | ⟨b,arr,t,rfl,hbb,hsz,htk⟩
   ·omega
   ·rw[if_neg (by omega)];refine⟨b,m.st.length-k,arr,t,_,by simp,hbb,?_⟩;rw[List.map_drop,←htk,Nat.mul_one,Nat.mul_one,List.drop_take]
 refine ab (gu hsl (by simp; omega)) ?_;rintro v w10 ⟨hov,hf10,h10⟩;have hb10:=h10.get hb (fun h=>h);repeat (first | refine aq ?_ | refine ac ?_ | refine aa ?_ | refine ak rfl ?_ | refine aj hb10 rfl ?_ | refine au hb10 rfl (by omega) ?_ | refine ah (by first | exact rfl | omega) ?_ | refine aK ?_ | refine aF ?_ | refine cu ?_ | refine aM ?_ | refine db ?_ | refine bO ?_ | refine bI ?_ | refine aY (by omega) (by omega) ?_ | refine cM (by omega) (by omega) ?_ | refine bP ?_ | refine ey ?_ | refine df rfl ?_ | refine cP rfl ?_ | refine dg ?_ | refine bQ ?_ | refine dP ?_ | refine dN ?_ | refine aN (by first | exact rfl | exact co (by omega) | exact fG (bT (by omega))) ?_ | refine az (by first | exact rfl | exact bT (by omega) | exact gy (co (by omega))) ?_)
 rw[ff rfl rfl];refine ah (by simp only[loV_none,hiV_int]; omega) ?_;have e1:(if c=(gZ none).toNat then a else a.map fun x=>x.add ((gZ none).toNat*1))=a:=by
  split
  ·rfl
  ·rcases hbk with⟨rfl,_⟩ | ⟨b,arr,t,rfl,_⟩
   ·rfl
   ·simp
 have e2:((rN m.st.length (some (Value.int .i64 ((m.st.length-k:Nat):Int)))).toNat-(gZ none).toNat)=m.st.length-k:=by simp
 have e3:c-(gZ none).toNat=c:=by simp
 rw[e1,e2,e3];repeat (first | refine aq ?_ | refine ac ?_ | refine aa ?_ | refine ak rfl ?_ | refine aj hb10 rfl ?_ | refine au hb10 rfl (by omega) ?_ | refine ah (by first | exact rfl | omega) ?_ | refine aK ?_ | refine aF ?_ | refine cu ?_ | refine aM ?_ | refine db ?_ | refine bO ?_ | refine bI ?_ | refine aY (by omega) (by omega) ?_ | refine cM (by omega) (by omega) ?_ | refine bP ?_ | refine ey ?_ | refine df rfl ?_ | refine cP rfl ?_ | refine dg ?_ | refine bQ ?_ | refine dP ?_ | refine dN ?_ | refine aN (by first | exact rfl | exact co (by omega) | exact fG (bT (by omega))) ?_ | refine az (by first | exact rfl | exact bT (by omega) | exact gy (co (by omega))) ?_)
 refine aQ (vs:=[.slice a (m.st.length-k) c]) hb10 rfl rfl rfl (by simp[millC]) (by simp) fun w15 h15 hs15 hb15=>?_;have hm15:aH (fun k=>k=bM) w w15:=(aH.of_same h10).trans h15;have hvb:∀b,bf (.slice a (m.st.length-k) c) b→bf (.slice a m.st.length c) b:=by
  rintro b ⟨o,n',c',e⟩;cases e;exact⟨_,_,_,rfl⟩
 refine⟨hov.mod h15 (fun b hv e=>?_),⟨⟨la,lc,_,hb15,hl.mod hm15 (fun k f e=>(hla k f e).1.2.1),?_,fun k f e=>?_,fun k hk=>hsv k (hvb k hk)⟩,hX⟩,hm15⟩
 ·have:=hf10 b hv; omega
 ·show bV w15 _ 1 ((m.st.take _).map nV);rw[List.map_take];exact(by have:=bV.cutN (sz:=1) ho (k:=m.st.length-k) (by omega); rwa [Nat.mul_one]at this:bV w _ 1 _).mod hm15 fun b hv e=>(hsv b (hvb b hv)).2.1 e
 ·obtain⟨⟨p1,p2,p3⟩,p4⟩:=hla k f e;exact⟨⟨p1,p2,fun hv=>p3 (hvb _ hv)⟩,Nat.lt_of_lt_of_le p4.1 hm15.size,p4.2⟩
theorem EN {p:Nat→Prop} (hL:cO p Sa w) (hr:eY w) (k12:p 12) (k13:p 13) (k14:p 14) (k15:p 15) (hM:eG h l bM E X w m) (hl:l.length≤1000000) (hst:m.st.length≤1000) (x:IN) :
  af Tryz.prog 48 #[.pointer (some ⟨bM,0,none⟩),.agg x.cells.toArray] w fun v w'=>v=(if dK l.length m x=0 then .nilIface else errV Sa (dK l.length m x))∧Same w w':=by
 obtain⟨⟨la,lc,sv,hb,_,ho,_⟩,_⟩:=hM;obtain⟨a,n,c,rfl,hs,hn⟩:=ho.is;have hn:n=m.st.length:=by simpa using hn rfl
 subst hn;obtain⟨r1,r2,r3,r4⟩:=gH x.op;have htx:=Nq x.op;refine I4 ?_;unfold f48;refine ar fun w2 h2 hs2 hb2=>?_;have hb2:aX w2 w.heap.size=some (.cells x.cells.toArray 80):=hb2;refine aa ?_;refine ao (v:=.int .i64 x.op) hb2 rfl ?_;refine ab (Ba (hr.same h2) x.op) ?_;rintro v w6 ⟨rfl,h6⟩;have m6:=h2.trans h6;refine ak rfl ?_;refine ak rfl ?_;refine aa ?_;refine ao (v:=.int .i64 x.op) (h6.get hb2 (fun h=>h)) rfl ?_;refine ab (Lj (hr.same m6) x.op) ?_;rintro v w12 ⟨⟨j,rfl⟩,h12⟩;have m12:=m6.trans h12;have hx12:=(h6.trans h12).get hb2 (fun h=>h);have hb12:=m12.get hb (fun h=>h);generalize hch:dK l.length m x=ch;unfold dK at hch;refine ak rfl ?_;refine ak rfl ?_;refine aq ?_;refine aa ?_;refine aj hb12 rfl ?_;refine aF ?_;refine ac ?_;refine am (fun hf=>?_) (fun hf=>?_)
 ·rw[if_pos (by omega)]at hch;subst hch;exact dD (hL.same m12) (k:=15) k15 rfl rfl ⟨rfl,m12⟩
 rw[if_neg (by omega)]at hch;refine aa ?_;refine ao (v:=.int .i64 x.op) hx12 rfl ?_;refine ab (OV (hr.same m12) x.op) ?_;rintro v w22 ⟨rfl,h22⟩;have m22:=m12.trans h22;have hx22:=h22.get hx12 (fun h=>h);have hb22:=m22.get hb (fun h=>h);refine iJ ?_;refine ac ?_;refine am (fun hf=>?_) (fun hno=>?_)
 ·rw[if_pos (htx.1 hf)]at hch;subst hch;exact dD (hL.same m22) (k:=14) k14 rfl rfl ⟨rfl,m22⟩
 rw[if_neg (fun e=>hno (htx.2 e))]at hch;generalize dx x.op=r at *;have tail:∀Q:PQ,(∀w',Same w w'→Q (if ch=0 then .nilIface else errV Sa ch) w')→(¬((m.st.length:Int)<r.2.2.1∨(m.st.length:Int)-r.2.2.1+r.2.2.2>16))→nZ (.pointer (some ⟨bM,0,none⟩)) (.pointer (some ⟨w.heap.size,0,none⟩)) (.bool (decide (x.op=20∨x.op=21))) (.bool false) Q w22:=by
  intro Q hQ hs2;rw[if_neg hs2]at hch;unfold nZ;refine ac ?_;refine az rfl ?_;refine ac ?_;have hdw:Same w w22.drew:=m22.drew;have e13:∀b:Bool,∀wz:World,Same w wz→(b=true→ch=13)→(b=false→ch=0)→qB (.bool b) Q wz:=by
   intro b wz mz h1 h2;unfold qB;refine ac ?_;refine dh (fun hb=>?_) (fun hb=>?_)
   ·have:=hQ _ mz;rw[h1 hb]at this;exact dD (hL.same mz) (k:=13) k13 rfl rfl this
   ·unfold FT;have:=hQ _ mz;rw[h2 hb]at this;exact this
  refine am (fun hj=>?_) (fun hj=>?_)
  ·have hxd:aX w22.drew w.heap.size=some (.cells x.cells.toArray 80):=hx22;have hbd:aX w22.drew bM=_:=hb22;generalize w22.drew=wd at *;refine aa ?_;refine ao (v:=.int .i64 x.a) hxd rfl ?_;refine ah rfl ?_;refine aM ?_;refine ac ?_;refine cz (fun ha=>?_) (fun ha=>?_)
   ·refine aa ?_;refine ao (v:=.int .i64 x.a) hxd rfl ?_;refine ah rfl ?_;refine aq ?_;refine aa ?_;refine aj hbd rfl ?_;refine ah rfl ?_;refine aK ?_;refine bO ?_;refine e13 _ _ hdw (fun hd=>?_) (fun hd=>?_)
    ·have hd:=of_decide_eq_true hd;rw[if_pos ⟨hj,.inr hd⟩]at hch; exact hch.symm
    ·have hd:=of_decide_eq_false hd;rw[if_neg (fun hh=>hd (hh.2.resolve_left ha))]at hch; exact hch.symm
   ·refine e13 _ _ hdw (fun _=>?_) (fun hd=>Bool.noConfusion hd);rw[if_pos ⟨hj,.inl ha⟩]at hch; exact hch.symm
  ·refine e13 _ _ hdw (fun hd=>Bool.noConfusion hd) (fun _=>?_);rw[if_neg (fun hh=>hj hh.1)]at hch; exact hch.symm
 have bad:∀Q:PQ,(∀w',Same w w'→Q (if ch=0 then .nilIface else errV Sa ch) w')→((m.st.length:Int)<r.2.2.1∨(m.st.length:Int)-r.2.2.1+r.2.2.2>16)→nZ (.pointer (some ⟨bM,0,none⟩)) (.pointer (some ⟨w.heap.size,0,none⟩)) (.bool (decide (x.op=20∨x.op=21))) (.bool true) Q w22:=by
  intro Q hQ hs2;rw[if_pos hs2]at hch;subst hch;unfold nZ;refine ac ?_;refine aN rfl ?_;exact dD (hL.same m22) (k:=12) k12 rfl rfl (hQ _ m22)
 refine aq ?_;refine aa ?_;refine aj hb22 rfl ?_;refine aK ?_;refine aM ?_;refine ac ?_;refine cz (fun h1=>?_) (fun h1=>bad _ (fun w' h=>⟨rfl,h⟩) (.inl h1));refine aq ?_;refine aa ?_;refine aj hb22 rfl ?_;refine aK ?_;refine cM (by omega) (by omega) ?_;refine aY (by omega) (by omega) ?_;refine bO ?_;by_cases h2:(m.st.length:Int)-r.2.2.1+r.2.2.2>16
 ·rw[decide_eq_true h2];exact bad _ (fun w' h=>⟨rfl,h⟩) (.inr h2)
 ·rw[decide_eq_false h2];exact tail _ (fun w' h=>⟨rfl,h⟩) (fun hh=>hh.elim h1 h2)
end
theorem ur (x:Int):0≤(IntKind.u64.wrap x).tmod 64:=by
 have:0≤IntKind.u64.wrap x:=by
  show 0≤x%_;exact Int.emod_nonneg _ (by decide)
 exact Int.tmod_nonneg _ this
theorem sZ (op y x:Int) (w:World) :
  af Tryz.prog 89 #[.int .i64 op,.int .i64 y,.int .i64 x] w fun v w'=>v=.int .i64 (im op y x)∧w'=w:=by
 refine Jk ?_;unfold RN;unfold im;refine aF ?_;refine ac ?_;refine am (fun h=>?_) (fun h7=>?_)
 ·rw[if_pos h];unfold Gd;rw[jJ];unfold tS;rw[eS]; exact⟨rfl,rfl⟩
 rw[if_neg h7];refine aF ?_;refine ac ?_;refine am (fun h=>?_) (fun h6=>?_)
 ·rw[if_pos h];unfold tS;rw[eS]; exact⟨rfl,rfl⟩
 rw[if_neg h6];refine aF ?_;refine ac ?_;refine am (fun h=>?_) (fun h8=>?_)
 ·rw[if_pos h];unfold Ge;rw[dL]; exact⟨rfl,rfl⟩
 rw[if_neg h8];refine aF ?_;refine ac ?_;refine am (fun h=>?_) (fun h9=>?_)
 ·rw[if_pos h];unfold Gf;refine ab (jh y x w) ?_;rintro v w' h;exact h
 rw[if_neg h9];refine aF ?_;refine ac ?_;refine am (fun h=>?_) (fun h10=>?_)
 ·rw[if_pos h];unfold Gh;unfold yi;refine aF ?_;refine ac ?_;refine am (fun h0=>?_) (fun h0=>?_)
  ·rw[if_pos h0]; exact⟨rfl,rfl⟩
  ·unfold Gg;rw[if_neg h0];refine ab (jh y x w) ?_;rintro v w' ⟨rfl,rfl⟩;rw[dL,lN]; exact⟨rfl,rfl⟩
 rw[if_neg h10];refine aF ?_;refine ac ?_;refine am (fun h=>?_) (fun h12=>?_)
 ·rw[if_pos h];unfold yz;rw[jH]; exact⟨rfl,rfl⟩
 rw[if_neg h12];refine aF ?_;refine ac ?_;refine am (fun h=>?_) (fun h13=>?_)
 ·rw[if_pos h];unfold yA;rw[tJ]; exact⟨rfl,rfl⟩
 rw[if_neg h13];refine aF ?_;refine ac ?_;refine am (fun h=>?_) (fun h14=>?_)
 ·rw[if_pos h];unfold yB;rw[fA]; exact⟨rfl,rfl⟩
 rw[if_neg h14];refine aF ?_;refine ac ?_;refine am (fun h=>?_) (fun h15=>?_)
 ·rw[if_pos h];unfold yC;rw[cD,fB];refine ah (by decide) ?_;rw[qh];exact ah (ur x) ⟨rfl,rfl⟩
 rw[if_neg h15];refine aF ?_;refine ac ?_;refine am (fun h=>?_) (fun h16=>?_)
 ·rw[if_pos h];unfold yD;rw[cD,fB];refine ah (by decide) ?_;rw[dz];exact ah (ur x) ⟨rfl,rfl⟩
 rw[if_neg h16];refine aF ?_;refine ac ?_;refine am (fun h=>?_) (fun h17=>?_)
 ·rw[if_pos h];unfold yE;rw[gD];refine ab (i3 _ w) ?_;rintro v w' h;exact h
 rw[if_neg h17];unfold yF;rw[gE];refine ab (i3 _ w) ?_;rintro v w' h;exact h
end
section
attribute [local irreducible] kO kB bG bH kN kG aA ai aw aB bj knew bB aP ay aE bk aD aU bC bD a8 kbool kint kstr keq kun ksl bz cQ kta kmk kmm ksem ksemU bd aI aL ae kL
def wW (h:HC) (b:Nat) (w:World):Prop:=∃la n lc place sv fuel over,aX w b=some (.cells (millC h la n lc place sv fuel over) 114)
structure j6 {σ:Type} (H:dE σ) (h:HC) (w0:World) (ok:IN→Prop) (cost:σ→Nat) (I:(Nat→Prop)→World→σ→Prop):Prop where
 base:∀{X w s},I X w s→Same w0 w
 lt:∀{X w s},I X w s→∀k,X k→w0.heap.size≤k∧k<w.heap.size
 loc:∀{X w w' s},I X w s→Same w w'→I X w' s
 less:∀{X X' w s},I X w s→(∀k,X' k→X k)→I X' w s
 grow:∀{X fp w w' s},I X w s→aH fp w w'→(∀k,fp k→X k)→I (cX w w' X) w' s
 rdo:∀s x,H.rd s x≠none→du x.op
 rdi:∀s x,ok x→du x.op→H.rd s x≠none
 read:∀{X w s b x},I X w s→wW h b w→ok x→af Tryz.prog 84 #[.pointer (some ⟨b,0,none⟩),.agg x.cells.toArray] w fun v w'=>v=.tuple #[nV ((H.rd s x).getD 0),.bool (H.rd s x).isSome]∧Same w w'
 write:∀{X w s b x top},I X w s→wW h b w→X b→ok x→(x.op=23∨x.op=27∨x.op=31∨x.op=32∨x.op=33∨x.op=34)→cost s≤5000→bZ top →
  af Tryz.prog 88 #[.pointer (some ⟨b,0,none⟩),.agg x.cells.toArray,nV top] w fun v w'=>I X w' (H.wr s x top)∧aH (fun k=>w0.heap.size≤k∧¬X k) w w'
 draw:∀{X w s b x n},I X w s→wW h b w→X b→ok x→x.op=28→cost s≤5000→bZ n →
  af Tryz.prog 87 #[.pointer (some ⟨b,0,none⟩),nV n] w fun v w'=>v=nV (H.dr s n).2∧I X w' (H.dr s n).1∧aH (fun k=>w0.heap.size≤k∧¬X k) w w'
 rd64:∀{X w s x v},I X w s→ok x→H.rd s x=some v→bZ v
 dr64:∀s n,bZ (H.dr s n).2
 costw:∀s x n,cost (H.wr s x n)≤cost s+1
 costd:∀s n,cost (H.dr s n).1≤cost s+1
structure MI {σ:Type} (h:HC) (l:List IN) (bM:Nat) (E:Nat→Prop) (I:(Nat→Prop)→World→σ→Prop) (X:Nat→Prop) (w:World) (m:MS σ):Prop where
 ml:eG h l bM E X w m
 hi:I X w m.h
 e:∀k,E k→X k
section
variable {σ:Type} {H:dE σ} {h:HC} {w0:World} {ok:IN→Prop} {cost:σ→Nat} {I:(Nat→Prop)→World→σ→Prop} {l:List IN} {bM:Nat} {E X:Nat→Prop} {w w':World} {m:MS σ}
theorem MI.same (hh:j6 H h w0 ok cost I) (hM:MI h l bM E I X w m) (mm:Same w w'):MI h l bM E I X w' m:=⟨hM.ml.same mm,hh.loc hM.hi mm,hM.e⟩
theorem MI.hat (hM:MI h l bM E I X w m):wW h bM w:=by
 obtain⟨la,lc,sv,hb,_⟩:=hM.ml.ex;exact⟨_,_,_,_,_,_,_,hb⟩
theorem MI.put (hh:j6 H h w0 ok cost I) (hM:MI h l bM E I X w m) {m':MS σ} (hs:m'.h=m.h) {fp:Nat→Prop} (mm:aH fp w w') (hf:∀k,fp k→X k∧¬E k) (hm:eG h l bM E (cX w w' X) w' m') :
  (∃X',MI h l bM E I X' w' m')∧aH (fun k=>w0.heap.size≤k∧¬E k) w w' :=
 ⟨⟨_,hm,by rw[hs]; exact hh.grow hM.hi mm fun k hk=>(hf k hk).1,fun k hk=>.inl (hM.e k hk)⟩,mm.mono fun k _ hk=>⟨(hh.lt hM.hi k (hf k hk).1).1,(hf k hk).2⟩⟩
theorem MI.act (hM:MI h l bM E I X w m) {s:σ} (hi:I X w' s) (mm:aH (fun k=>w0.heap.size≤k∧¬X k) w w') :
  MI h l bM E I X w' (m.hosts s)∧aH (fun k=>w0.heap.size≤k∧¬E k) w w' :=
 ⟨⟨(hM.ml.mod mm fun k hk hn=>hn.2 hk).hosts s,hi,hM.e⟩,mm.mono fun k _ hk=>⟨hk.1,fun he=>hk.2 (hM.e k he)⟩⟩
theorem iT (hh:j6 H h w0 ok cost I) (hM:MI h l bM E I X w m) (ns:List Int) {a:Option Addr} {n c:Nat} (hs:aZ w a n 1 (ns.map nV)) (h1:m.st.length≤16) (h2:ns.length≤3) :
  af Tryz.prog 85 #[.pointer (some ⟨bM,0,none⟩),.slice a n c] w fun v w'=>(∃X',MI h l bM E I X' w' (m.lays ns))∧aH (fun k=>w0.heap.size≤k∧¬E k) w w' :=
 (OY hM.ml (fun k hk=>(hh.lt hM.hi k (hM.e k hk)).2) ns hs (by omega) (by omega)).mono fun v w' ⟨a1,a2⟩=>hM.put hh rfl a2 (fun k hk=>hk) a1
theorem pI {ks:List Int} (hi:i<ks.length):ks[i]=cS ks i:=by
 unfold cS;rw[List.getD_eq_getElem?_getD,List.getElem?_eq_getElem hi]; rfl
def di (l:List Int):Prop:=∀v∈l,bZ v
theorem eE:bZ 0:=by unfold bZ; omega
theorem mW {l:List Int} (h:di l) (i:Nat):bZ (cS l i):=by
 by_cases hi:i<l.length
 ·rw[←pI hi]; exact h _ (List.getElem_mem hi)
 ·unfold cS;rw[List.getD_eq_getElem?_getD,List.getElem?_eq_none (by omega)]; exact eE
theorem j7 {w w':World} {ks:List Int} {e:TypeId} {K:Value→Prop} (hs:aZ w a ks.length 1 (ks.map nV)) (hi:i<ks.length) (hw:w'.heap=w.heap) (hK:K (nV (cS ks i))) :
  bz (some (.slice e)) (some 1) (.slice a ks.length c) (.int .i64 (i:Int)) fun v1=>aw v1 w' K :=
 cF (F:=nV) hs hi hw (by rw[pI hi]; exact hK)
def iU (h:HC) (w0:World) (l:List IN) (bM:Nat) (E:Nat→Prop) (I:(Nat→Prop)→World→σ→Prop) (w:World) (z:MS σ) (w':World):Prop :=
 (∃X',MI h l bM E I X' w' z)∧aH (fun k=>w0.heap.size≤k∧¬E k) w w'
theorem iU.from {z:MS σ} (h1:aH (fun k=>w0.heap.size≤k∧¬E k) w w1) (hd:iU h w0 l bM E I w1 z w'):iU h w0 l bM E I w z w':=⟨hd.1,h1.trans hd.2⟩
theorem iU.same {z:MS σ} (h1:Same w w1) (hd:iU h w0 l bM E I w1 z w'):iU h w0 l bM E I w z w':=⟨hd.1,(aH.of_same h1).trans hd.2⟩
theorem QE (hh:j6 H h w0 ok cost I) (hM:MI h l bM E I X w m) (x:IN) (hok:ok x) (hx:0≤x.op∧x.op<36) (hj:(x.op=20∨x.op=21)→0≤x.a) (hc:cost m.h≤5000) (hst:m.st.length≤16)
  {a:Option Addr} {c:Nat} {ks:List Int} (hs:aZ w a ks.length 1 (ks.map nV)) (has:ks.length=takesF x.op) (hks:di ks) :
  af Tryz.prog 50 #[.pointer (some ⟨bM,0,none⟩),.agg x.cells.toArray,.slice a ks.length c] w fun v w'=>iU h w0 l bM E I w (iy H m x ks) w':=by
 refine I6 ?_;unfold f50;refine ar fun w2 h2 hs2 hb2=>?_;have hb2:aX w2.drew w.heap.size=some (.cells x.cells.toArray 80):=hb2;have m2:Same w w2.drew:=h2.drew;generalize w2.drew=wd at *;refine aq ?_;refine aa ?_;refine au hb2 rfl (by omega) ?_;refine ah rfl ?_;have hM2:=hM.same hh m2;refine ab (hh.read hM2.hi hM2.hat hok) ?_;rintro v w6 ⟨rfl,h6⟩;have m6:=m2.trans h6;have hb6:=h6.get hb2 (fun h=>h);have hM6:=hM.same hh m6;have hs6:=hs.same m6;clear hM2;cases hr:H.rd m.h x with
 | some v =>
  have e:iy H m x ks=m.lays [v]:=by unfold iy; rw[hr]
  rw[e];refine ak rfl ?_;refine ak rfl ?_;refine ac ?_;refine aN rfl ?_;refine aR (cs:=[nV v]) rfl fun w10 h10 hs10 hb10=>?_;refine ab (iT hh (hM6.same hh h10) [v] (aZ.blk hb10 rfl) hst (by simp)) ?_;rintro v' w12 h12;exact iU.same (m6.trans h10) h12
 | none =>
  have e:iy H m x ks=ko H m x ks:=by unfold iy; rw[hr]
  rw[e];refine ak rfl ?_;refine ak rfl ?_;refine ac ?_;refine az rfl ?_;unfold F4;unfold ko;have m6d:Same w w6.drew:=m6.drew;have hM6d:=hM.same hh m6d;have hb6d:aX w6.drew w.heap.size=some (.cells x.cells.toArray 80):=hb6;have hs6d:=hs.same m6d;refine aa ?_;refine ao (v:=.int .i64 x.op) hb6 rfl ?_;refine aF ?_;refine ac ?_;refine am (fun ho=>?_) (fun h2=>?_)
  ·have ha:ks.length=1:=by rw[has,ho]; rfl
   rw[if_pos ho];unfold FU;refine j7 hs6 (i:=0) (by omega) rfl ?_;refine ah rfl ?_;refine j7 hs6 (i:=0) (by omega) rfl ?_;refine ah rfl ?_;refine aR (cs:=[nV (cS ks 0),nV (cS ks 0)]) rfl fun w10 h10 hs10 hb10=>?_;refine ab (iT hh (hM6d.same hh h10) [cS ks 0,cS ks 0] (aZ.blk hb10 rfl) hst (by simp)) ?_;rintro v' w12 h12;exact iU.same (m6d.trans h10) h12
  rw[if_neg h2];unfold F3;refine aF ?_;refine ac ?_;refine am (fun ho=>?_) (fun h4=>?_)
  ·have ha:ks.length=2:=by rw[has,ho]; rfl
   rw[if_pos ho];unfold FV;refine j7 hs6 (i:=1) (by omega) rfl ?_;refine ah rfl ?_;refine j7 hs6 (i:=0) (by omega) rfl ?_;refine ah rfl ?_;refine aR (cs:=[nV (cS ks 1),nV (cS ks 0)]) rfl fun w10 h10 hs10 hb10=>?_;refine ab (iT hh (hM6d.same hh h10) [cS ks 1,cS ks 0] (aZ.blk hb10 rfl) hst (by simp)) ?_;rintro v' w12 h12;exact iU.same (m6d.trans h10) h12
  rw[if_neg h4];unfold F2;refine aF ?_;refine ac ?_;refine am (fun ho=>?_) (fun h5=>?_)
  ·have ha:ks.length=2:=by rw[has,ho]; rfl
   rw[if_pos ho];unfold FW;refine j7 hs6 (i:=0) (by omega) rfl ?_;refine ah rfl ?_;refine j7 hs6 (i:=1) (by omega) rfl ?_;refine ah rfl ?_;refine j7 hs6 (i:=0) (by omega) rfl ?_;refine ah rfl ?_;refine aR (cs:=[nV (cS ks 0),nV (cS ks 1),nV (cS ks 0)]) rfl fun w10 h10 hs10 hb10=>?_;refine ab (iT hh (hM6d.same hh h10) [cS ks 0,cS ks 1,cS ks 0] (aZ.blk hb10 rfl) hst (by simp)) ?_;rintro v' w12 h12;exact iU.same (m6d.trans h10) h12
  rw[if_neg h5];unfold F0;refine aF ?_;refine ac ?_;refine am (fun ho=>?_) (fun h11=>?_)
  ·have ha:ks.length=1:=by rw[has,ho]; rfl
   rw[if_pos ho];unfold FX;refine j7 hs6 (i:=0) (by omega) rfl ?_;unfold nV;rw[jJ];refine aR (cs:=[nV (IntKind.i64.wrap (0-cS ks 0))]) rfl fun w10 h10 hs10 hb10=>?_;refine ab (iT hh (hM6.same hh h10) [IntKind.i64.wrap (0-cS ks 0)] (aZ.blk hb10 rfl) hst (by simp)) ?_;rintro v' w12 h12;exact iU.same (m6.trans h10) h12
  rw[if_neg h11];unfold FZ;refine aF ?_;refine ac ?_;refine am (fun ho=>?_) (fun h19=>?_)
  ·have ha:ks.length=1:=by rw[has,ho]; rfl
   rw[if_pos ho];unfold FY;refine j7 hs6 (i:=0) (by omega) rfl ?_;refine aF ?_;refine ab (i3 _ w6) ?_;rintro v' w8 ⟨rfl,rfl⟩;refine aR (cs:=[nV (fe (decide (cS ks 0=0)))]) rfl fun w10 h10 hs10 hb10=>?_;refine ab (iT hh (hM6.same hh h10) [fe (decide (cS ks 0=0))] (aZ.blk hb10 rfl) hst (by simp)) ?_;rintro v' w12 h12;exact iU.same (m6.trans h10) h12
  rw[if_neg h19];unfold yu;refine aF ?_;refine ac ?_;refine am (fun ho=>?_) (fun h28=>?_)
  ·have ha:ks.length=1:=by rw[has,ho]; rfl
   rw[if_pos ho];unfold yj;refine j7 hs6 (i:=0) (by omega) rfl ?_;refine ab (hh.draw (n:=cS ks 0) hM6.hi hM6.hat hM6.ml.own.1 hok ho hc (mW hks 0)) ?_;rintro v' w8 ⟨rfl,hi8,mm8⟩;obtain⟨hM8,mm8⟩:=hM6.act hi8 mm8;refine aR (cs:=[nV (H.dr m.h (cS ks 0)).2]) rfl fun w10 h10 hs10 hb10=>?_;refine ab (iT hh (hM8.same hh h10) [(H.dr m.h (cS ks 0)).2] (aZ.blk hb10 rfl) hst (by simp)) ?_;rintro v' w12 h12;exact iU.same m6 (iU.from mm8 (iU.same h10 h12))
  rw[if_neg h28];have none6:iU h w0 l bM E I w m w6:=iU.same m6 ⟨⟨_,hM6⟩,aH.refl _ _⟩;unfold ys;refine aF ?_;refine ac ?_;refine am (fun ho=>?_) (fun h0=>?_)
  ·rw[if_pos ho];unfold o6;refine ac ?_;refine aN (co ho) ?_;exact none6
  rw[if_neg h0];refine aF ?_;unfold o6;refine ac ?_;refine am (fun ho=>?_) (fun h3=>?_)
  ·rw[if_pos ho];exact none6
  rw[if_neg h3];unfold yr;refine aF ?_;refine ac ?_;refine am (fun ho=>?_) (fun h35=>?_)
  ·rw[if_pos ho];unfold yk;obtain⟨la,lc,sv,hb,_⟩:=hM6.ml.ex;refine aq ?_;refine aa ?_;refine bJ hb rfl rfl (by simp[millC]) fun w7 h7 hs7 hb7=>?_;refine iU.same m6 (hM6.put hh rfl h7 (fun k hk=>hk▸hM6.ml.own) ((hM6.ml.set (m':=m.ends) rfl h7 fun la' lc' sv' e=>?_).weak fun k hk=>.inl hk));rw[hb]at e;cases e;exact hb7
  rw[if_neg h35];have jmp:(x.op=20∨x.op=21)→∀Q:PQ,(∀w',iU h w0 l bM E I w (m.goes x.a.toNat) w'→Q (.tuple #[]) w')→oY (.pointer (some ⟨bM,0,none⟩)) (.pointer (some ⟨w.heap.size,0,none⟩)) Q w6:=by
   intro ho Q hQ;unfold oY;have ha:=hj ho;refine aa ?_;refine ao (v:=.int .i64 x.a) hb6 rfl ?_;obtain⟨la,lc,sv,hb,_⟩:=hM6.ml.ex;refine aq ?_;refine aa ?_;refine bJ hb rfl rfl (by simp[millC]) fun w7 h7 hs7 hb7=>?_;refine hQ _ (iU.same m6 (hM6.put hh rfl h7 (fun k hk=>hk▸hM6.ml.own) ((hM6.ml.set (m':=m.goes x.a.toNat) rfl h7 fun la' lc' sv' e=>?_).weak fun k hk=>.inl hk)));rw[hb]at e;cases e;rw[hb7];have:(.int .i64 x.a:Value)=natV x.a.toNat:=by unfold natV; rw[Int.toNat_of_nonneg ha]
   rw[this];rfl
  unfold yq;refine aF ?_;refine ac ?_;refine am (fun ho=>?_) (fun h21=>?_)
  ·have ha:ks.length=1:=by rw[has,ho]; rfl
   rw[if_pos ho];unfold yl;refine j7 hs6 (i:=0) (by omega) rfl ?_;refine cu ?_;refine ac ?_;refine am (fun hn=>?_) (fun hn=>?_)
   ·rw[if_pos hn];exact none6
   ·rw[if_neg hn];exact jmp (.inr ho) _ fun w' h=>h
  rw[if_neg h21];unfold yp;refine aF ?_;refine ac ?_;refine am (fun ho=>?_) (fun h20=>?_)
  ·rw[if_pos ho];exact jmp (.inl ho) _ fun w' h=>h
  rw[if_neg h20];have wr:(x.op=23∨x.op=27∨x.op=31∨x.op=32∨x.op=33∨x.op=34)→∀(top:Int),bZ top→∀(Q:PQ),(∀w',iU h w0 l bM E I w (m.hosts (H.wr m.h x top)) w'→Q (.tuple #[]) w')→ae Tryz.prog 88 #[.pointer (some ⟨bM,0,none⟩),.agg x.cells.toArray,nV top] w6.drew fun v w9=>Q (.tuple #[]) w9:=by
   intro ho top h64 Q hQ;refine ab (hh.write (top:=top) hM6d.hi hM6d.hat hM6d.ml.own.1 hok ho hc h64) ?_;rintro v' w8 ⟨hi8,mm8⟩;obtain⟨hM8,mm8⟩:=hM6d.act hi8 mm8;exact hQ _ (iU.same m6d (iU.from mm8 ⟨⟨_,hM8⟩,aH.refl _ _⟩))
  have wr1:ks.length=1→(x.op=23∨x.op=27∨x.op=31∨x.op=32∨x.op=33∨x.op=34)→∀(Q:PQ),(∀w',iU h w0 l bM E I w (m.hosts (H.wr m.h x (cS ks 0))) w'→Q (.tuple #[]) w')→sf (.pointer (some ⟨bM,0,none⟩)) (.slice a ks.length c) (.pointer (some ⟨w.heap.size,0,none⟩)) Q w6:=by
   intro ha ho Q hQ;unfold sf;refine aq ?_;refine aa ?_;refine au hb6d rfl (by omega) ?_;refine ah rfl ?_;refine j7 hs6 (i:=0) (by omega) rfl ?_;refine ah rfl ?_;exact wr ho _ (mW hks 0) Q hQ
  have wr0:(x.op=23∨x.op=27∨x.op=31∨x.op=32∨x.op=33∨x.op=34)→∀(Q:PQ),(∀w',iU h w0 l bM E I w (m.hosts (H.wr m.h x 0)) w'→Q (.tuple #[]) w')→sg (.pointer (some ⟨bM,0,none⟩)) (.pointer (some ⟨w.heap.size,0,none⟩)) Q w6:=by
   intro ho Q hQ;unfold sg;refine aq ?_;refine aa ?_;refine au hb6d rfl (by omega) ?_;refine ah rfl ?_;exact wr ho _ eE Q hQ
  unfold yo;refine aF ?_;refine ac ?_;refine am (fun ho=>?_) (fun h23=>?_)
  ·have ha:ks.length=1:=by rw[has,ho]; rfl
   rw[if_pos ho,decide_eq_true ho];unfold oZ;refine ac ?_;refine aN rfl ?_;exact wr1 ha (.inl ho) _ fun w' h=>h
  rw[if_neg h23];refine aF ?_;unfold oZ;refine ac ?_;refine am (fun ho=>?_) (fun h27=>?_)
  ·have ha:ks.length=1:=by rw[has,ho]; rfl
   rw[if_pos ho];exact wr1 ha (.inr (.inl ho)) _ fun w' h=>h
  rw[if_neg h27];unfold yn;refine aF ?_;refine ac ?_;refine am (fun ho=>?_) (fun h31=>?_)
  ·rw[if_pos ho,decide_eq_true ho];unfold iL;refine ac ?_;refine aN rfl ?_;exact wr0 (by omega) _ fun w' h=>h
  rw[if_neg h31];refine aF ?_;refine ac ?_;refine am (fun ho=>?_) (fun h32=>?_)
  ·rw[if_pos ho,decide_eq_true ho];unfold iL;refine ac ?_;refine aN rfl ?_;exact wr0 (by omega) _ fun w' h=>h
  rw[if_neg h32];refine aF ?_;refine ac ?_;refine am (fun ho=>?_) (fun h33=>?_)
  ·rw[if_pos ho,decide_eq_true ho];unfold iL;refine ac ?_;refine aN rfl ?_;exact wr0 (by omega) _ fun w' h=>h
  rw[if_neg h33];refine aF ?_;unfold iL;refine ac ?_;refine am (fun ho=>?_) (fun h34=>?_)
  ·rw[if_pos ho];exact wr0 (by omega) _ fun w' h=>h
  rw[if_neg h34];have hrd:¬du x.op:=fun e=>hh.rdi m.h x hok e hr;have ha:ks.length=2:=by
   obtain⟨n,hn⟩:∃n:Nat,x.op=(n:Int):=⟨x.op.toNat,by omega⟩
   have h36:n<36:=by omega
   have hall:∀n:Nat,n<36→takesF n=2∨n=0∨n=1∨n=2∨n=3∨n=11∨19≤n:=by decide
   rcases hall n h36 with hh | hh
   ·rw[has,hn]; exact hh
   ·unfold du at hrd;omega
  unfold ym;refine aa ?_;refine ao (v:=.int .i64 x.op) hb6d rfl ?_;refine ah rfl ?_;refine j7 hs6 (i:=0) (by omega) rfl ?_;refine ah rfl ?_;refine j7 hs6 (i:=1) (by omega) rfl ?_;refine ah rfl ?_;refine ab (sZ _ _ _ w6.drew) ?_;rintro v' w8 ⟨rfl,rfl⟩;refine aR (cs:=[nV (im x.op (cS ks 0) (cS ks 1))]) rfl fun w10 h10 hs10 hb10=>?_;refine ab (iT hh (hM6d.same hh h10) [im x.op (cS ks 0) (cS ks 1)] (aZ.blk hb10 rfl) hst (by simp)) ?_;rintro v' w12 h12;exact iU.same (m6d.trans h10) h12
end
end
section
attribute [local irreducible] kO kB bG bH kN kG aA ai aw aB bj knew bB aP ay aE bk aD aU bC bD a8 kbool kint kstr keq kun ksl bz cQ kta kmk kmm ksem ksemU bd aI aL ae kL
theorem EO (h:cC Sa k lo x w) (hlo:lo≤w.heap.size):af Tryz.prog 47 #[x] w fun v w'=>cC Sa k lo v w'∧Same w w':=by
 refine I3 ?_;unfold f47;refine ab (gF _ h hlo) ?_;rintro v w' ⟨h1,h2⟩;exact⟨h1,h2⟩
def gN (Sa:Nat→Addr) (k lo:Nat) (e:Value) (w:World):Prop:=if k=0 then e=.nilIface else cC Sa k lo e w
theorem gN.mod {fp:Nat→Prop} (h:gN Sa k lo x w) (hm:aH fp w w') (hf:∀b,lo≤b→b<w.heap.size→¬fp b):gN Sa k lo x w':=by
 unfold gN at *;split at h
 ·rename_i hk; rw[if_pos hk]; exact h
 ·rename_i hk; rw[if_neg hk]; exact h.mod hm hf
theorem gN.mono (h:gN Sa k lo x w) (hlo:lo'≤lo):gN Sa k lo' x w:=by
 unfold gN at *;split at h
 ·rename_i hk; rw[if_pos hk]; exact h
 ·rename_i hk; rw[if_neg hk]; exact h.mono hlo
theorem gN.zero:gN Sa 0 lo .nilIface w:=by unfold gN; rw[if_pos rfl]
structure Hs (p:Nat→Prop) (Sa:Nat→Addr) (w0:World):Prop where
 hL:cO p Sa w0
 hr:eY w0
 k12:p 12
 k13:p 13
 k14:p 14
 k15:p 15
section
variable {σ:Type} {H:dE σ} {h:HC} {w0:World} {ok:IN→Prop} {cost:σ→Nat} {I:(Nat→Prop)→World→σ→Prop} {l:List IN} {bM:Nat} {E X:Nat→Prop} {w w':World} {m:MS σ} {p:Nat→Prop} {Sa:Nat→Addr}
theorem Be (ht:Hs p Sa w0) (hh:j6 H h w0 ok cost I) (hM:MI h l bM E I X w m) (hg:m.good l.length) (hl:l.length≤1000000) (hok:∀x∈l,ok x) (hc:cost m.h≤5000) (hnum:di m.st) :
  af Tryz.prog 21 #[.pointer (some ⟨bM,0,none⟩)] w fun v w'=>(∃e,v=.tuple #[.bool (cE H l m).2.1,e]∧gN Sa (cE H l m).2.2 w.heap.size e w')∧iU h w0 l bM E I w (cE H l m).1 w':=by
 have hb0:=hh.base hM.hi;obtain⟨hg1,hg2,hg3⟩:=hg;have hbM:=hM.ml.lt;refine IW ?_;unfold f21;rw[aJ mV];refine ac ?_;refine az rfl ?_;refine ab (Bc hM.ml) ?_;rintro v w7 ⟨rfl,h7⟩;refine ac ?_;have h7d:Same w w7.drew:=h7.drew;refine dh (fun ho=>?_) (fun ho=>?_)
 ·rw[eF ho];exact⟨⟨_,rfl,gN.zero⟩,iU.same h7 ⟨⟨_,hM.same hh h7⟩,aH.refl _ _⟩⟩
 unfold FL;have hM7:=hM.same hh h7d;generalize w7.drew=wd at *;obtain⟨la,lc,sv,hb,hli,ho',hla,hsv⟩:=hM7.ml.ex;have hp:m.place<l.length:=by
  unfold eZ at ho;rw[Bool.or_eq_false_iff]at ho;have:=of_decide_eq_false ho.2;omega
 have ho:¬eZ l.length m=true:=by rw[ho]; decide
 have hx:l[m.place]?=some (l[m.place]):=List.getElem?_eq_getElem hp;rw[fT ho hx];have hxin:l[m.place]∈l:=List.getElem_mem hp;obtain⟨b,o,cs,t,f,rfl,hbl,hle,hcs⟩:=hli.at hp (by omega);rw[d5 IN.cells 3 (fun _=>rfl) l m.place hp]at hcs;generalize l[m.place]=x at *;refine aq ?_;refine aa ?_;refine aj hb rfl ?_;refine ah rfl ?_;refine aq ?_;refine aa ?_;refine aj hb rfl ?_;refine ah rfl ?_;unfold natV;rw[ce];refine ah (by omega) ?_;rw[add_mk,Int.toNat_natCast];refine fy (cs:=x.cells) hbl (by omega) hcs (by omega) ?_;refine ah rfl ?_;refine ar fun w15 h15 hs15 hb15=>?_;have hb15':=h15.get hb (fun h=>h);refine ah ?_ ?_
 ·refine fy (cs:=x.cells) (h15.get hbl (fun h=>h)) (by omega) hcs (by omega) ?_;exact⟨rfl,rfl⟩
 refine ah ?_ ?_
 ·refine aj hb15' rfl ?_;exact⟨rfl,rfl⟩
 refine ah ?_ ?_
 ·refine aj hb15' rfl ?_;exact⟨rfl,rfl⟩
 refine aQ (vs:=x.cells) hb15 rfl rfl rfl (by simp) (by simp[IN.cells]) fun w16 h16 hs16 hb16=>?_;have hb16:aX w16 wd.heap.size=some (.cells x.cells.toArray 80):=hb16;have h16':Same wd w16:=aH.after h15 h16 (fun b hb=>by omega);have m16:=h7d.trans h16';have hM16:=hM.same hh m16;refine au hb16 rfl (by omega) ?_;refine ab (EN (ht.hL.same (hb0.trans m16)) (ht.hr.same (hb0.trans m16)) ht.k12 ht.k13 ht.k14 ht.k15 hM16.ml hl (by omega) x) ?_;rintro v w19 ⟨rfl,h19⟩;have m19:=m16.trans h19;have hM19:=hM.same hh m19;have hb19:=h19.get hb16 (fun h=>h);obtain⟨la2,lc2,sv2,hc19,_⟩:=hM19.ml.ex;by_cases hck:dK l.length m x=0
 ·rw[if_pos hck,if_neg (fun hn=>hn hck),aV bU];obtain⟨c1,c2,c3,c4,c5⟩:=o8 hck;refine ac ?_;refine az rfl ?_;unfold FK;refine aq ?_;refine aa ?_;refine aj hc19 rfl ?_;unfold natV;refine cM (by omega) (by omega) ?_;rw[show((m.fuel:Int)-1)=((m.fuel-1:Nat):Int) by omega];refine aq ?_;refine aa ?_;refine bJ hc19 rfl rfl (by simp[millC]) fun w30 h30 hs30 hb30=>?_;have hb30:aX w30 bM=some (.cells (millC h la2 l.length lc2 m.place sv2 (m.fuel-1) m.over) 114):=hb30;refine aq ?_;refine aa ?_;refine aj hb30 rfl ?_;unfold natV;refine aY (by omega) (by omega) ?_;rw[show((m.place:Int)+1)=((m.place+1:Nat):Int) by omega];refine aq ?_;refine aa ?_;refine bJ hb30 rfl rfl (by simp[millC]) fun w35 h35 hs35 hb35=>?_;have hb35:aX w35 bM=some (.cells (millC h la2 l.length lc2 (m.place+1) sv2 (m.fuel-1) m.over) 114):=hb35;have hm35:aH (fun k=>k=bM) w19 w35:=h30.trans h35;have hQ35:eG h l bM E X w35 { m with fuel:=m.fuel-1,place:=m.place+1 }:=hM19.ml.set rfl hm35 fun la' lc' sv' e=>by rw[hc19]at e; cases e; exact hb35
  have hP35:=hM19.put hh (m':={ m with fuel:=m.fuel-1,place:=m.place+1 }) rfl hm35 (fun k hk=>hk▸hM19.ml.own) (hQ35.weak fun k hk=>Or.inl hk);obtain⟨⟨X5,hM35⟩,hf35⟩:=hP35;have hx35:=hm35.get hb19 (fun e=>by have:=m16.size; have:=h7d.size; omega);have hb35s:=hh.base hM35.hi;refine aa ?_;refine ao (v:=.int .i64 x.op) hx35 rfl ?_;refine ab (Ba (ht.hr.same hb35s) x.op) ?_;rintro v w39 ⟨rfl,h39⟩;refine ak rfl ?_;refine ak rfl ?_;have h39d:Same w35 w39.drew:=h39.drew;have hM39:=hM35.same hh h39d;have hx39:=h39d.get hx35 (fun h=>h);generalize w39.drew=wk at *;refine au hx39 rfl (by omega) ?_;refine ah rfl ?_;obtain⟨rb1,rb2,rb3,rb4⟩:=gH x.op;have etk:(dx x.op).2.2.1=((takesF x.op:Nat):Int):=by unfold takesF; omega
  rw[etk];refine ab (Lk hM39.ml (takesF x.op) c3 (by show m.st.length≤1000; omega)) ?_;rintro v w44 ⟨hov,hMl44,hm44⟩;have hP44:=hM39.put hh (m':=eD m x) rfl hm44 (fun k hk=>hk▸hM39.ml.own) (eG.weak (X':=cX wk w44 X5) hMl44 fun k hk=>Or.inl hk);obtain⟨⟨X6,hM44⟩,hf44⟩:=hP44;refine ah ?_ ?_
  ·refine au (hm44.get hx39 (fun e=>by have:=m16.size; have:=h7d.size; omega)) rfl (by omega) ?_;exact⟨rfl,rfl⟩
  obtain⟨a,n,c,rfl,hs44,hn44⟩:=hov.is;have hn44:n=(m.st.drop (m.st.length-takesF x.op)).length:=by simpa using hn44 rfl
  subst hn44;refine ab (QE hh hM44 x (hok x hxin) c2 (fun hj=>(c5 hj).1) hc (by show(m.st.take _).length≤16; rw[List.length_take]; omega) hs44 (by rw[List.length_drop]; omega) (fun v hv=>hnum v (List.mem_of_mem_drop hv))) ?_;rintro v w46 h46;exact⟨⟨_,rfl,gN.zero⟩,iU.same m19 (iU.from hf35 (iU.same h39d (iU.from hf44 h46)))⟩
 ·rw[if_neg hck,if_pos hck,errV,dB bU];refine ac ?_;refine aN rfl ?_;refine aq ?_;refine aa ?_;refine bJ hc19 rfl rfl (by simp[millC]) fun w23 h23 hs23 hb23=>?_;have hb23:aX w23 bM=some (.cells (millC h la2 l.length lc2 m.place sv2 m.fuel true) 114):=hb23;have hQ23:eG h l bM E X w23 m.ends:=hM19.ml.set rfl h23 fun la' lc' sv' e=>by rw[hc19]at e; cases e; exact hb23
  have hP23:=hM19.put hh (m':=m.ends) rfl h23 (fun k hk=>hk▸hM19.ml.own) (hQ23.weak fun k hk=>Or.inl hk);obtain⟨⟨X5,hM23⟩,hf23⟩:=hP23;have hz:w.heap.size≤w23.heap.size:=Nat.le_trans m19.size h23.size;refine ab (EO (cC.sent Sa (dK l.length m x) w.heap.size w23) hz) ?_;rintro v w25 ⟨he,h25⟩;exact⟨⟨_,rfl,by unfold gN; rw[if_neg hck]; exact he⟩,iU.same m19 (iU.from hf23 ⟨⟨_,hM23.same hh h25⟩,aH.of_same h25⟩)⟩
end
end
section
attribute [local irreducible] kO kB bG bH kN kG aA ai aw aB bj knew bB aP ay aE bk aD aU bC bD a8 kbool kint kstr keq kun ksl bz cQ kta kmk kmm ksem ksemU bd aI aL ae kL
theorem pJ (hs:aZ w a n 3 us) (h1:oneCells us=true) (hn:us.length≤1099511627776) :
  af Tryz.prog 45 #[.slice a n c] w fun v w'=>bV w' v 3 us∧Same w w'∧(∀b,bf v b→w.heap.size≤b):=by
 refine I1 ?_;unfold RF;rw[fg OW];refine ac ?_;cases a with
 | none =>
  have:n=0:=by rcases hs.2 with h | ⟨_,_,_,_,_,h,_⟩; exact h; cases h
  subst this;have:us=[]:=by simpa using hs.1
  subst this;refine aN rfl ?_;exact⟨bV.nil _ _,aH.refl _ _,fun b hb=>by obtain⟨_,_,_,h⟩:=hb; cases h⟩
 | some a =>
  refine az rfl ?_;unfold FS;refine aR (cs:=[]) rfl fun w5 h5 hs5 hb5=>?_;refine be OX (by omega) (vs:=[]) (bV.blk hb5 (n:=0) (by simp) (by simp[maxLen])) (Src.ofSlIs (hk:=(dI (P:=Tryz.prog) (t:=27) (by kernel_rfl)).choose_spec) c (hs.same h5) h1) (by simp; omega) (by simp; omega) ?_;intro v' w' ho hm hf;refine⟨by simpa using ho,aH.after h5 hm (fun b hb=>by rw[cg hb]; exact Nat.le_refl _),fun b hb=>?_⟩;rcases hf b hb with h | h
  ·rw[cg h]; exact Nat.le_refl _
  ·omega
theorem Ll (k:Nat):¬bf (.slice none 0 0) k:=by rintro⟨_,_,_,e⟩; cases e
theorem IN_ones:∀l:List IN,oneCells (l.flatMap IN.cells)=true
 | []=>rfl
 | x::l=>by
  rw[List.flatMap_cons];show oneCells (.int .i64 x.op::.int .i64 x.a::.int .i64 x.b::l.flatMap IN.cells)=true;simp only[oneCells,IN_ones l]; rfl
def dv (fuel:Int):Nat:=(min (max fuel 0) 4096).toNat
def MS.first {σ:Type} (fuel:Int) (s:σ):MS σ:=⟨0,[],dv fuel,false,s⟩
theorem Ht (h:HC) (l:List IN) {a:Option Addr} {c:Nat} (hs:aZ w a l.length 3 (l.flatMap IN.cells)) (hn:l.length≤1000000) (fuel:Int) :
  af Tryz.prog 14 #[.agg h.cells.toArray,.slice a l.length c,.int .i64 fuel] w fun v w' =>
   ∃bM:Nat,v=.pointer (some ⟨bM,0,none⟩)∧w.heap.size≤bM∧Same w w'∧∀{σ:Type} (s:σ) (E X:Nat→Prop),(∀k,E k→k<w.heap.size)→eG h l bM E (cX w w' X) w' (MS.first fuel s):=by
 refine IV ?_;unfold f14;refine ar fun w2 h2 hs2 hb2=>?_;have hb2:aX w2.drew w.heap.size=some (.cells h.cells.toArray 43):=hb2;have m2:Same w w2.drew:=h2.drew;generalize w2.drew=wd at *;refine au hb2 rfl (by omega) ?_;refine ah rfl ?_;refine ab (pJ (hs.same m2) (IN_ones l) (by rw[flat_len IN.cells 3 (fun _=>rfl)]; omega)) ?_;rintro v w5 ⟨ho,h5,hf⟩;refine ah ?_ ?_
 ·refine au (h5.get hb2 (fun h=>h)) rfl (by omega) ?_;exact⟨rfl,rfl⟩
 rw[jI,lr];obtain⟨la,n,lc,e,hsl,_⟩:=ho.is;subst e;have hlen:n=l.length:=by
  have:=hsl.1;rw[flat_len IN.cells 3 (fun _=>rfl)]at this;omega
 subst hlen;have hfu:(.int .i64 (min (max fuel 0) 4096):Value)=natV (dv fuel):=by
  unfold natV dv;rw[Int.toNat_of_nonneg (by omega)]
 rw[hfu];refine aW (cs:=(millC h la l.length lc 0 (.slice none 0 0) (dv fuel) false).toList) rfl ?_;refine ar fun w12 h12 hs12 hb12=>?_;refine⟨w5.heap.size,rfl,Nat.le_trans m2.size h5.size,m2.trans (h5.trans h12),fun {σ} s E X hE=>?_⟩;have z5:=Nat.le_trans m2.size h5.size;have zz:=h12.size;refine⟨⟨la,lc,.slice none 0 0,hb12,hsl.same h12,bV.nil _ _,fun k f e=>?_,fun k hk=>absurd hk (Ll k)⟩,.inr ⟨z5,by omega⟩,fun he=>by have:=hE _ he; omega⟩;have hv:bf (.slice la l.length lc) k:=⟨f,_,_,by rw[e]⟩
 have hlt:=ho.vblk_lt hv;have hlo:=hf k hv;have:=m2.size;exact⟨⟨.inr ⟨by omega,by omega⟩,by omega,Ll k⟩,by omega,fun he=>by have:=hE _ he; omega⟩
theorem Bf {σ:Type} {H:dE σ} {cost:σ→Nat} (cw:∀s x n,cost (H.wr s x n)≤cost s+1) (cd:∀s n,cost (H.dr s n).1≤cost s+1) (m:MS σ) (x:IN) (a:List Int):cost (ko H m x a).h≤cost m.h+1:=by
 have h0:∀z:MS σ,z.h=m.h→cost z.h≤cost m.h+1:=fun z e=>by rw[e]; omega
 unfold ko;refine aG (P:=fun z:MS σ=>cost z.h≤cost m.h+1) (fun h=>h0 _ rfl) (fun h2=>?_);refine aG (P:=fun z:MS σ=>cost z.h≤cost m.h+1) (fun h=>h0 _ rfl) (fun h4=>?_);refine aG (P:=fun z:MS σ=>cost z.h≤cost m.h+1) (fun h=>h0 _ rfl) (fun h5=>?_);refine aG (P:=fun z:MS σ=>cost z.h≤cost m.h+1) (fun h=>h0 _ rfl) (fun h11=>?_);refine aG (P:=fun z:MS σ=>cost z.h≤cost m.h+1) (fun h=>h0 _ rfl) (fun h19=>?_);refine aG (P:=fun z:MS σ=>cost z.h≤cost m.h+1) (fun h=>cd m.h _) (fun h28=>?_);refine aG (P:=fun z:MS σ=>cost z.h≤cost m.h+1) (fun h=>h0 _ rfl) (fun h0'=>?_);refine aG (P:=fun z:MS σ=>cost z.h≤cost m.h+1) (fun h=>h0 _ rfl) (fun h3=>?_);refine aG (P:=fun z:MS σ=>cost z.h≤cost m.h+1) (fun h=>h0 _ rfl) (fun h35=>?_);refine aG (P:=fun z:MS σ=>cost z.h≤cost m.h+1) (fun h=>aG (P:=fun z:MS σ=>cost z.h≤cost m.h+1) (fun _=>h0 _ rfl) (fun _=>h0 _ rfl)) (fun h21=>?_);refine aG (P:=fun z:MS σ=>cost z.h≤cost m.h+1) (fun h=>h0 _ rfl) (fun h20=>?_);refine aG (P:=fun z:MS σ=>cost z.h≤cost m.h+1) (fun h=>cw m.h _ _) (fun h23=>?_);refine aG (P:=fun z:MS σ=>cost z.h≤cost m.h+1) (fun h=>cw m.h _ _) (fun h27=>?_);refine aG (P:=fun z:MS σ=>cost z.h≤cost m.h+1) (fun h=>cw m.h _ _) (fun h31=>?_);refine aG (P:=fun z:MS σ=>cost z.h≤cost m.h+1) (fun h=>cw m.h _ _) (fun h32=>?_);refine aG (P:=fun z:MS σ=>cost z.h≤cost m.h+1) (fun h=>cw m.h _ _) (fun h33=>?_);refine aG (P:=fun z:MS σ=>cost z.h≤cost m.h+1) (fun h=>cw m.h _ _) (fun h34=>?_);exact h0 _ rfl
theorem j8 (b:Bool):bZ (fe b):=by unfold fe bZ; split<;>omega
theorem fX (n:Int):bZ (IntKind.i64.wrap n):=jV n
theorem EP (op y x:Int) (hy:bZ y):bZ (im op y x):=by
 unfold im;refine aG (P:=bZ) (fun _=>fX _) (fun _=>?_);refine aG (P:=bZ) (fun _=>fX _) (fun _=>?_);refine aG (P:=bZ) (fun _=>fX _) (fun _=>?_);refine aG (P:=bZ) (fun _=>aG (P:=bZ) (fun _=>eE) (fun _=>fX _)) (fun _=>?_);refine aG (P:=bZ) (fun _=>aG (P:=bZ) (fun _=>eE) (fun _=>fX _)) (fun _=>?_);refine aG (P:=bZ) (fun _=>fX _) (fun _=>?_);refine aG (P:=bZ) (fun _=>fX _) (fun _=>?_);refine aG (P:=bZ) (fun _=>fX _) (fun _=>?_);refine aG (P:=bZ) (fun _=>fX _) (fun _=>?_);refine aG (P:=bZ) (fun _=>?_) (fun _=>?_)
 ·unfold Nr ishr;generalize (min ((IntKind.u64.wrap x).tmod 64).toNat IntKind.i64.bits)=k;have hp:(0:Int)<2^k:=Int.pow_pos (by decide);rw[Int.fdiv_eq_ediv_of_nonneg _ (by omega)];obtain⟨h1,h2⟩:=hy;refine⟨?_,?_⟩
  ·by_cases h0:0≤y
   ·have:=Int.ediv_nonneg h0 (by omega:(0:Int)≤2^k); omega
   ·refine Int.le_ediv_of_mul_le hp ?_;have:(-9223372036854775808:Int)*2^k≤ -9223372036854775808*1:=Int.mul_le_mul_of_nonpos_left (by decide) (by omega);omega
  ·by_cases h0:0≤y
   ·have:=Int.ediv_le_self (2^k) h0; omega
   ·have:=Int.ediv_neg_of_neg_of_pos (by omega:y<0) hp; omega
 refine aG (P:=bZ) (fun _=>j8 _) (fun _=>j8 _)
theorem iV {σ:Type} {m:MS σ} (h:di m.st) (hn:di ns):di (m.lays ns).st:=by
 intro v hv;have hv:v∈m.st++ns:=hv;rcases List.mem_append.1 hv with hv | hv
 ·exact h v hv
 ·exact hn v hv
theorem rp (h:bZ a):di [a]:=fun v hv=>by rw[List.mem_singleton.1 hv]; exact h
theorem EQ (h:bZ a) (hl:di l):di (a::l):=fun v hv=>by
 rcases List.mem_cons.1 hv with e | e
 ·rw[e]; exact h
 ·exact hl v e
theorem ER {σ:Type} {H:dE σ} (dr64:∀s n,bZ (H.dr s n).2) {m:MS σ} (x:IN) {a:List Int} (h:di m.st) (ha:di a):di (ko H m x a).st:=by
 have n0:=mW ha 0;have n1:=mW ha 1;unfold ko;refine aG (P:=fun z:MS σ=>di z.st) (fun _=>iV h (EQ n0 (rp n0))) (fun h2=>?_);refine aG (P:=fun z:MS σ=>di z.st) (fun _=>iV h (EQ n1 (rp n0))) (fun h4=>?_);refine aG (P:=fun z:MS σ=>di z.st) (fun _=>iV h (EQ n0 (EQ n1 (rp n0)))) (fun h5=>?_);refine aG (P:=fun z:MS σ=>di z.st) (fun _=>iV h (rp (fX _))) (fun h11=>?_);refine aG (P:=fun z:MS σ=>di z.st) (fun _=>iV h (rp (j8 _))) (fun h19=>?_);refine aG (P:=fun z:MS σ=>di z.st) (fun _=>iV (m:=m.hosts _) h (rp (dr64 _ _))) (fun h28=>?_);refine aG (P:=fun z:MS σ=>di z.st) (fun _=>h) (fun h0'=>?_);refine aG (P:=fun z:MS σ=>di z.st) (fun _=>h) (fun h3=>?_);refine aG (P:=fun z:MS σ=>di z.st) (fun _=>h) (fun h35=>?_);refine aG (P:=fun z:MS σ=>di z.st) (fun _=>aG (P:=fun z:MS σ=>di z.st) (fun _=>h) (fun _=>h)) (fun h21=>?_);refine aG (P:=fun z:MS σ=>di z.st) (fun _=>h) (fun h20=>?_);refine aG (P:=fun z:MS σ=>di z.st) (fun _=>h) (fun h23=>?_);refine aG (P:=fun z:MS σ=>di z.st) (fun _=>h) (fun h27=>?_);refine aG (P:=fun z:MS σ=>di z.st) (fun _=>h) (fun h31=>?_);refine aG (P:=fun z:MS σ=>di z.st) (fun _=>h) (fun h32=>?_);refine aG (P:=fun z:MS σ=>di z.st) (fun _=>h) (fun h33=>?_);refine aG (P:=fun z:MS σ=>di z.st) (fun _=>h) (fun h34=>?_);exact iV h (rp (EP _ _ _ n0))
theorem ot {σ:Type} {H:dE σ} (dr64:∀s n,bZ (H.dr s n).2) {l:List IN} {m:MS σ} (hrd:∀x∈l,∀v,H.rd m.h x=some v→bZ v) (h:di m.st):di (cE H l m).1.st:=by
 by_cases ho:eZ l.length m=true
 ·rw[eF ho]; exact h
 ·cases hx:l[m.place]? with
  | none=>rw[fU ho hx]; exact h
  | some x =>
   rw[fT ho hx];by_cases hc:dK l.length m x≠0
   ·rw[if_pos hc]; exact h
   ·rw[if_neg hc];have hp:di (eD m x).st:=fun v hv=>h v (List.mem_of_mem_take hv);have ha:di (m.st.drop (m.st.length-takesF x.op)):=fun v hv=>h v (List.mem_of_mem_drop hv);show di (iy H (eD m x) x _).st;unfold iy;cases hr:H.rd (eD m x).h x with
    | some v=>exact iV hp (rp (hrd x (List.mem_of_getElem? hx) v hr))
    | none=>exact ER dr64 x hp ha
theorem mX {σ:Type} {H:dE σ} {cost:σ→Nat} (cw:∀s x n,cost (H.wr s x n)≤cost s+1) (cd:∀s n,cost (H.dr s n).1≤cost s+1) (l:List IN) (m:MS σ):cost (cE H l m).1.h≤cost m.h+1:=by
 by_cases ho:eZ l.length m=true
 ·rw[eF ho]; exact Nat.le_succ _
 ·cases hx:l[m.place]? with
  | none=>rw[fU ho hx]; exact Nat.le_succ _
  | some x =>
   rw[fT ho hx];by_cases hc:dK l.length m x≠0
   ·rw[if_pos hc]; exact Nat.le_succ _
   ·rw[if_neg hc];show cost (iy H (eD m x) x _).h≤cost m.h+1;unfold iy;cases H.rd (eD m x).h x with
    | some v=>exact Nat.le_succ _
    | none=>exact Bf cw cd (eD m x) x _
section
variable {σ:Type} {H:dE σ} {h:HC} {w0:World} {ok:IN→Prop} {cost:σ→Nat} {I:(Nat→Prop)→World→σ→Prop} {l:List IN} {E X:Nat→Prop} {w:World} {p:Nat→Prop} {Sa:Nat→Addr}
def QF (h:HC) (w0:World) (H:dE σ) (cost:σ→Nat) (I:(Nat→Prop)→World→σ→Prop) (l:List IN) (bM:Nat) (E:Nat→Prop) (w:World) (m0:MS σ) (i:Nat) (w1:World):Prop :=
 ∃X m,MI h l bM E I X w1 m∧m.good l.length∧m.fuel+i=m0.fuel∧cost m.h+m.fuel≤4999∧di m.st∧fC H l (m.fuel+1) m=fC H l (m0.fuel+1) m0∧aH (fun k=>w0.heap.size≤k∧¬E k) w w1
theorem Hu (ht:Hs p Sa w0) (hh:j6 H h w0 ok cost I) {a:Option Addr} {c:Nat} (hs:aZ w a l.length 3 (l.flatMap IN.cells)) (hl:l.length≤1000000) (hok:∀x∈l,ok x) {s:σ} (hi:I X w s) (hE:∀k,E k→X k) (fuel:Int) (hc:cost s+dv fuel≤4999) :
  af Tryz.prog 8 #[.agg h.cells.toArray,.slice a l.length c,.int .i64 fuel] w fun v w'=>(∃e,v=.tuple #[natV (fC H l (dv fuel+1) (MS.first fuel s)).1.fuel,e]∧gN Sa (fC H l (dv fuel+1) (MS.first fuel s)).2 w.heap.size e w') ∧
   (∃X',I X' w' (fC H l (dv fuel+1) (MS.first fuel s)).1.h∧∀k,E k→X' k)∧aH (fun k=>w0.heap.size≤k∧¬E k) w w':=by
 have hb0:=hh.base hi;refine Nf ?_;unfold f8;refine ar fun w2 h2' hs2 hb2=>?_;have hb2:aX w2 w.heap.size=some (.cells h.cells.toArray 43):=hb2;refine au hb2 rfl (by omega) ?_;have hf0:dv fuel≤4096:=by unfold dv; omega
 refine ab (Ht h l (hs.same h2') hl fuel) ?_;rintro v w5 ⟨bM,rfl,hbM,h5,hMl⟩;have m5:=h2'.trans h5;have hi5:=hh.grow (fp:=fun _=>False) (hh.loc hi h2') h5 (fun k hk=>hk.elim);have hM5:MI h l bM E I (cX w2 w5 X) w5 (MS.first fuel s):=⟨hMl s E X fun k hk=>Nat.lt_of_lt_of_le (hh.lt hi k (hE k hk)).2 h2'.size,hi5,fun k hk=>.inl (hE k hk)⟩
 refine xU (dv fuel) (QF h w0 H cost I l bM E w (MS.first fuel s)) ⟨xT ⟨_,_,hM5,⟨Nat.zero_le _,Nat.zero_le _,hf0⟩,rfl,hc,(fun v hv=>absurd hv List.not_mem_nil),rfl,aH.of_same m5⟩,fun w1 hx=>?_⟩;obtain⟨i,hi',⟨X1,m,hM,hg,hfu,hco,hnum,hrun,hmod⟩,hJ⟩:=jN hx;unfold Nd;refine ab (Be ht hh hM hg hl hok (by omega) hnum) ?_;rintro v w7 ⟨⟨e,rfl,he⟩,⟨X2,hM7⟩,hm7⟩;obtain⟨g1,g2,g3⟩:=mb H hh.rdo l m hg;have gc:=mX (cost:=cost) hh.costw hh.costd l m;have hz:w.heap.size≤w1.heap.size:=hmod.size;have er:fC H l (m.fuel+1) m=if (cE H l m).2.1=true then fC H l m.fuel (cE H l m).1 else((cE H l m).1,(cE H l m).2.2):=rfl
 refine ak rfl ?_;refine ak rfl ?_;refine bP ?_;refine ac ?_;refine dh (fun hb=>?_) (fun hb=>?_)
 ·have hb:(cE H l m).2.1=false:=by simpa using hb
  rw[hb,if_neg Bool.false_ne_true]at er;rw[er]at hrun;refine ab (Bd hM7.ml) ?_;rintro v w12 ⟨rfl,rfl⟩;show _∧_∧_;have er2:fC H l (dv fuel+1) (MS.first fuel s)=((cE H l m).1,(cE H l m).2.2):=hrun.symm;rw[er2];exact⟨⟨e,rfl,he.mono hz⟩,⟨X2,hM7.hi,hM7.e⟩,hmod.trans hm7⟩
 ·have hb:(cE H l m).2.1=true:=by simpa using hb
  rw[hb,if_pos rfl]at er;have g3:=g3 hb;refine hJ _ (by have:(MS.first fuel s).fuel=dv fuel:=rfl; omega) ⟨X2,_,hM7,g1,by omega,by omega,ot hh.dr64 (fun x hx v hv=>hh.rd64 hM.hi (hok x hx) hv) hnum,?_,hmod.trans hm7⟩;rw[g3,←er,hrun]
end
end
section
attribute [local irreducible] kO kB bG bH kN kG aA ai aw aB bj knew bB aP ay aE bk aD aU bC bD a8 kbool kint kstr keq kun ksl bz cQ kta kmk kmm ksem ksemU bd aI aL ae kL
def kZ:dE Unit:=⟨fun _ x=>if x.op=1 then some x.a else none,fun _ _ _=>(),fun _ _=>((),0)⟩
def gA (x:IN):Prop:=(x.op=1∨x.op=6∨x.op=7∨x.op=20∨x.op=35)∧bZ x.a
def Bg (w0:World) (X:Nat→Prop) (w:World) (_:Unit):Prop:=Same w0 w∧∀k,X k→w0.heap.size≤k∧k<w.heap.size
def pK:HC:=⟨none,none,0,0,0⟩
theorem ou (w0:World):j6 kZ pK w0 gA (fun _=>0) (Bg w0) where
 base h:=h.1
 lt h:=h.2
 loc h m:=⟨h.1.trans m,fun k hk=>⟨(h.2 k hk).1,Nat.lt_of_lt_of_le (h.2 k hk).2 m.size⟩⟩
 less h hs:=⟨h.1,fun k hk=>h.2 k (hs k hk)⟩
 grow h m hf:=⟨h.1.trans' (m.mono fun k _ hk=>.inr (h.2 k (hf k hk)).1),fun k hk=>hk.elim (fun hk=>⟨(h.2 k hk).1,Nat.lt_of_lt_of_le (h.2 k hk).2 m.size⟩) (fun hk=>⟨Nat.le_trans h.1.size hk.1,hk.2⟩)⟩
 rdo s x h:=by
  unfold kZ at h;by_cases h1:x.op=1
  ·exact .inl h1
  ·exact absurd (if_neg h1) h
 rdi s x h hr:=by
  unfold gA at h;unfold du at hr;have h1:x.op=1:=by omega
  show(if x.op=1 then some x.a else none)≠none;rw[if_pos h1]; exact fun e=>by cases e
 read {X w s b x} h hb hok:=by
  refine yx ?_;unfold Qu;refine ar fun w2 h2 hs2 hb2=>?_;have hb2:aX w2 w.heap.size=some (.cells x.cells.toArray 80):=hb2;refine aa ?_;refine ao (v:=.int .i64 x.op) hb2 rfl ?_;have e:kZ.rd s x=if x.op=1 then some x.a else none:=rfl
  rw[e];unfold gA at hok;refine aF ?_;refine ac ?_;refine am (fun h1=>?_) (fun h1=>?_)
  ·rw[if_pos h1];refine aa ?_;refine ao (v:=.int .i64 x.a) hb2 rfl ?_;exact⟨rfl,h2⟩
  ·rw[if_neg h1];repeat (first | refine aq ?_ | refine ac ?_ | refine aa ?_ | refine ak rfl ?_ | refine ah (by first | exact rfl | omega) ?_ | refine aK ?_ | refine aF ?_ | refine cu ?_ | refine aM ?_ | refine db ?_ | refine bO ?_ | refine bI ?_ | refine aY (by omega) (by omega) ?_ | refine cM (by omega) (by omega) ?_ | refine bP ?_ | refine ey ?_ | refine df rfl ?_ | refine cP rfl ?_ | refine dg ?_ | refine bQ ?_ | refine dP ?_ | refine dN ?_ | refine aN (by first | exact rfl | exact co (by omega) | exact fG (bT (by omega))) ?_ | refine az (by first | exact rfl | exact bT (by omega) | exact gy (co (by omega))) ?_)
   exact⟨rfl,h2⟩
 write h hb hX hok ho hc _:=by unfold gA at hok; exact absurd hok (by omega)
 draw h hb hX hok ho hc _:=by unfold gA at hok; exact absurd hok (by omega)
 rd64 {X w s x v} h hok hv:=by
  have e:kZ.rd s x=if x.op=1 then some x.a else none:=rfl
  rw[e]at hv;split at hv
  ·cases hv; exact hok.2
  ·cases hv
 dr64 s n:=eE
 costw s x n:=Nat.zero_le _
 costd s n:=Nat.zero_le _
theorem Lm (ht:Hs p Sa w) {l:List IN} {a:Option Addr} {c:Nat} (hs:aZ w a l.length 3 (l.flatMap IN.cells)) (hl:l.length≤1000000) (hok:∀x∈l,gA x) (fuel:Int) {n:Nat} {k:Nat} (h1:(fC kZ l (dv fuel+1) (MS.first fuel ())).1.fuel=n) (h2:(fC kZ l (dv fuel+1) (MS.first fuel ())).2=k) :
  af Tryz.prog 8 #[.agg pK.cells.toArray,.slice a l.length c,.int .i64 fuel] w fun v w'=>(∃e,v=.tuple #[natV n,e]∧gN Sa k w.heap.size e w')∧Same w w' :=
 (Hu ht (ou w) hs hl hok (s:=()) (X:=fun _=>False) (E:=fun _=>False) ⟨aH.refl _ _,fun k hk=>hk.elim⟩ (fun k hk=>hk) fuel (by unfold dv; omega)).mono fun v w' ⟨⟨e,e1,e2⟩,⟨X',hI,_⟩,_⟩=>⟨⟨e,by rw[←h1]; exact e1,by rw[←h2]; exact e2⟩,hI.1⟩
theorem mY {l1 l2:List Int} (h1:aZ w a l1.length 1 (l1.map nV)) (h2:aZ w b l2.length 1 (l2.map nV)) (hl:l1.length≤1099511627776) :
  af Tryz.prog 19 #[.slice a l1.length c1,.slice b l2.length c2] w fun v w'=>v=.bool (decide (l1=l2))∧Same w w':=by
 refine IX ?_;unfold RD;repeat (first | refine aq ?_ | refine ac ?_ | refine aa ?_ | refine ak rfl ?_ | refine ah (by first | exact rfl | omega) ?_ | refine aK ?_ | refine aF ?_ | refine cu ?_ | refine aM ?_ | refine db ?_ | refine bO ?_ | refine bI ?_ | refine aY (by omega) (by omega) ?_ | refine cM (by omega) (by omega) ?_ | refine bP ?_ | refine ey ?_ | refine df rfl ?_ | refine cP rfl ?_ | refine dg ?_ | refine bQ ?_ | refine dP ?_ | refine dN ?_ | refine aN (by first | exact rfl | exact co (by omega) | exact fG (bT (by omega))) ?_ | refine az (by first | exact rfl | exact bT (by omega) | exact gy (co (by omega))) ?_)
 refine am (fun hne=>⟨?_,aH.refl _ _⟩) (fun heq=>?_)
 ·rw[decide_eq_false];rintro rfl;exact hne rfl
 have hlen:l1.length=l2.length:=by omega
 unfold FR;refine cA l1.length (fun i x wr=>x=.int .i64 i∧Same w wr∧l1.take i=l2.take i) ⟨c8 ⟨rfl,aH.refl _ _,by simp⟩,fun x wr hx=>?_⟩;obtain⟨i,hi,⟨rfl,hm,ht⟩,hJ⟩:=bK hx;unfold FQ;refine aK ?_;refine aM ?_;refine ac ?_;refine am (fun hlt=>?_) (fun hge=>?_)
 ·have hlt:i<l1.length:=by omega
  unfold FN;refine cF (F:=nV) (h1.same hm) hlt rfl ?_;refine ah rfl ?_;refine cF (F:=nV) (h2.same hm) (by omega) rfl ?_;refine ah rfl ?_;refine cu ?_;refine ac ?_;have t1:=List.take_add_one (l:=l1) (i:=i);have t2:=List.take_add_one (l:=l2) (i:=i);rw[List.getElem?_eq_getElem hlt]at t1;rw[List.getElem?_eq_getElem (show i<l2.length by omega)]at t2;refine am (fun hne=>⟨?_,hm.drew⟩) (fun heq=>?_)
  ·rw[decide_eq_false];rintro rfl;exact hne rfl
  ·unfold FM;repeat (first | refine aq ?_ | refine ac ?_ | refine aa ?_ | refine ak rfl ?_ | refine ah (by first | exact rfl | omega) ?_ | refine aK ?_ | refine aF ?_ | refine cu ?_ | refine aM ?_ | refine db ?_ | refine bO ?_ | refine bI ?_ | refine aY (by omega) (by omega) ?_ | refine cM (by omega) (by omega) ?_ | refine bP ?_ | refine ey ?_ | refine df rfl ?_ | refine cP rfl ?_ | refine dg ?_ | refine bQ ?_ | refine dP ?_ | refine dN ?_ | refine aN (by first | exact rfl | exact co (by omega) | exact fG (bT (by omega))) ?_ | refine az (by first | exact rfl | exact bT (by omega) | exact gy (co (by omega))) ?_)
   rw[a7];refine hJ _ _ hlt ⟨rfl,hm.drew,?_⟩;rw[t1,t2,ht,Decidable.not_not.1 heq]
 ·unfold FO;have hi':i=l1.length:=by omega
  subst hi';refine⟨?_,hm⟩;rw[List.take_length,hlen,List.take_length]at ht;rw[decide_eq_true ht]
def subL:List IN:=[⟨1,7,0⟩,⟨1,2,0⟩,⟨7,0,0⟩]
def rq:Nat→MS Unit
 | 0=>MS.first 10 ()
 | n+1=>(cE kZ subL (rq n)).1
theorem Hs.same (h:Hs p Sa w) (m:Same w w'):Hs p Sa w':=⟨h.hL.same m,h.hr.same m,h.k12,h.k13,h.k14,h.k15⟩
theorem ES:∀i,i<3→(cE kZ subL (rq i)).2=(true,0)∧(rq i).good 3
 | 0,_=>⟨rfl,by unfold MS.good; decide⟩ | 1,_=>⟨rfl,by unfold MS.good; decide⟩ | 2,_=>⟨rfl,by unfold MS.good; decide⟩ | n+3,h=>by omega
theorem Bh:∀i,i<3→di (rq i).st
 | 0,_=>fun v hv=>absurd hv List.not_mem_nil
 | 1,_=>fun v hv=>by have hv:v∈[(7:Int)]:=hv; rw[List.mem_singleton.1 hv]; unfold bZ; decide
 | 2,_=>fun v hv=>by have hv:v∈[(7:Int),2]:=hv; simp only[List.mem_cons,List.not_mem_nil,or_false]at hv; unfold bZ; rcases hv with rfl | rfl<;>decide
 | n+3,h=>by omega
theorem pL (ht:Hs p Sa w):af Tryz.prog 5 #[] w fun v w'=>v=.bool true∧Same w w':=by
 refine Nc ?_;unfold f5;refine aW (cs:=pK.cells) rfl ?_;refine aW (cs:=(⟨1,7,0⟩:IN).cells) rfl ?_;refine aW (cs:=(⟨1,2,0⟩:IN).cells) rfl ?_;refine aW (cs:=(⟨7,0,0⟩:IN).cells) rfl ?_;refine aR (cs:=subL.flatMap IN.cells) rfl fun w6 h6 hs6 hb6=>?_;refine ab (Ht pK subL (aZ.blk hb6 rfl) (by decide) 10) ?_;rintro v w8 ⟨bM,rfl,hbM,h8,hM⟩;have m8:=h6.trans h8;have hM8:MI pK subL bM (fun _=>False) (Bg w) (cX w6 w8 fun _=>False) w8 (rq 0):=⟨hM () (fun _=>False) (fun _=>False) (fun k hk=>hk.elim),⟨m8,fun k hk=>hk.elim (fun hk=>hk.elim) (fun hk=>⟨Nat.le_trans h6.size hk.1,hk.2⟩)⟩,fun k hk=>hk.elim⟩
 rw[aJ mV];refine ac ?_;refine az rfl ?_;unfold Nb;refine cA 3 (fun i x wr=>(∃X,MI pK subL bM (fun _=>False) (Bg w) X wr (rq i))∧x=.int .i64 i) ⟨c8 ⟨⟨_,hM8⟩,rfl⟩,fun x wr hx=>?_⟩;obtain⟨i,hi,⟨⟨X,hMi⟩,rfl⟩,hJ⟩:=bK hx;unfold Na;refine aM ?_;refine ac ?_;refine am (fun hlt=>?_) (fun hge=>?_)
 ·have hlt:i<3:=by omega
  obtain⟨e1,e2⟩:=ES i hlt;unfold M8;refine ab (Be ht (ou w) hMi e2 (by decide) (fun x hx=>by simp only[subL,List.mem_cons,List.not_mem_nil,or_false]at hx; unfold gA bZ; rcases hx with rfl | rfl | rfl<;>decide) (Nat.zero_le _) (Bh i hlt)) ?_;rintro v w13 ⟨⟨e,rfl,he⟩,⟨X',hM'⟩,_⟩;rw[e1]at he;rw[e1];have he:e=.nilIface:=he;subst he;refine ak rfl ?_;refine ak rfl ?_;refine bP ?_;refine ac ?_;refine aN rfl ?_;rw[aV bU];unfold IU;refine ac ?_;refine az rfl ?_;unfold M7;refine aY (by omega) (by omega) ?_;rw[a7];exact hJ _ _ hlt ⟨⟨X',hM'⟩,rfl⟩
 ·have:i=3:=by omega
  subst this;have mr:=hMi.hi.1;clear hJ hx;unfold M9;refine aW (cs:=pK.cells) rfl ?_;refine aW (cs:=(⟨20,0,0⟩:IN).cells) rfl ?_;refine aR (cs:=[(⟨20,0,0⟩:IN)].flatMap IN.cells) rfl fun w25 h25 hs25 hb25=>?_;have m25:=mr.trans h25;refine ab (Lm (l:=[⟨20,0,0⟩]) (ht.same m25) (aZ.blk hb25 rfl) (by decide) (fun x hx=>by rw[List.mem_singleton.1 hx]; unfold gA bZ; decide) 10 (n:=0) (k:=15) rfl rfl) ?_;rintro v w27 ⟨⟨x1,rfl,hx1⟩,h27⟩;have m27:=m25.trans h27;refine ak rfl ?_;refine ak rfl ?_;refine aW (cs:=pK.cells) rfl ?_;refine aW (cs:=(⟨1,0,0⟩:IN).cells) rfl ?_;refine aW (cs:=(⟨35,0,0⟩:IN).cells) rfl ?_;refine aW (cs:=(⟨6,0,0⟩:IN).cells) rfl ?_;refine aR (cs:=[(⟨1,0,0⟩:IN),⟨35,0,0⟩,⟨6,0,0⟩].flatMap IN.cells) rfl fun w35 h35 hs35 hb35=>?_;have m35:=m27.trans h35;refine ab (Lm (l:=[⟨1,0,0⟩,⟨35,0,0⟩,⟨6,0,0⟩]) (ht.same m35) (aZ.blk hb35 rfl) (by decide) (fun x hx=>by simp only[List.mem_cons,List.not_mem_nil,or_false]at hx; unfold gA bZ; rcases hx with rfl | rfl | rfl<;>decide) 10 (n:=8) (k:=0) rfl rfl) ?_;rintro v w37 ⟨⟨x2,rfl,hx2⟩,h37⟩;have hx2:x2=.nilIface:=hx2;subst hx2;have m37:=m35.trans h37;refine ak rfl ?_;refine ak rfl ?_;refine aW (cs:=pK.cells) rfl ?_;refine aW (cs:=(⟨6,0,0⟩:IN).cells) rfl ?_;refine aR (cs:=[(⟨6,0,0⟩:IN)].flatMap IN.cells) rfl fun w43 h43 hs43 hb43=>?_;have m43:=m37.trans h43;refine ab (Lm (l:=[⟨6,0,0⟩]) (ht.same m43) (aZ.blk hb43 rfl) (by decide) (fun x hx=>by rw[List.mem_singleton.1 hx]; unfold gA bZ; decide) 10 (n:=10) (k:=12) rfl rfl) ?_;rintro v w45 ⟨⟨x3,rfl,hx3⟩,h45⟩;have m45:=m43.trans h45;refine ak rfl ?_;refine ak rfl ?_;have hr45:Same wr w45:=h25.trans (h27.trans (h35.trans (h37.trans (h43.trans h45))));have hM45:=hMi.ml.same hr45;refine ab (EM hM45 (by decide)) ?_;rintro v w49 ⟨ho,_,h49⟩;obtain⟨a,m,c,rfl,hsl,hm1⟩:=ho.is;have hm1:m=[(5:Int)].length:=hm1 rfl;subst hm1;refine aR (cs:=[.int .i64 5]) rfl fun w51 h51 hs51 hb51=>?_;have hsl:aZ w49 a [(5:Int)].length 1 ([(5:Int)].map nV):=hsl;refine ab (mY (l1:=[5]) (l2:=[5]) (hsl.same h51) (aZ.blk hb51 rfl) (by decide)) ?_;rintro v w53 ⟨rfl,h53⟩;have h53':=(h49.trans h51).trans h53;have m53:=m45.trans h53';have hM53:=hM45.same h53';rw[decide_eq_true rfl];refine ac ?_;refine aN rfl ?_;refine ab (Bd hM53) ?_;rintro v w56 ⟨rfl,rfl⟩;refine aF ?_;refine ac ?_;refine aN (co (show(((rq 3).fuel:Nat):Int)=7 from rfl)) ?_;refine ab (Bc hM53) ?_;rintro v w60 ⟨rfl,h60⟩;have m60:=m53.trans h60;refine ac ?_;refine aN (show eZ subL.length (rq 3)=true from rfl) ?_;refine aF ?_;refine ac ?_;refine aN rfl ?_;have h60':=(h35.trans (h37.trans (h43.trans h45))).trans (h53'.trans h60);refine dD (ht.hL.same m60) (k:=15) ht.k15 rfl rfl ?_;have hx60:cC Sa 15 _ x1 w60:=(show cC Sa 15 _ x1 w27 from hx1).same h60';refine ab (l5 (ht.hL.same m60) ht.k15 ht.k15 hx60) ?_;rintro v w66 ⟨rfl,rfl⟩;refine ac ?_;refine aN rfl ?_;refine aF ?_;refine ac ?_;refine aN rfl ?_;rw[gp bU];refine ac ?_;refine aN rfl ?_;refine dD (ht.hL.same m60) (k:=12) ht.k12 rfl rfl ?_;have hz60:cC Sa 12 _ x3 w66:=(show cC Sa 12 _ x3 w45 from hx3).same (h53'.trans h60);refine ab (l5 (ht.hL.same m60) ht.k12 ht.k12 hz60) ?_;rintro v w75 ⟨rfl,rfl⟩;exact⟨rfl,m60⟩
end
end Go.Proofs.YtcmijampbjcbgaaGreatDoor
