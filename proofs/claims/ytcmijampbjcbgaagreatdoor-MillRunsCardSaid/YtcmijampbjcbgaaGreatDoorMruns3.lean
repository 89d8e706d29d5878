/-
Lemmas for the statements of this seat: no statement of the seat is proved in this part (3 of 8); the conditions stand in each theorem.
-/
import Derived.Test.YtcmijampbjcbgaaGreatDoorMruns2
import Derived.Test.YtcmijampbjcbgaaGreatDoorProg
import Derived.Shelf.SlSortCmp.WholeK
import Derived.Lib.SliceRun
set_option autoImplicit true
set_option relaxedAutoImplicit true
set_option linter.unusedSimpArgs false
set_option linter.unusedVariables false
set_option maxRecDepth 100000
namespace Go.Proofs.YtcmijampbjcbgaaGreatDoor
open Go Go.Ev
section
def Jr (x4 x18:Value) x19 (J5:Value→World→Prop) (Q:PQ) w:=kint .i64 .add x19 (.int .i64 1) fun v21=>J5 v21 w
def Js x4 x18 x19 (J5:Value→World→Prop) (Q:PQ) w:=kN x4<|ai 1 x4 fun v13=>aw v13 w fun v14=>ay [.int .i64 0] 1 [(0,1,x19)] 3 w fun v15 w16=>ksem Tryz.prog (Builtin.append_ #[49,49] 0 #[v14,v15]) w16 fun v17 w18=>kN x4<|ai 1 x4 fun v19=>bj 1 v19 v17 w18 fun w20=>Jr x4 x18 x19 J5 Q w20
def yO x4 (Q:PQ) w:=kN x4<|ai 1 x4 fun v22=>aw v22 w fun v23=>ae Tryz.prog 145 #[v23] w fun v24 w25=>Q (.tuple #[x4,.nilIface]) w25
def yP x19 x4 x18 (J5:Value→World→Prop) (Q:PQ) w:=kint .i64 .lss x19 x18 fun v12=>kB v12 fun b26=>aA b26 (Js x4 x18 x19 J5 Q w) (yO x4 Q w)
def yQ x0 (Q:PQ) w:=kmk (.agg #[.int .i64 0,.bool false]) 16 313 x0 x0 w fun v7 w8=>aP [.slice none 0 0,.slice none 0 0] [(0,1,v7)] fun v9=>knew (Value.cells v9) 272 w8 fun v10 w11=>kL fun(I:Value→World→Prop) (μ:Value→World→Nat)=>I (.int .i64 0) w11∧∀(x19:Value) (w1:World),I x19 w1→yP x19 v10 x0 (fun y19 w2=>I y19 w2∧μ y19 w2<μ x19 w1) Q w1
def yR x0 x11 (Q:PQ) w:=kB x11 fun b27=>aA b27 (aw (.pointer (some ⟨3,0,none⟩)) w fun v4=>ae Tryz.prog 80 #[(.string ⟨#[114,111,108,108]⟩),v4] w fun v5 w6=>Q (.tuple #[.pointer none,v5]) w6) (yQ x0 Q w)
def Nz x0 (Q:PQ) w:=kint .i64 .lss x0 (.int .i64 0) fun v1=>kB v1 fun b2=>aA (!b2) (kint .i64 .gtr x0 (.int .i64 64) fun v3=>yR x0 v3 Q w) (yR x0 (.bool true) Q w)
theorem Dv (h:Nz x0 Q w):af Tryz.prog 100 #[x0] w Q :=
 ax (c:=Tryz.f100.body.get rfl) [(5,[19])] Tryz.func100 rfl rfl (args:=[x0]) rfl (by kernel_rfl) h
def Jt x0 x2 x4 (Q:PQ) w:=kN x0<|ai 1 x0 fun v23=>aw v23 w fun v24=>bz (some (.slice 3)) (some 1) v24 x4 fun v25=>aw v25 w fun v26=>kN x0<|ai 1 x0 fun v27=>aw v27 w fun v28=>ksl (some (.slice 3)) (some 1) v28 none (some x4) fun v29=>kN x0<|ai 1 x0 fun v30=>bj 1 v30 v29 w fun w31=>kN x0<|ai 0 x0 fun v32=>aw v32 w31 fun v33=>bz (some (.slice 313)) (some 2) v33 v26 fun v34=>kN v34<|ai 0 v34 fun v35=>aw v35 w31 fun v36=>kint .i64 .add v36 (.int .i64 1) fun v37=>kN v34<|ai 0 v34 fun v38=>bj 1 v38 v37 w31 fun w39=>kN v34<|ai 1 v34 fun v40=>bj 1 v40 (.bool true) w39 fun w41=>kN v34<|ai 0 v34 fun v42=>aw v42 w41 fun v43=>aP [.int .i64 0,.int .i64 0] [(0,1,v26),(1,1,v43)] fun v44=>bj 2 x2 v44 w41 fun w45=>aB 2 x2 w45 fun v46=>Q (.tuple #[v46,.nilIface]) w45
def Ju x0 x2 (Q:PQ) w:=kN x0<|ai 1 x0 fun v11=>aw v11 w fun v12=>aU v12 fun v13=>kint .i64 .sub v13 (.int .i64 1) fun v15=>kint .i64 .lss v15 (.int .i64 0) fun v16=>kB v16 fun b47=>aA b47 (aP [.int .i64 0,.int .i64 0] [] fun v17=>aw (.pointer (some ⟨4,0,none⟩)) w fun v18=>ae Tryz.prog 80 #[(.string ⟨#[114,111,108,108]⟩),v18] w fun v19 w20=>bj 2 x2 v17 w20 fun w21=>aB 2 x2 w21 fun v22=>Q (.tuple #[v22,v19]) w21) (Jt x0 x2 v15 Q w)
def NA x0 (Q:PQ) w:=knew #[.int .i64 0,.int .i64 0] 157 w fun v1 w2=>keq Tryz.prog .eql 207 false true x0 (.pointer none) w2 fun v3 w4=>kB v3 fun b48=>aA b48 (aP [.int .i64 0,.int .i64 0] [] fun v5=>aw (.pointer (some ⟨2,0,none⟩)) w4 fun v6=>ae Tryz.prog 80 #[(.string ⟨#[114,111,108,108]⟩),v6] w4 fun v7 w8=>bj 2 v1 v5 w8 fun w9=>aB 2 v1 w9 fun v10=>Q (.tuple #[v10,v7]) w9) (Ju x0 v1 Q w4)
theorem Dw (h:NA x0 Q w):af Tryz.prog 115 #[x0] w Q :=
 ax (c:=Tryz.f115.body.get rfl) [] Tryz.func115 rfl rfl (args:=[x0]) rfl (by kernel_rfl) h
def yS x0 x3 (Q:PQ) (w:World):=kN x0<|ai 0 x0 fun v17=>aw v17 w.drew fun v18=>kG (w.drew=w.drew)<|ai 0 x3 fun v19=>aw v19 w.drew fun v20=>kG (w.drew=w.drew)<|bz (some (.slice 313)) (some 2) v18 v20 fun v21=>aB 2 v21 w.drew fun v22=>kG (w.drew=w.drew)<|knew #[.int .i64 0,.bool false] 313 w.drew fun v23 w24=>kG (aB 2 v21 w24 fun v36=>v36=v22∧w24=w24)<|kG (aw v19 w24 fun v35=>v35=v20∧w24=w24)<|kG (aw v17 w24 fun v34=>v34=v18∧w24=w24)<|bj 2 v23 v22 w24 fun w25=>ai 1 v23 fun v26=>aw v26 w25 fun v27=>kB v27 fun b28=>aA b28 (ai 0 v23 fun v29=>aw v29 w25 fun v30=>ai 1 x3 fun v31=>aw v31 w25 fun v32=>kint .i64 .eql v30 v32 fun v33=>Q v33 w25) (Q (.bool false) w25)
def pd x0 x3 x22 (Q:PQ) w:=kB x22 fun b37=>aA b37 (Q (.bool false) w) (yS x0 x3 Q w)
def NC x0 x1 (Q:PQ) w:=knew (Value.cells x1) 157 w fun v1 w2=>keq Tryz.prog .eql 207 false true x0 (.pointer none) w2.drew fun v3 w4=>kG (w4=w2.drew)<|kB v3 fun b5=>aA (!b5) (ai 0 v1 fun v6=>aw v6 w4 fun v7=>kG (w4=w4)<|kint .i64 .lss v7 (.int .i64 0) fun v8=>kB v8 fun b9=>aA (!b9) (ai 0 v1 fun v10=>aw v10 w4 fun v11=>kG (w4=w4)<|kN x0<|ai 0 x0 fun v12=>aw v12 w4 fun v13=>kG (w4=w4)<|aU v13 fun v14=>kint .i64 .geq v11 v14 fun v16=>pd x0 v1 v16 Q w4) (pd x0 v1 (.bool true) Q w4)) (pd x0 v1 (.bool true) Q w4)
theorem Dx (h:NC x0 x1 Q w):af Tryz.prog 172 #[x0,x1] w Q :=
 ax (c:=Tryz.f172.body.get rfl) [] Tryz.func172 rfl rfl (args:=[x0,x1]) rfl (by kernel_rfl) h
def Jv (x0:Value) x2 x3 (J1:Value→Value→World→Prop) (Q:PQ) w:=kint .i64 .add x2 (.int .i64 1) fun v13=>kint .i64 .sub x3 (.int .i64 1) fun v14=>J1 v13 v14 w
def yT x0 x2 x3 (J1:Value→Value→World→Prop) (Q:PQ) (w:World):=bz (some (.slice 3)) (some 1) x0 x3 fun v5=>aw v5 w.drew fun v6=>kG (w.drew=w.drew)<|bz (some (.slice 3)) (some 1) x0 x2 fun v7=>aw v7 w.drew fun v8=>kG (w.drew=w.drew)<|bz (some (.slice 3)) (some 1) x0 x2 fun v9=>bj 1 v9 v6 w.drew fun w10=>bz (some (.slice 3)) (some 1) x0 x3 fun v11=>bj 1 v11 v8 w10 fun w12=>Jv x0 x2 x3 J1 Q w12
def yU x2 x3 x0 (J1:Value→Value→World→Prop) (Q:PQ) w:=kint .i64 .lss x2 x3 fun v4=>kB v4 fun b15=>aA b15 (yT x0 x2 x3 J1 Q w) (Q (.tuple #[]) w)
def ND x0 (Q:PQ) w:=aU x0 fun v1=>kint .i64 .sub v1 (.int .i64 1) fun v3=>kL fun(I:Value→Value→World→Prop) (μ:Value→Value→World→Nat)=>I (.int .i64 0) v3 w∧∀(x2 x3:Value) (w1:World),I x2 x3 w1→yU x2 x3 x0 (fun y2 y3 w2=>I y2 y3 w2∧μ y2 y3 w2<μ x2 x3 w1) Q w1
theorem Dy (h:ND x0 Q w):af Tryz.prog 145 #[x0] w Q :=
 ax (c:=Tryz.f145.body.get rfl) [(1,[2,3])] Tryz.func145 rfl rfl (args:=[x0]) rfl (by kernel_rfl) h
end
section
attribute [local irreducible] kO kB bG bH kN kG aA ai aw aB bj knew bB aP ay aE bk aD aU bC bD a8 kbool kint kstr keq kun ksl bz cQ kta kmk kmm ksem ksemU bd aI aL ae kL
theorem yV:dM Tryz.prog 207=true:=by kernel_rfl
def genC (x:Int×Bool):List Value:=[nV x.1,.bool x.2]
def i4 (t:kU):Prop:=t=.roll∨t=.places∨t=.row
def fh (o:dd) (w:World) (b:Nat) (gens:List (Int×Bool)) (free:List Nat):Prop :=
 o b=some .roll∧gens.length≤64∧free.length≤gens.length∧(∀i∈free,i<gens.length) ∧
 ∃pv rv,aX w b=some (.cells #[pv,rv] 272)∧bV w pv 2 (gens.flatMap genC)∧bV w rv 1 (free.map natV)∧(∀k,bf pv k→o k=some .places)∧(∀k,bf rv k→o k=some .row)
theorem fh.frame {o o':dd} (h:fh o w b gens free) {fp:Nat→Prop} (hm:aH fp w w') (hf:∀k t,o k=some t→i4 t→¬fp k) (ho:bN w o o'):fh o' w' b gens free:=by
 obtain⟨h1,h2,h3,h4,pv,rv,hb,hp,hr,hpl,hrl⟩:=h;refine⟨by rw[ho b (aC hb)]; exact h1,h2,h3,h4,pv,rv,hm.get hb (hf b _ h1 (.inl rfl)),hp.mod hm fun k hk=>hf k _ (hpl k hk) (.inr (.inl rfl)),hr.mod hm fun k hk=>hf k _ (hrl k hk) (.inr (.inr rfl)),fun k hk=>?_,fun k hk=>?_⟩
 ·rw[ho k (hp.vblk_lt hk)]; exact hpl k hk
 ·rw[ho k (hr.vblk_lt hk)]; exact hrl k hk
theorem fh.same (h:fh o w b gens free) (hm:Same w w'):fh o w' b gens free:=h.frame hm (fun _ _ _ _ h=>h) (bN.refl _ _)
def ku (gens:List (Int×Bool)) (idx gen:Int):Bool:=decide (0≤idx)&&match gens[idx.toNat]? with
 | some (g,b)=>b&&decide (g=gen)
 | none=>false
def entV (idx gen:Int):Value:=.agg #[.int .i64 idx,.int .i64 gen]
theorem qH (h:fh o w b gens free) (idx gen:Int) :
  af Tryz.prog 172 #[.pointer (some ⟨b,0,none⟩),entV idx gen] w fun v w'=>v=.bool (ku gens idx gen)∧Same w w':=by
 obtain⟨h1,h2,h3,h4,pv,rv,hb,hp,hr,hpl,hrl⟩:=h;have hpi:=hp.is;obtain⟨pa,pn,pc,rfl,hps,_⟩:=hpi;have hpn:pn=gens.length:=by
  have:=hps.1;rw[flat_len genC 2 (fun _=>rfl)]at this;omega
 subst hpn;refine Dx ?_;unfold NC;refine ar fun w2 hm2 hs2 hb2=>?_;have hb2:aX w2.drew w.heap.size=some (.cells #[.int .i64 idx,.int .i64 gen] 157):=hb2;have m2:=hm2.drew;generalize w2.drew=wa at *;rw[aJ yV];have hba:=m2.get hb (fun h=>h);refine ah rfl ?_;refine ac ?_;refine aN rfl ?_;refine aa ?_;refine aj hb2 rfl ?_;refine ah rfl ?_;refine aM ?_;refine ac ?_;unfold ku;by_cases hi:idx<0
 ·refine az (gy (co hi)) ?_;unfold pd;refine ac ?_;refine aN rfl ?_;rw[bT (show ¬0≤idx by omega)];exact⟨rfl,m2⟩
 refine aN (fG (bT hi)) ?_;rw[co (show 0≤idx by omega),Bool.true_and];refine aa ?_;refine aj hb2 rfl ?_;refine ah rfl ?_;refine aq ?_;refine aa ?_;refine aj hba rfl ?_;refine ah rfl ?_;refine aK ?_;refine bI ?_;refine ac ?_;by_cases hn:(gens.length:Int)≤idx
 ·refine aN (co hn) ?_;rw[List.getElem?_eq_none (by omega)];exact⟨rfl,m2⟩
 refine az (bT hn) ?_;have hlt:idx.toNat<gens.length:=by omega
 obtain⟨bc,cp,arr,t,e,hbc,q1,q2,q3⟩:=(hp.same m2).viewF (F:=genC) (sz:=2) (fun _=>rfl) (by omega) (show 0<gens.length by omega);cases e;have hbc:aX wa.drew bc=_:=hbc;have hba:aX wa.drew b=_:=hba;have hb2:aX wa.drew w.heap.size=_:=hb2;have m2:=m2.drew;unfold yS;generalize wa.drew=wb at *;refine aq ?_;refine aa ?_;refine aj hba rfl ?_;refine ah rfl ?_;refine aa ?_;refine aj hb2 rfl ?_;refine ah rfl ?_;rw[ce];refine ah (by omega) ?_;rw[add_mk,Nat.zero_add];have q4:=q3 _ hlt;rw[List.getElem?_eq_getElem hlt];generalize gens[idx.toNat]=ga at *;obtain⟨g,al⟩:=ga;refine au hbc q4 (by omega) ?_;refine ah rfl ?_;refine ar fun w24 h24 hs24 hb24=>?_;refine ah (au (h24.get hbc (fun h=>h)) q4 (by omega) ⟨rfl,rfl⟩) ?_;refine ah (aj (h24.get hb2 (fun h=>h)) rfl ⟨rfl,rfl⟩) ?_;refine ah (aj (h24.get hba (fun h=>h)) rfl ⟨rfl,rfl⟩) ?_;refine aQ (vs:=genC (g,al)) hb24 rfl rfl rfl (by simp) (by simp[genC]) fun w25 h25 hs25 hb25=>?_;have hb25:aX w25 wb.heap.size=some (.cells #[nV g,.bool al] 313):=hb25;have m25:Same w w25:=m2.trans (aH.after h24 h25 (fun b hb=>by omega));have hsb:=m2.size;have hlb:=aC hb2;have hb2':=h25.get (h24.get hb2 (fun h=>h)) (by omega);refine aa ?_;refine aj hb25 rfl ?_;refine ac ?_;cases al with
 | false=>exact az rfl ⟨rfl,m25⟩
 | true =>
  refine aN rfl ?_;refine aa ?_;refine aj hb25 rfl ?_;refine aa ?_;refine aj hb2' rfl ?_;refine aF ?_;exact⟨by simp,m25⟩
theorem sk (h:fh o w b gens free) {L:Nat} (hL:L+1=free.length) {i:Nat} (hi:free[L]'(by omega)=i) (hlt:i<gens.length) (hg:0≤(gens[i]'hlt).1∧(gens[i]'hlt).1≤1000000) :
  af Tryz.prog 115 #[.pointer (some ⟨b,0,none⟩)] w fun v w' =>
   v=.tuple #[entV i ((gens[i]'hlt).1+1),.nilIface]∧fh o w' b (gens.set i ((gens[i]'hlt).1+1,true)) (free.take L)∧aH (FP o i4) w w':=by
 obtain⟨h1,h2,h3,h4,pv,rv,hb,hp,hr,hpl,hrl⟩:=h;obtain⟨bp,cp,arr,t,rfl,hbp,p1,p2,p3⟩:=hp.viewF (F:=genC) (sz:=2) (fun _=>rfl) (by omega) (show 0<gens.length by omega);obtain⟨ra,rn,rc,rfl,hrs,hrn⟩:=hr.is;have hrn:rn=free.length:=by simpa using hrn rfl
 subst hrn;have hr0:=hr;obtain⟨br,cr,arr2,t2,e,hbr,r1,r2,r3⟩:=hr.viewM (by omega);cases e;have hpb:=hpl bp ⟨_,_,_,rfl⟩;have hrb:=hrl br ⟨_,_,_,rfl⟩;have npb:bp≠b:=fun e=>by rw[e,h1]at hpb; cases hpb
 have nrb:br≠b:=fun e=>by rw[e,h1]at hrb; cases hrb
 have npr:bp≠br:=fun e=>by rw[e,hrb]at hpb; cases hpb
 have lb:=aC hb;have lbp:=aC hbp;have lbr:=aC hbr;refine Dw ?_;unfold NA;refine ar fun w2 hm2 hs2 hb2=>?_;rw[aJ yV];have hb2b:=hm2.get hb (fun h=>h);refine ac ?_;refine az rfl ?_;refine aq ?_;refine aa ?_;refine aj hb2b rfl ?_;refine aK ?_;refine cM (by omega) (by omega) ?_;refine aM ?_;refine ac ?_;refine az (bT (by omega)) ?_;refine aq ?_;refine aa ?_;refine aj hb2b rfl ?_;rw[show((free.length:Int)-1)=((L:Nat):Int) by omega];refine cF (F:=natV) (hrs.same hm2) (show L<free.length by omega) rfl ?_;rw[hi];refine aq ?_;refine aa ?_;refine aj hb2b rfl ?_;refine nX (by omega) ?_;refine aq ?_;refine aa ?_;refine bJ hb2b rfl rfl (by simp) fun w31 h31 hs31 hb31=>?_;simp only[List.setIfInBounds_toArray,List.set_cons_succ,List.set_cons_zero]at hb31;refine aq ?_;refine aa ?_;refine aj hb31 rfl ?_;rw[natV,ce];refine ah (by omega) ?_;rw[add_mk,Nat.zero_add,Int.toNat_natCast];have hbp31:=h31.get (hm2.get hbp (fun h=>h)) npb;have hseg:=p3 i hlt;have hgen:arr[i*2]?=some (nV (gens[i]'hlt).1):=by
  obtain⟨g1,g2⟩:=dY _ _ _ _ hseg;have:=congrArg (fun l:List Value=>l[0]?) g2;simpa [genC,List.getElem?_take,List.getElem?_drop] using this
 have hseg':=(dY _ _ _ _ hseg).1;rw[Array.length_toList]at hseg';refine aq ?_;refine aa ?_;refine ao (v:=nV (gens[i]'hlt).1) hbp31 hgen ?_;refine aY (by omega) (by omega) ?_;refine aq ?_;refine aa ?_;refine aQ (vs:=[nV ((gens[i]'hlt).1+1)]) hbp31 rfl rfl rfl (by simp; omega) (by simp) fun w39 h39 hs39 hb39=>?_;refine aq ?_;refine aa ?_;refine aQ (vs:=[.bool true]) hb39 rfl rfl rfl (by rw[setAll_size]; omega) (by simp) fun w41 h41 hs41 hb41=>?_;have hb41:aX w41 bp=some (.cells (setAll (genC ((gens[i]'hlt).1+1,true)) arr (i*2)) t):=hb41;refine aq ?_;refine aa ?_;refine ao (v:=nV ((gens[i]'hlt).1+1)) hb41 ?_ ?_
 ·have e:=dS (genC ((gens[i]'hlt).1+1,true)) arr (i*2) (by simp[genC]; omega);have hl:(arr.toList.take (i*2)).length=i*2:=by rw[List.length_take,Array.length_toList]; omega
  rw[←Array.getElem?_toList,e,List.append_assoc,List.getElem?_append_right (by rw[hl]; omega),hl];simp[genC]
 refine aW (cs:=[.int .i64 i,.int .i64 ((gens[i]'hlt).1+1)]) rfl ?_;have hz:=h41.get (h39.get (h31.get hb2 (by omega)) (by omega)) (by omega);refine aQ (vs:=[.int .i64 i,.int .i64 ((gens[i]'hlt).1+1)]) hz rfl rfl rfl (by simp) (by simp) fun w45 h45 hs45 hb45=>?_;have hb45:aX w45 w.heap.size=some (.cells #[.int .i64 i,.int .i64 ((gens[i]'hlt).1+1)] 157):=hb45;refine au hb45 rfl (by omega) ?_;have hbF:=h45.get (h41.get (h39.get hb31 npb.symm) npb.symm) (by omega);have hpF:=h45.get hb41 (by omega);have hm:aH (fun k=>k=b∨k=bp) w w45:=by
  have a1:aH (fun k=>k=b∨k=bp) w w41:=(aH.of_same hm2).trans ((h31.mono fun k _ e=>.inl e).trans ((h39.mono fun k _ e=>.inr e).trans (h41.mono fun k _ e=>.inr e)));exact a1.trans' (h45.mono fun k _ e=>.inr (by omega))
 refine⟨rfl,⟨h1,by simpa using h2,by simp; omega,fun j hj=>by simpa using h4 j (List.mem_of_mem_take hj),_,_,hbF,?_,?_,?_,?_⟩,hm.mono fun k _ e=>?_⟩
 ·have:=bV.setF (F:=genC) (fun _=>rfl) hp hbp (x:=((gens[i]'hlt).1+1,true)) (i:=i) hpF hlt;simpa using this
 ·rw[List.map_take];have e1:=(hr0.mod hm fun k hk e=>by
   rcases e with rfl | rfl
   ·have:=hrl _ hk; rw[h1]at this; cases this
   ·have:=hrl _ hk; rw[hpb]at this; cases this).cutN (k:=L) (by omega)
  rw[Nat.mul_one]at e1;exact e1
 ·rintro k ⟨_,_,_,e⟩; cases e; exact hpb
 ·rintro k ⟨_,_,_,e⟩; cases e; exact hrb
 ·rcases e with rfl | rfl
  ·exact⟨_,h1,.inl rfl⟩
  ·exact⟨_,hpb,.inr (.inl rfl)⟩
theorem yW {z:Value} {ty:TypeId} {K:Value→World→Prop} (h1:l≤9223372036854775807) (h2:n*l≤281474976710656)
  (h:∀w2,Same w w2→w2.heap.size=w.heap.size+1→aX w2 w.heap.size=some (.cells (zrow z.cells.toList l).toArray ty)→K (.slice (some ⟨w.heap.size,0,none⟩) l l) w2):kmk z n ty (.int .i64 l) (.int .i64 l) w K:=by
 rw[IC];have h2':((n:Int)*(l:Int))≤281474976710656:=by
  rw[←Int.natCast_mul]; omega
 refine ah ⟨by omega,by omega,by omega,h2'⟩ ?_;rw[Int.toNat_natCast];exact h _ ((aH.refl _ _).alloc _) (by simp) (cq _ _)
theorem mg {α:Type} {F:α→List Value} (x:α):∀n,zrow (F x) n=(List.replicate n x).flatMap F
 | 0=>rfl
 | n+1=>by rw[zrow,mg x n,List.replicate_succ,List.flatMap_cons]
theorem pe {L:List Nat} (hO:bV w v 1 (L.map natV)) (hl:L.length≤1000000) :
  af Tryz.prog 145 #[v] w fun r w'=>bV w' v 1 (L.reverse.map natV)∧aH (bf v) w w'∧w'.heap.size=w.heap.size:=by
 obtain⟨va,vn,vc,rfl,hs,hvn⟩:=hO.is;have hvn:vn=L.length:=by simpa using hvn rfl
 subst hvn;refine Dy ?_;unfold ND;refine aK ?_;refine cM (by omega) (by omega) ?_;refine ib L.length (fun i x y wr=>x=.int .i64 i∧y=.int .i64 ((L.length:Int)-1-i)∧2*i≤L.length+1∧aH (bf (.slice va L.length vc)) w wr∧wr.heap.size=w.heap.size∧∃cur:List Nat,cur.length=L.length∧bV wr (.slice va L.length vc) 1 (cur.map natV)∧∀k,k<L.length→cur[k]?=if k<i∨L.length<k+i+1 then L[L.length-1-k]? else L[k]?)
  ⟨jP ⟨rfl,by simp,by omega,aH.refl _ _,rfl,L,rfl,hO,fun k hk=>by rw[if_neg (by omega)]⟩,fun x y wr hx=>?_⟩
 obtain⟨i,hi,⟨rfl,rfl,h2i,hm,hsz,cur,hcl,hOc,hcur⟩,hJ⟩:=eX hx;unfold yU;refine aM ?_;refine ac ?_;refine am (fun hlt=>?_) (fun hge=>?_)
 ·obtain⟨j,hj⟩:∃j,j+i+1=L.length:=⟨L.length-1-i,by omega⟩
  rw[show((L.length:Int)-1-i)=((j:Nat):Int) by omega]at *;obtain⟨bc,cp,arr,t,e,hb,q1,q2,q3⟩:=hOc.viewM (by omega);rw[hcl]at e;cases e;unfold yT;have hb:aX wr.drew bc=_:=hb;have hmd:=hm.drew;have hszd:wr.drew.heap.size=w.heap.size:=hsz;have hOc:bV wr.drew _ _ _:=hOc.same ((aH.refl _ _).drew);generalize wr.drew=wa at *;rw[ce];refine ah (by omega) ?_;rw[add_mk,Nat.zero_add,Int.toNat_natCast,Nat.mul_one];refine ao hb (q3 j (by omega)) ?_;refine ah rfl ?_;rw[ce];refine ah (by omega) ?_;rw[add_mk,Nat.zero_add,Int.toNat_natCast,Nat.mul_one];refine ao hb (q3 i (by omega)) ?_;refine ah rfl ?_;rw[ce];refine ah (by omega) ?_;rw[add_mk,Nat.zero_add,Int.toNat_natCast,Nat.mul_one];refine aQ (vs:=[natV cur[j]]) hb rfl rfl rfl (by omega) (by simp) fun w10 h10 hs10 hb10=>?_;rw[ce];refine ah (by omega) ?_;rw[add_mk,Nat.zero_add,Int.toNat_natCast,Nat.mul_one];refine aQ (vs:=[natV cur[i]]) hb10 rfl rfl rfl (by rw[setAll_size]; omega) (by simp) fun w12 h12 hs12 hb12=>?_;refine aY (by omega) (by omega) ?_;refine cM (by omega) (by omega) ?_;have o1:=hOc.set1 (v:=natV cur[j]) hb hb10 (by simp; omega);have o2:=o1.set1 (v:=natV cur[i]) hb10 hb12 (by simp; omega);rw[a7,show((j:Int)-1)=(L.length:Int)-1-((i+1:Nat):Int) by omega];refine hJ _ _ _ (by omega) ⟨rfl,rfl,by omega,hmd.trans ((h10.trans h12).mono fun k _ e=>by subst e; exact⟨_,_,_,rfl⟩),by omega,(cur.set i cur[j]).set j cur[i],by simp[hcl],?_,fun k hk=>?_⟩
  ·rw[List.map_set,List.map_set]; exact o2
  ·rw[List.getElem?_set,List.getElem?_set];have cj:=hcur j (by omega);have ci:=hcur i (by omega);rw[if_neg (by omega),List.getElem?_eq_getElem (by omega),List.getElem?_eq_getElem (by omega)]at cj ci;simp only[Option.some.injEq]at cj ci;have hck:=hcur k hk;by_cases h1:j=k
   ·subst h1;rw[if_pos rfl,if_pos (by simp; omega),if_pos (by omega),show L.length-1-j=i by omega,ci,List.getElem?_eq_getElem (by omega)]
   ·rw[if_neg h1];by_cases h3:i=k
    ·subst h3;rw[if_pos rfl,if_pos (by omega),if_pos (by omega),show L.length-1-i=j by omega,cj,List.getElem?_eq_getElem (by omega)]
    ·rw[if_neg h3,hck];by_cases h4:k<i∨L.length<k+i+1
     ·rw[if_pos h4,if_pos (by omega)]
     ·rw[if_neg h4,if_neg (by omega)]
 ·refine⟨?_,hm,hsz⟩;have:cur=L.reverse:=by
   apply List.ext_getElem?;intro k;by_cases hk:k<L.length
   ·rw[hcur k hk,List.getElem?_reverse hk];by_cases h4:k<i∨L.length<k+i+1
    ·rw[if_pos h4]
    ·rw[if_neg h4,show L.length-1-k=k by omega]
   ·rw[List.getElem?_eq_none (by omega),List.getElem?_eq_none (by simp; omega)]
  rw[←this]; exact hOc
def i5 (o:dd) (n0 n1 k:Nat):Option kU:=if k<n0 then o k else if k=n0 then some .places else if k=n1 then some .roll else some .row
theorem vu (o:dd) (w:World) (most:Nat) (h:most≤64):af Tryz.prog 100 #[.int .i64 most] w fun v w' =>
  ∃b o',v=.tuple #[.pointer (some ⟨b,0,none⟩),.nilIface]∧bN w o o'∧fh o' w' b (List.replicate most (0,false)) (List.range most).reverse∧Same w w'∧(∀k,w.heap.size≤k→∃t,o' k=some t∧i4 t)∧w.heap.size≤b:=by
 refine Dv ?_;unfold Nz;refine aM ?_;refine ac ?_;refine aN rfl ?_;refine bO ?_;refine ac ?_;refine az (bT (by omega)) ?_;unfold yQ;refine yW (by omega) (by omega) fun w8 h8 hs8 hb8=>?_;have hz:zrow (Value.agg #[.int .i64 0,.bool false]).cells.toList most=(List.replicate most ((0:Int),false)).flatMap genC:=mg (F:=genC) ((0:Int),false) most;rw[hz]at hb8;refine aW (cs:=[.slice (some ⟨w.heap.size,0,none⟩) most most,.slice none 0 0]) rfl ?_;refine ar fun w11 h11 hs11 hb11=>?_;have hb11:aX w11 w8.heap.size=some (.cells #[.slice (some ⟨w.heap.size,0,none⟩) most most,.slice none 0 0] 272):=hb11;have hp11:=h11.get hb8 (fun h=>h);have nv:∀k,¬bf (.slice none 0 0) k:=by
  rintro k ⟨_,_,_,e⟩; cases e
 refine cA most (fun i x wr=>x=.int .i64 i∧∃rv,aX wr w8.heap.size=some (.cells #[.slice (some ⟨w.heap.size,0,none⟩) most most,rv] 272)∧bV wr rv 1 ((List.range i).map natV)∧(∀k,bf rv k→w11.heap.size≤k)∧aH (fun k=>k=w8.heap.size∨w11.heap.size≤k) w11 wr)
  ⟨c8 ⟨rfl,_,hb11,bV.nil _ _,fun k hk=>absurd hk (nv k),aH.refl _ _⟩,fun x wr hx=>?_⟩
 obtain⟨i,hi,⟨rfl,rv,hb,hO,hf,hm⟩,hJ⟩:=bK hx;unfold yP;refine aM ?_;refine ac ?_;refine am (fun hlt=>?_) (fun hge=>?_)
 ·refine aq ?_;refine aa ?_;refine aj hb rfl ?_;refine aR (cs:=[natV i]) rfl fun w16 h16 hs16 hb16=>?_;refine be tQ (by omega) (hO.same h16) (Src.ofSlIs (hk:=jU.choose_spec) 1 (aZ.blk hb16 rfl) rfl) (by simp; omega) (by simp; omega) ?_;intro v' w18 ho18 hm18 hf18;have hlb:=aC hb;have hb18:=hm18.get (h16.get hb (fun h=>h)) (fun e=>by have:=hf _ e; omega);obtain⟨a',n',c',rfl,_⟩:=ho18.is;have hsm:=hm.size;have hs16':=h16.size;have hf':∀k,bf (.slice a' n' c') k→w11.heap.size≤k:=fun k hk=>by
   rcases hf18 k hk with h | h
   ·exact hf k h
   ·omega
  refine aq ?_;refine aa ?_;refine bJ hb18 rfl rfl (by simp) fun w20 h20 hs20 hb20=>?_;simp only[List.setIfInBounds_toArray,List.set_cons_succ,List.set_cons_zero]at hb20;refine aY (by omega) (by omega) ?_;rw[a7];refine hJ _ _ (by omega) ⟨rfl,_,hb20,?_,hf',?_⟩
  ·rw[List.range_succ,List.map_append];exact ho18.mod h20 fun k hk e=>by have:=hf' k hk; omega
  ·exact hm.trans ((aH.of_same h16).trans ((hm18.mono fun k _ e=>.inr (hf k e)).trans (h20.mono fun k _ e=>.inl e)))
 ·have:i=most:=by omega
  subst this;unfold yO;refine aq ?_;refine aa ?_;refine aj hb rfl ?_;refine ab (pe hO (by simp; omega)) ?_;rintro v w25 ⟨hr,hmr,hsr⟩;have hlb:=aC hb;have hbF:=hmr.get hb (fun e=>by have:=hf _ e; omega);have hm25:aH (fun k=>k=w8.heap.size∨w11.heap.size≤k) w11 w25:=hm.trans (hmr.mono fun k _ e=>.inr (hf k e));have hpF:=hm25.get hp11 (by omega);refine⟨_,i5 o w.heap.size w8.heap.size,rfl,fun k hk=>by unfold i5; rw[if_pos hk],⟨?_,by simpa using h,by simp,fun j hj=>by simpa using hj,_,rv,hbF,?_,hr,?_,?_⟩,?_,?_,by omega⟩
  ·unfold i5; rw[if_neg (by omega),if_neg (by omega),if_pos rfl]
  ·exact bV.blk hpF (by simp[flat_len genC 2 (fun _=>rfl)]) (by simp[maxLen]; omega)
  ·rintro k ⟨_,_,_,e⟩;cases e;unfold i5; rw[if_neg (by omega),if_pos rfl]
  ·intro k hk;have:=hf k hk;unfold i5; rw[if_neg (by omega),if_neg (by omega),if_neg (by omega)]
  ·exact(h8.trans h11).trans' (hm25.mono fun k _ e=>.inr (by rcases e with e | e<;>omega))
  ·intro k hk;unfold i5;rw[if_neg (by omega)];by_cases e1:k=w.heap.size
   ·rw[if_pos e1]; exact⟨_,rfl,.inr (.inl rfl)⟩
   ·rw[if_neg e1];by_cases e2:k=w8.heap.size
    ·rw[if_pos e2]; exact⟨_,rfl,.inl rfl⟩
    ·rw[if_neg e2]; exact⟨_,rfl,.inr (.inr rfl)⟩
end
section
def yX x0 (Q:PQ) w:=bB w fun v7 w8=>aP [.int .i64 0,.slice none 0 0,.map none] [(0,1,x0),(2,1,v7)] fun v9=>knew (Value.cells v9) 277 w8 fun v10 w11=>ae Tryz.prog 147 #[v10,.int .u32 0] w11 fun v12 w13=>Q (.tuple #[v10,.nilIface]) w13
def yY x0 x10 (Q:PQ) w:=kB x10 fun b14=>aA b14 (aw (.pointer (some ⟨3,0,none⟩)) w fun v4=>ae Tryz.prog 146 #[v4] w fun v5 w6=>Q (.tuple #[.pointer none,v5]) w6) (yX x0 Q w)
def NE x0 (Q:PQ) w:=kint .i64 .lss x0 (.int .i64 0) fun v1=>kB v1 fun b2=>aA (!b2) (kint .i64 .gtr x0 (.int .i64 16) fun v3=>yY x0 v3 Q w) (yY x0 (.bool true) Q w)
theorem Dz (h:NE x0 Q w):af Tryz.prog 101 #[x0] w Q :=
 ax (c:=Tryz.f101.body.get rfl) [] Tryz.func101 rfl rfl (args:=[x0]) rfl (by kernel_rfl) h
def Jw (x0 x1 x5:Value) x11 (J3:Value→World→Prop) (Q:PQ) w:=kint .i64 .add x11 (.int .i64 1) fun v11=>J3 v11 w
def yZ x0 x1 x5 x11 (J3:Value→World→Prop) (Q:PQ) (w:World):=kN x5<|ai 1 x5 fun v5=>bz (some (.array 16 3)) (some 1) v5 x11 fun v6=>bj 1 v6 (.int .i64 (-1)) w.drew fun w7=>kN x5<|ai 17 x5 fun v8=>bz (some (.array 16 3)) (some 1) v8 x11 fun v9=>bj 1 v9 (.int .i64 (-1)) w7 fun w10=>Jw x0 x1 x5 x11 J3 Q w10
def za x0 x1 x5 (Q:PQ) w:=kN x0<|ai 1 x0 fun v12=>aw v12 w fun v13=>aU v13 fun v14=>kN x0<|ai 1 x0 fun v16=>aw v16 w fun v17=>ay [.pointer none] 1 [(0,1,x5)] 331 w fun v18 w19=>ksem Tryz.prog (Builtin.append_ #[275,275] 0 #[v17,v18]) w19 fun v20 w21=>kN x0<|ai 1 x0 fun v22=>bj 1 v22 v20 w21 fun w23=>kN x0<|ai 2 x0 fun v24=>aw v24 w23 fun v25=>ksemU Tryz.prog (Instr.mapUpdate 274 v25 x1 v14) w23 fun _ w27=>Q v14 w27
def zb x11 x0 x1 x5 (J3:Value→World→Prop) (Q:PQ) w:=kint .i64 .lss x11 (.int .i64 16) fun v4=>kB v4 fun b28=>aA b28 (yZ x0 x1 x5 x11 J3 Q w) (za x0 x1 x5 Q w)
def NF x0 x1 (Q:PQ) w:=aP [.int .u32 0,.int .i64 0,.int .i64 0,.int .i64 0,.int .i64 0,.int .i64 0,.int .i64 0,.int .i64 0,.int .i64 0,.int .i64 0,.int .i64 0,.int .i64 0,.int .i64 0,.int .i64 0,.int .i64 0,.int .i64 0,.int .i64 0,.int .i64 0,.int .i64 0,.int .i64 0,.int .i64 0,.int .i64 0,.int .i64 0,.int .i64 0,.int .i64 0,.int .i64 0,.int .i64 0,.int .i64 0,.int .i64 0,.int .i64 0,.int .i64 0,.int .i64 0,.int .i64 0] [(0,1,x1)] fun v1=>knew (Value.cells v1) 334 w fun v2 w3=>kL fun(I:Value→World→Prop) (μ:Value→World→Nat)=>I (.int .i64 0) w3∧∀(x11:Value) (w1:World),I x11 w1→zb x11 x0 x1 v2 (fun y11 w2=>I y11 w2∧μ y11 w2<μ x11 w1) Q w1
theorem DA (h:NF x0 x1 Q w):af Tryz.prog 147 #[x0,x1] w Q :=
 ax (c:=Tryz.f147.body.get rfl) [(3,[11])] Tryz.func147 rfl rfl (args:=[x0,x1]) rfl (by kernel_rfl) h
def Jx x0 x1 (Q:PQ) w:=ae Tryz.prog 147 #[x0,x1] w fun v19 w20=>Q (.tuple #[v19,.nilIface]) w20
def Jy x0 x1 (Q:PQ) w:=kN x0<|ai 2 x0 fun v13=>aw v13 w fun v14=>ksem Tryz.prog (Instr.lookup 274 v14 x1 true) w fun v15 w16=>aE v15 0 fun v17=>aE v15 1 fun v18=>kB v18 fun b21=>aA b21 (Q (.tuple #[v17,.nilIface]) w16) (Jx x0 x1 Q w16)
def NG x0 x1 (Q:PQ) w:=keq Tryz.prog .eql 210 false true x0 (.pointer none) w fun v1 w2=>kB v1 fun b23=>aA b23 (aw (.pointer (some ⟨2,0,none⟩)) w2 fun v3=>ae Tryz.prog 146 #[v3] w2 fun v4 w5=>Q (.tuple #[.int .i64 0,v4]) w5) (kN x0<|ai 0 x0 fun v6=>aw v6 w2 fun v7=>kint .u32 .shr x1 v7 fun v8=>kint .u32 .neq v8 (.int .u32 0) fun v9=>kB v9 fun b22=>aA b22 (aw (.pointer (some ⟨3,0,none⟩)) w2 fun v10=>ae Tryz.prog 146 #[v10] w2 fun v11 w12=>Q (.tuple #[.int .i64 0,v11]) w12) (Jy x0 x1 Q w2))
theorem DB (h:NG x0 x1 Q w):af Tryz.prog 116 #[x0,x1] w Q :=
 ax (c:=Tryz.f116.body.get rfl) [] Tryz.func116 rfl rfl (args:=[x0,x1]) rfl (by kernel_rfl) h
def Jz x0 x1 (Q:PQ) w:=kN x0<|ai 1 x0 fun v16=>aw v16 w fun v17=>bz (some (.slice 331)) (some 1) v17 x1 fun v18=>aw v18 w fun v19=>Q (.tuple #[v19,.nilIface]) w
def zc x0 x1 x11 (Q:PQ) w:=kB x11 fun b20=>aA b20 (aw (.pointer (some ⟨11,0,none⟩)) w fun v13=>ae Tryz.prog 146 #[v13] w fun v14 w15=>Q (.tuple #[.pointer none,v14]) w15) (Jz x0 x1 Q w)
def NH x0 x1 (Q:PQ) w:=keq Tryz.prog .eql 210 false true x0 (.pointer none) w fun v1 w2=>kB v1 fun b21=>aA b21 (aw (.pointer (some ⟨2,0,none⟩)) w2 fun v3=>ae Tryz.prog 146 #[v3] w2 fun v4 w5=>Q (.tuple #[.pointer none,v4]) w5) (kint .i64 .lss x1 (.int .i64 0) fun v6=>kB v6 fun b7=>aA (!b7) (kN x0<|ai 1 x0 fun v8=>aw v8 w2 fun v9=>aU v9 fun v10=>kint .i64 .geq x1 v10 fun v12=>zc x0 x1 v12 Q w2) (zc x0 x1 (.bool true) Q w2))
theorem DC (h:NH x0 x1 Q w):af Tryz.prog 186 #[x0,x1] w Q :=
 ax (c:=Tryz.f186.body.get rfl) [] Tryz.func186 rfl rfl (args:=[x0,x1]) rfl (by kernel_rfl) h
def JA x6 (Q:PQ) w:=kN x6<|ai 0 x6 fun v7=>aw v7 w fun v8=>Q (.tuple #[v8,.nilIface]) w
def NI x0 x1 (Q:PQ) w:=ae Tryz.prog 186 #[x0,x1] w fun v1 w2=>aE v1 0 fun v3=>aE v1 1 fun v4=>keq Tryz.prog .neq 37 false true v4 .nilIface w2 fun v5 w6=>kB v5 fun b9=>aA b9 (Q (.tuple #[.int .u32 0,v4]) w6) (JA v3 Q w6)
theorem DD (h:NI x0 x1 Q w):af Tryz.prog 149 #[x0,x1] w Q :=
 ax (c:=Tryz.f149.body.get rfl) [] Tryz.func149 rfl rfl (args:=[x0,x1]) rfl (by kernel_rfl) h
def JB x0 (Q:PQ) w:=kN x0<|ai 1 x0 fun v3=>aw v3 w fun v4=>aU v4 fun v5=>Q v5 w
def NJ x0 (Q:PQ) w:=keq Tryz.prog .eql 210 false true x0 (.pointer none) w fun v1 w2=>kB v1 fun b7=>aA b7 (Q (.int .i64 0) w2) (JB x0 Q w2)
theorem DE (h:NJ x0 Q w):af Tryz.prog 148 #[x0] w Q :=
 ax (c:=Tryz.f148.body.get rfl) [] Tryz.func148 rfl rfl (args:=[x0]) rfl (by kernel_rfl) h
end
section
attribute [local irreducible] kO kB bG bH kN kG aA ai aw aB bj knew bB aP ay aE bk aD aU bC bD a8 kbool kint kstr keq kun ksl bz cQ kta kmk kmm ksem ksemU bd aI aL ae kL
structure NodeM where
 mask:Nat
 wth:List Int
 wout:List Int
def NodeM.cells (x:NodeM):List Value:=msk x.mask::(x.wth.map nV++x.wout.map nV)
def NodeM.new (m:Nat):NodeM:=⟨m,List.replicate 16 (-1),List.replicate 16 (-1)⟩
def ptrV (b:Nat):Value:=.pointer (some ⟨b,0,none⟩)
def mapM:Nat→List Nat→List (Int×Value)
 | _,[]=>[]
 | k,m::r=>((m:Int),natV k)::mapM (k+1) r
theorem mapM_len:∀(k:Nat) (ms:List Nat),(mapM k ms).length=ms.length
 | _,[]=>rfl
 | k,m::r=>by simp[mapM,mapM_len (k+1) r]
theorem mapM_append:∀(k:Nat) (ms:List Nat) (m:Nat),mapM k (ms++[m])=mapM k ms++[((m:Int),natV (k+ms.length))]
 | k,[],m=>by simp[mapM]
 | k,x::r,m=>by simp[mapM,mapM_append (k+1) r m]; congr 1; omega
theorem lw (m:Nat):∀(k:Nat) (ms:List Nat),lkI (m:Int) (mapM k ms)=if m∈ms then some (ms.idxOf m,natV (k+ms.idxOf m)) else none
 | k,[]=>by simp[mapM,lkI]
 | k,x::r=>by
  simp only[mapM,lkI];by_cases h:m=x
  ·subst h; simp
  ·rw[if_neg (by omega),lw m (k+1) r];have hx:(x ==m)=false:=by simpa using fun e=>h e.symm
   by_cases hr:m∈r
   ·simp[hr,h,List.idxOf_cons,hx]; congr 1; omega
   ·simp[hr,h]
def fi (o:dd) (w:World) (b n:Nat) (pn:Nat→Nat) (nodes:List NodeM):Prop :=
 o b=some .atlas∧n≤16∧nodes.length≤100000∧∃nv bm,aX w b=some (.cells #[.int .i64 n,nv,.map (some bm)] 277) ∧
  bV w nv 1 ((List.range nodes.length).map fun i=>ptrV (pn i))∧(∀k,bf nv k→o k=some .nodes)∧o bm=some .amap∧eA w bm .u32 (mapM 0 (nodes.map (·.mask))) ∧
  ∀i (hi:i<nodes.length),o (pn i)=some (.node i)∧aX w (pn i)=some (.cells (nodes[i]).cells.toArray 334)∧(nodes[i]).wth.length=16∧(nodes[i]).wout.length=16∧(nodes[i]).mask<4294967296
def dW (t:kU):Prop:=t=.atlas∨t=.nodes∨t=.amap∨∃i,t=.node i
theorem fi.frame {o o':dd} (h:fi o w b n pn nodes) {fp:Nat→Prop} (hm:aH fp w w') (hf:∀k t,o k=some t→dW t→¬fp k) (ho:bN w o o'):fi o' w' b n pn nodes:=by
 obtain⟨h1,h2,h3,nv,bm,hb,hO,hl,hbm,hM,hN⟩:=h;refine⟨by rw[ho b (aC hb)]; exact h1,h2,h3,nv,bm,hm.get hb (hf b _ h1 (.inl rfl)),hO.mod hm fun k hk=>hf k _ (hl k hk) (.inr (.inl rfl)),fun k hk=>by rw[ho k (hO.vblk_lt hk)]; exact hl k hk,by rw[ho bm (aC hM)]; exact hbm,hM.mod hm (hf bm _ hbm (.inr (.inr (.inl rfl)))),fun i hi=>?_⟩;obtain⟨g1,g2,g3⟩:=hN i hi;exact⟨by rw[ho _ (aC g2)]; exact g1,hm.get g2 (hf _ _ g1 (.inr (.inr (.inr ⟨i,rfl⟩)))),g3⟩
theorem zd:dM Tryz.prog 210=true:=by kernel_rfl
theorem JC:appT Tryz.prog 275 1 8=true:=by kernel_rfl
theorem vw:∃e,Tryz.prog.underlying 275=some (.slice e):=dI (by kernel_rfl)
def nodeC (m j:Nat):List Value:=msk m::((List.replicate j (nV (-1))++List.replicate (16-j) (nV 0))++(List.replicate j (nV (-1))++List.replicate (16-j) (nV 0)))
theorem sm (m j:Nat) (h:j<16):setAll [nV (-1)] (setAll [nV (-1)] (nodeC m j).toArray (1+j)) (17+j)=(nodeC m (j+1)).toArray:=by
 have hj:j=0∨j=1∨j=2∨j=3∨j=4∨j=5∨j=6∨j=7∨j=8∨j=9∨j=10∨j=11∨j=12∨j=13∨j=14∨j=15:=by omega
 rcases hj with rfl | rfl | rfl | rfl | rfl | rfl | rfl | rfl | rfl | rfl | rfl | rfl | rfl | rfl | rfl | rfl<;>rfl
theorem ze (m:Nat):nodeC m 16=(NodeM.new m).cells:=rfl
theorem vx (m j:Nat) (h:j≤16):(nodeC m j).length=33:=by
 simp[nodeC]; omega
def qI (f:Nat→Nat) (n v i:Nat):Nat:=if i=n then v else f i
theorem updN_same (f:Nat→Nat) (n v:Nat):qI f n v n=v:=if_pos rfl
theorem updN_ne (f:Nat→Nat) {n v i:Nat} (h:i≠n):qI f n v i=f i:=if_neg h
def ie (o:dd) (b0 nb k1 i:Nat):dd:=fun k=>if k<b0 then o k else if k=nb then some (.node i) else if k<k1 then none else some .nodes
theorem n8 {pn:Nat→Nat} (h:fi o w b n pn nodes) (m:Nat) (hm32:m<4294967296) (hnew:m∉nodes.map (·.mask)) (hlen:nodes.length<100000) :
  af Tryz.prog 147 #[ptrV b,msk m] w fun v w'=>v=natV nodes.length∧∃o' pn',bN w o o'∧(∀i,i<nodes.length→pn' i=pn i)∧fi o' w' b n pn' (nodes++[NodeM.new m])∧aH (FP o dW) w w':=by
 obtain⟨h1,h2,h3,nv,bm,hb,hO,hl,hbm,hM,hN⟩:=id h;have lb:=aC hb;have lbm:=aC hM;have nbm:bm≠b:=fun e=>by rw[e,h1]at hbm; cases hbm
 refine DA ?_;unfold NF;refine aW (cs:=nodeC m 0) rfl ?_;refine ar fun w3 hm3 hs3 hb3=>?_;have hb3:aX w3 w.heap.size=some (.cells (nodeC m 0).toArray 334):=hb3;refine cA 16 (fun j x wr=>x=.int .i64 j∧j≤16∧aX wr w.heap.size=some (.cells (nodeC m j).toArray 334)∧aH (fun k=>k=w.heap.size) w3 wr∧wr.heap.size=w3.heap.size) ⟨c8 ⟨rfl,by omega,hb3,aH.refl _ _,rfl⟩,fun x wr hx=>?_⟩;obtain⟨j,hj,⟨rfl,_,hbr,hmr,hsr⟩,hJ⟩:=bK hx;unfold zb;refine aM ?_;refine ac ?_;refine am (fun hlt=>?_) (fun hge=>?_)
 ·have hlt:j<16:=by omega
  have hlen:=vx m j hj;unfold yZ;have hbr:aX wr.drew w.heap.size=_:=hbr;have hmr:=hmr.drew;have hsr:wr.drew.heap.size=_:=hsr;generalize wr.drew=wa at *;refine aq ?_;refine aa ?_;rw[dy];refine ah (by omega) ?_;rw[add_mk,Int.toNat_natCast,Nat.mul_one,Nat.zero_add];refine aQ (vs:=[nV (-1)]) hbr rfl rfl rfl (by simp[hlen]; omega) (by simp) fun w7 h7 hs7 hb7=>?_;refine aq ?_;refine aa ?_;rw[dy];refine ah (by omega) ?_;rw[add_mk,Int.toNat_natCast,Nat.mul_one,Nat.zero_add];refine aQ (vs:=[nV (-1)]) hb7 rfl rfl rfl (by rw[setAll_size]; simp[hlen]; omega) (by simp) fun w10 h10 hs10 hb10=>?_;rw[sm m j hlt]at hb10;refine aY (by omega) (by omega) ?_;rw[a7];exact hJ _ _ hlt ⟨rfl,by omega,hb10,hmr.trans (h7.trans h10),by omega⟩
 ·have:j=16:=by omega
  subst this;rw[ze]at hbr;clear hJ hx;have mr:Same w wr:=hm3.trans' (hmr.mono fun k _ e=>.inr (by omega));have hba:=mr.get hb (fun h=>h);obtain⟨na,nn,nc,rfl,hns,hnn⟩:=hO.is;have hnn:nn=nodes.length:=by simpa using hnn rfl
  subst hnn;unfold za;refine aq ?_;refine aa ?_;refine aj hba rfl ?_;refine aK ?_;refine aq ?_;refine aa ?_;refine aj hba rfl ?_;refine aR (cs:=[ptrV w.heap.size]) rfl fun w19 h19 hs19 hb19=>?_;have hO19:=(hO.same mr).same h19;refine be JC (by omega) hO19 (Src.ofSlIs (hk:=vw.choose_spec) 1 (aZ.blk hb19 rfl) rfl) (by simp; omega) (by simp; omega) ?_;intro v' w21 ho21 hm21 hf21;have hb21:=hm21.get (h19.get hba (fun h=>h)) (fun e=>by have:=hl b e; rw[h1]at this; cases this);obtain⟨a',n',c',rfl,_⟩:=ho21.is;refine aq ?_;refine aa ?_;refine bJ hb21 rfl rfl (by simp) fun w23 h23 hs23 hb23=>?_;simp only[List.setIfInBounds_toArray,List.set_cons_succ,List.set_cons_zero]at hb23;refine aq ?_;refine aa ?_;refine aj hb23 rfl ?_;have hsmr:=mr.size;have hs19':=h19.size;have hs21':=hm21.size;have hnv:∀k,bf (.slice a' n' c') k→bf (.slice na nodes.length nc) k∨w19.heap.size≤k:=hf21;have hMm:aH (fun k=>k=b∨bf (.slice na nodes.length nc) k) w w23:=(aH.of_same (mr.trans h19)).trans ((hm21.mono fun k _ e=>.inr e).trans (h23.mono fun k _ e=>.inl e));have hM23:eA w23 bm .u32 (mapM 0 (nodes.map (·.mask))):=hM.mod hMm fun e=>by
   rcases e with e | e
   ·exact nbm e
   ·have:=hl _ e; rw[hbm]at this; cases this
  have hlk:lkI (m:Int) (mapM 0 (nodes.map (·.mask)))=none:=by rw[lw,if_neg hnew]
  refine nW Tryz.underlying274 Tryz.underlying92 hM23 hlk fun w27 h27 hs27 hM27=>?_;have hb27:=h27.get hb23 nbm.symm;have hnode23:aX w23 w.heap.size=some (.cells (NodeM.new m).cells.toArray 334):=h23.get (hm21.get (h19.get hbr (fun h=>h)) (fun e=>by have:=hO.vblk_lt e; omega)) (by omega);have hall:aH (FP o dW) w w27:=(hMm.mono fun k _ e=>by
   rcases e with rfl | e
   ·exact⟨_,h1,.inl rfl⟩
   ·exact⟨_,hl k e,.inr (.inl rfl)⟩).trans (h27.mono fun k _ e=>by
   subst e;exact⟨_,hbm,.inr (.inr (.inl rfl))⟩)
  refine⟨rfl,ie o w.heap.size w.heap.size w19.heap.size nodes.length,qI pn nodes.length w.heap.size,fun k hk=>by unfold ie; rw[if_pos hk],fun i hi=>updN_ne _ (by omega),⟨by unfold ie; rw[if_pos lb]; exact h1,h2,by simp; omega,_,bm,hb27,?_,?_,by unfold ie; rw[if_pos lbm]; exact hbm,?_,?_⟩,hall⟩
  ·have e:(List.range (nodes++[NodeM.new m]).length).map (fun i=>ptrV (qI pn nodes.length w.heap.size i))=(List.range nodes.length).map (fun i=>ptrV (pn i))++[ptrV w.heap.size]:=by
    rw[List.length_append,List.length_cons,List.length_nil,List.range_succ,List.map_append,List.map_cons,List.map_nil,updN_same];congr 1;apply List.map_congr_left;intro i hi;rw[updN_ne _ (by simp at hi; omega)]
   rw[e];refine(ho21.mod h23 fun k hk e=>?_).mod h27 fun k hk e=>?_
   ·subst e;rcases hnv _ hk with h | h
    ·have:=hl _ h; rw[h1]at this; cases this
    ·omega
   ·subst e;rcases hnv _ hk with h | h
    ·have:=hl _ h; rw[hbm]at this; cases this
    ·omega
  ·intro k hk;unfold ie;rcases hnv k hk with h | h
   ·have:=hO.vblk_lt h;rw[if_pos (by omega)]; exact hl k h
   ·rw[if_neg (by omega),if_neg (by omega),if_neg (by omega)]
  ·rw[List.map_append,List.map_cons,List.map_nil,mapM_append];have e:0+(nodes.map (·.mask)).length=nodes.length:=by simp
   rw[e];exact hM27
  ·intro i hi;simp only[List.length_append,List.length_cons,List.length_nil]at hi;by_cases hlast:i=nodes.length
   ·subst hlast;rw[updN_same];have e:(nodes++[NodeM.new m])[nodes.length]'(by simp)=NodeM.new m:=by simp
    simp only[e];exact⟨by unfold ie; rw[if_neg (by omega),if_pos rfl],h27.get hnode23 (by omega),rfl,rfl,hm32⟩
   ·have hi':i<nodes.length:=by omega
    rw[updN_ne _ hlast];have e:(nodes++[NodeM.new m])[i]'(by simp; omega)=nodes[i]:=by rw[List.getElem_append_left hi']
    simp only[e];obtain⟨g1,g2,g3⟩:=hN i hi';have hlt:=aC g2;refine⟨by unfold ie; rw[if_pos hlt]; exact g1,h27.get (hMm.get g2 ?_) ?_,g3⟩
    ·rintro(e | e)
     ·rw[e,h1]at g1; cases g1
     ·have:=hl _ e; rw[g1]at this; cases this
    ·intro e;rw[e,hbm]at g1; cases g1
def de (ms:List Nat) (m:Nat):List Nat:=if m∈ms then ms else ms++[m]
theorem zf (ms:List Nat) (m:Nat):m∈de ms m:=by
 unfold de; split
 ·assumption
 ·simp
theorem zg:eP Tryz.prog 3=some (.int .i64 0):=by kernel_rfl
theorem zh {m n:Nat} (hm:m<4294967296) (hn:n≤16):ishr .u32 (m:Int) (n:Int)=((m/2^n:Nat):Int):=iZ m n (by show n≤32; omega)
theorem vy {o:dd} {w:World} {b n:Nat} {pn:Nat→Nat} {nodes:List NodeM} (h:fi o w b n pn nodes) (m:Nat) (hm:m<2^n) (hlen:nodes.length<100000) :
  af Tryz.prog 116 #[ptrV b,msk m] w fun v w'=>∃o' pn' nodes',v=.tuple #[natV ((nodes'.map (·.mask)).idxOf m),.nilIface]∧bN w o o'∧(∀i,i<nodes.length→pn' i=pn i)∧fi o' w' b n pn' nodes'∧aH (FP o dW) w w' ∧
   (nodes'=nodes∧m∈nodes.map (·.mask)∨nodes'=nodes++[NodeM.new m]∧m∉nodes.map (·.mask)):=by
 obtain⟨h1,h2,h3,nv,bm,hb,hO,hl,hbm,hM,hN⟩:=id h;have h16:m<4294967296:=by
  have:2^n≤2^16:=Nat.pow_le_pow_right (by omega) h2;omega
 refine DB ?_;unfold NG;rw[ptrV,aJ zd];refine ac ?_;refine az rfl ?_;refine aq ?_;refine aa ?_;refine aj hb rfl ?_;rw[msk,dz];refine ah (by omega) ?_;rw[zh h16 h2,Nat.div_eq_of_lt hm];refine cu ?_;refine ac ?_;refine az rfl ?_;refine aq ?_;refine aa ?_;refine aj hb rfl ?_;by_cases hin:m∈nodes.map (·.mask)
 ·refine lX Tryz.underlying274 Tryz.underlying92 zg hM (r:=some (_,_)) (by rw[lw,if_pos hin]) ?_;refine ak rfl ?_;refine ak rfl ?_;refine ac ?_;refine aN rfl ?_;refine⟨o,pn,nodes,by simp[natV],bN.refl _ _,fun _ _=>rfl,h,aH.refl _ _,.inl ⟨rfl,hin⟩⟩
 ·refine lX Tryz.underlying274 Tryz.underlying92 zg hM (r:=none) (by rw[lw,if_neg hin]) ?_;refine ak rfl ?_;refine ak rfl ?_;refine ac ?_;refine az rfl ?_;refine ab (n8 h m h16 hin hlen) ?_;rintro v w' ⟨rfl,o',pn',g1,g2,g3,g4⟩;refine⟨o',pn',_,?_,g1,g2,g3,g4,.inr ⟨rfl,hin⟩⟩;rw[List.map_append,List.idxOf_append,if_neg hin];simp[NodeM.new]
theorem vz {pn:Nat→Nat} (h:fi o w b n pn nodes) (i:Nat) (hi:i<nodes.length) :
  af Tryz.prog 186 #[ptrV b,.int .i64 i] w fun v w'=>v=.tuple #[ptrV (pn i),.nilIface]∧w'=w:=by
 obtain⟨h1,h2,h3,nv,bm,hb,hO,hl,hbm,hM,hN⟩:=id h;obtain⟨na,nn,nc,rfl,hns,hnn⟩:=hO.is;have hnn:nn=nodes.length:=by simpa using hnn rfl
 subst hnn;refine DC ?_;unfold NH;rw[ptrV,aJ zd];refine ac ?_;refine az rfl ?_;refine aM ?_;refine ac ?_;refine aN rfl ?_;refine aq ?_;refine aa ?_;refine aj hb rfl ?_;refine aK ?_;refine bI ?_;refine ac ?_;refine az (bT (by omega)) ?_;refine aq ?_;refine aa ?_;refine aj hb rfl ?_;have hns':aZ w na (List.range nodes.length).length 1 ((List.range nodes.length).map fun i=>ptrV (pn i)):=by simpa using hns
 have e:nodes.length=(List.range nodes.length).length:=by simp
 rw[e];refine cF (F:=fun i=>ptrV (pn i)) hns' (by simpa using hi) rfl ?_;simp[ptrV]
theorem vA (h:fi o w b n pn nodes) (i:Nat) (hi:i<nodes.length) :
  af Tryz.prog 149 #[ptrV b,.int .i64 i] w fun v w'=>v=.tuple #[msk (nodes[i]).mask,.nilIface]∧w'=w:=by
 obtain⟨h1,h2,h3,nv,bm,hb,hO,hl,hbm,hM,hN⟩:=id h;obtain⟨g1,g2,g3⟩:=hN i hi;refine DD ?_;unfold NI;refine ab (vz h i hi) ?_;rintro v w' ⟨rfl,rfl⟩;refine ak rfl ?_;refine ak rfl ?_;rw[aV bU];rw[ptrV];refine ac ?_;refine az rfl ?_;refine aq ?_;refine aa ?_;refine aj g2 rfl ?_;exact⟨rfl,rfl⟩
theorem zi (h:fi o w b n pn nodes) :
  af Tryz.prog 148 #[ptrV b] w fun v w'=>v=natV nodes.length∧w'=w:=by
 obtain⟨h1,h2,h3,nv,bm,hb,hO,hl,hbm,hM,hN⟩:=id h;obtain⟨na,nn,nc,rfl,hns,hnn⟩:=hO.is;have hnn:nn=nodes.length:=by simpa using hnn rfl
 subst hnn;refine DE ?_;unfold NJ;rw[ptrV,aJ zd];refine ac ?_;refine az rfl ?_;refine aq ?_;refine aa ?_;refine aj hb rfl ?_;refine aK ?_;exact⟨rfl,rfl⟩
def iO (o:dd) (bm b k:Nat):Option kU:=if k<bm then o k else if k=bm then some .amap else some .atlas
theorem vB (o:dd) (ho:∀k t,o k=some t→¬dW t) (w:World) (n:Nat) (hn:n≤16):af Tryz.prog 101 #[.int .i64 n] w fun v w' =>
  ∃b o' pn,v=.tuple #[ptrV b,.nilIface]∧bN w o o'∧fi o' w' b n pn [NodeM.new 0]∧Same w w':=by
 refine Dz ?_;unfold NE;refine aM ?_;refine ac ?_;refine aN rfl ?_;refine bO ?_;refine ac ?_;refine az (bT (by omega)) ?_;unfold yX;refine jS fun w8 h8 hs8 hm8=>?_;refine aW (cs:=[.int .i64 n,.slice none 0 0,.map (some w.heap.size)]) rfl ?_;refine ar fun w11 h11 hs11 hb11=>?_;have hb11:aX w11 w8.heap.size=some (.cells #[.int .i64 n,.slice none 0 0,.map (some w.heap.size)] 277):=hb11;have hA:fi (iO o w.heap.size w8.heap.size) w11 w8.heap.size n (fun _=>0) [] :=
  ⟨by unfold iO; rw[if_neg (by omega),if_neg (by omega)],hn,by simp,_,_,hb11,bV.nil _ _,(fun k hk=>by obtain⟨_,_,_,e⟩:=hk; cases e),by unfold iO; rw[if_neg (by omega),if_pos rfl],(hm8 .u32).same h11,(fun i hi=>by simp at hi)⟩
 refine ab (n8 hA 0 (by decide) (by simp) (by decide)) ?_;rintro v w13 ⟨rfl,o',pn',g1,g2,g3,g4⟩;refine⟨_,o',pn',rfl,fun k hk=>?_,g3,(h8.trans h11).trans' (g4.mono fun k hlt hk=>?_)⟩
 ·rw[g1 k (by omega)];unfold iO;rw[if_pos hk]
 ·right;obtain⟨t,e1,e2⟩:=hk;rcases Nat.lt_or_ge k w.heap.size with hk2 | hk2
  ·unfold iO at e1;rw[if_pos hk2]at e1;exact absurd e2 (ho k t e1)
  ·exact hk2
def iP (n:Nat) (masks:List Nat) (x:NodeM):Prop:=∀c,c<n→(x.wth[c]?=some (-1)∨∃t:Nat,x.wth[c]?=some (t:Int)∧masks[t]?=some (x.mask |||2^c))∧(x.wout[c]?=some (-1)∨∃t:Nat,x.wout[c]?=some (t:Int)∧masks[t]?=some (andN x.mask (2^c)))
theorem iP.grow (h:iP n masks x) (m:Nat):iP n (de masks m) x:=by
 have hg:∀t k:Nat,masks[t]?=some k→(de masks m)[t]?=some k:=by
  intro t k ht;unfold de;split
  ·exact ht
  ·rw[List.getElem?_append_left (List.getElem?_eq_some_iff.1 ht).1]; exact ht
 intro c hc;obtain⟨h1,h2⟩:=h c hc;refine⟨h1.imp id ?_,h2.imp id ?_⟩
 ·rintro⟨t,e1,e2⟩; exact⟨t,e1,hg t _ e2⟩
 ·rintro⟨t,e1,e2⟩; exact⟨t,e1,hg t _ e2⟩
theorem iP.new (n:Nat) (hn:n≤16) (masks:List Nat) (m:Nat):iP n masks (NodeM.new m):=by
 intro c hc;have:c<16:=by omega
 have e:(List.replicate 16 (-1:Int))[c]?=some (-1):=by rw[List.getElem?_replicate,if_pos this]
 exact⟨.inl e,.inl e⟩
def fz (o:dd) (w:World) (b n:Nat) (masks:List Nat):Prop:=∃pn nodes,fi o w b n pn nodes∧nodes.map (·.mask)=masks∧masks.Nodup∧(∀x∈nodes,iP n masks x)∧∀m∈masks,m<2^n
theorem fz.frame {o o':dd} (h:fz o w b n masks) {fp:Nat→Prop} (hm:aH fp w w') (hf:∀k t,o k=some t→dW t→¬fp k) (ho:bN w o o'):fz o' w' b n masks:=by
 obtain⟨pn,nodes,h1,h2⟩:=h;exact⟨pn,nodes,h1.frame hm hf ho,h2⟩
theorem so {ms:List Nat} (h:ms.Nodup) (m:Nat):(de ms m).Nodup:=by
 unfold de; split
 ·exact h
 ·rw[List.nodup_append];refine⟨h,by simp,?_⟩;intro a ha b hb;have:b=m:=by simpa using hb
  subst this;rintro rfl;contradiction
theorem DF (h:nodes'=nodes∧m∈nodes.map (·.mask)∨nodes'=nodes++[NodeM.new m]∧m∉nodes.map (·.mask)):nodes'.map (·.mask)=de (nodes.map (·.mask)) m:=by
 unfold de;rcases h with⟨rfl,h⟩ | ⟨rfl,h⟩
 ·rw[if_pos h]
 ·rw[if_neg h]; simp[NodeM.new]
theorem DG (h:∀x∈ms,x<2^n) (hm:m<2^n):∀x∈de ms m,x<2^n:=by
 intro x hx;unfold de at hx;split at hx
 ·exact h x hx
 ·rcases List.mem_append.1 hx with h1 | h1
  ·exact h x h1
  ·have:x=m:=by simpa using h1
   omega
theorem DH (h:fz o w b n masks) (m:Nat) (hm:m<2^n) (hlen:masks.length<100000) :
  af Tryz.prog 116 #[ptrV b,msk m] w fun v w'=>v=.tuple #[natV ((de masks m).idxOf m),.nilIface]∧∃o',bN w o o'∧fz o' w' b n (de masks m)∧aH (FP o dW) w w':=by
 obtain⟨pn,nodes,hN,rfl,hnd,hE,hlt⟩:=h;have hn:=hN.2.1;refine(vy hN m hm (by simpa using hlen)).mono ?_;rintro v w' ⟨o',pn',nodes',rfl,g1,g2,g3,g4,g5⟩;have e:=DF g5;refine⟨by rw[e],o',g1,⟨pn',nodes',g3,e,so hnd m,?_,DG hlt hm⟩,g4⟩;intro x hx;rcases g5 with⟨rfl,_⟩ | ⟨rfl,_⟩
 ·exact(hE x hx).grow m
 ·rcases List.mem_append.1 hx with h1 | h1
  ·exact(hE x h1).grow m
  ·have:x=NodeM.new m:=by simpa using h1
   subst this;exact iP.new n hn _ m
theorem qJ (h:fz o w b n masks) (i:Nat) (hi:i<masks.length) :
  af Tryz.prog 149 #[ptrV b,.int .i64 i] w fun v w'=>v=.tuple #[msk masks[i],.nilIface]∧w'=w:=by
 obtain⟨pn,nodes,hN,rfl,_⟩:=h;refine(vA hN i (by simpa using hi)).mono ?_;rintro v w' ⟨rfl,rfl⟩;simp
theorem sq (h:fz o w b n masks) :
  af Tryz.prog 148 #[ptrV b] w fun v w'=>v=natV masks.length∧w'=w:=by
 obtain⟨pn,nodes,hN,rfl,_⟩:=h;refine(zi hN).mono ?_;rintro v w' ⟨rfl,rfl⟩;simp
theorem sr (o:dd) (ho:∀k t,o k=some t→¬dW t) (w:World) (n:Nat) (hn:n≤16):af Tryz.prog 101 #[.int .i64 n] w fun v w' =>
  ∃b o',v=.tuple #[ptrV b,.nilIface]∧bN w o o'∧fz o' w' b n [0]∧Same w w':=by
 refine(vB o ho w n hn).mono ?_;rintro v w' ⟨b,o',pn,rfl,g1,g2,g3⟩;refine⟨b,o',rfl,g1,⟨pn,_,g2,rfl,by simp,?_,?_⟩,g3⟩
 ·intro x hx;have:x=NodeM.new 0:=by simpa using hx
  subst this;exact iP.new n hn _ 0
 ·intro m hm;have:m=0:=by simpa using hm
  subst this;exact Nat.two_pow_pos n
theorem qK {c:Nat} (h:c<32):bitF (c:Int)=2^c:=by unfold bitF; rw[if_neg (by omega),if_neg (by omega)]; rfl
end
section
def qL x1 x7 x9 x10 (Q:PQ) (w:World):=aB 2 x10 w.drew fun v42=>kG (w.drew=w.drew)<|kmk (.agg #[.int .i64 0,.int .i64 0]) 16 237 x1 x1 w.drew fun v43 w44=>kG (aB 2 x10 w44 fun v50=>v50=v42∧w44=w44)<|aP [.pointer none,.slice none 0 0,.slice none 0 0,.pointer none,.slice none 0 0,.slice none 0 0] [(0,1,x7),(1,2,v42),(3,1,x9),(5,1,v43)] fun v45=>knew (Value.cells v45) 216 w44 fun v46 w47=>ae Tryz.prog 102 #[v46] w47 fun v48 w49=>Q (.tuple #[v46,v48]) w49
def Gi x1 x2 x7 x9 (Q:PQ) (w:World):=(ai 0 x2 fun v30=>aw v30 w.drew fun v31=>kG (w.drew=w.drew)<|ae Tryz.prog 63 #[v31] w.drew fun v32 w33=>(ai 1 x2 fun v34=>aw v34 w33 fun v35=>kG (w33=w33)<|kG (aw v34 w.drew fun v53=>v53=v35∧w.drew=w.drew)<|ae Tryz.prog 64 #[v35] w33 fun v36 w37=>knew #[.slice none 0 0,.slice none 0 0] 70 w37 fun v38 w39=>kG (aw v34 w39 fun v52=>v52=v35∧w39=w39)<|kG (aw v30 w39 fun v51=>v51=v31∧w39=w39)<|aP [.slice none 0 0,.slice none 0 0] [(0,1,v32),(1,1,v36)] fun v40=>bj 2 v38 v40 w39 fun w41=>qL x1 x7 x9 v38 Q w41)∧(knew #[.slice none 0 0,.slice none 0 0] 70 w33 fun v54 w55=>kG (aw v30 w55 fun v64=>v64=v31∧w55=w55)<|ai 1 x2 fun v56=>aw v56 w55 fun v57=>kG (w55=w55)<|kG (aw v56 w33 fun v63=>v63=v57∧w33=w33)<|kG (aw v56 w.drew fun v62=>v62=v57∧w.drew=w.drew)<|ae Tryz.prog 64 #[v57] w55 fun v58 w59=>aP [.slice none 0 0,.slice none 0 0] [(0,1,v32),(1,1,v58)] fun v60=>bj 2 v54 v60 w59 fun w61=>qL x1 x7 x9 v54 Q w61))∧(knew #[.slice none 0 0,.slice none 0 0] 70 w.drew fun v65 w66=>ai 0 x2 fun v67=>aw v67 w66 fun v68=>kG (w66=w66)<|kG (aw v67 w.drew fun v79=>v79=v68∧w.drew=w.drew)<|ae Tryz.prog 63 #[v68] w66 fun v69 w70=>ai 1 x2 fun v71=>aw v71 w70 fun v72=>kG (w70=w70)<|kG (aw v71 w66 fun v78=>v78=v72∧w66=w66)<|kG (aw v71 w.drew fun v77=>v77=v72∧w.drew=w.drew)<|ae Tryz.prog 64 #[v72] w70 fun v73 w74=>aP [.slice none 0 0,.slice none 0 0] [(0,1,v69),(1,1,v73)] fun v75=>bj 2 v65 v75 w74 fun w76=>qL x1 x7 x9 v65 Q w76)
def Gj x1 x2 x7 (Q:PQ) w:=ai 0 x2 fun v18=>aw v18 w fun v19=>aU v19 fun v20=>ae Tryz.prog 101 #[v20] w fun v22 w23=>aE v22 0 fun v24=>aE v22 1 fun v25=>keq Tryz.prog .neq 37 false true v25 .nilIface w23 fun v26 w27=>kB v26 fun b80=>aA b80 (ae Tryz.prog 99 #[v25] w27 fun v28 w29=>Q (.tuple #[.pointer none,v28]) w29) (Gi x1 x2 x7 v24 Q w27)
def Gk x1 x2 (Q:PQ) w:=ae Tryz.prog 100 #[x1] w fun v10 w11=>aE v10 0 fun v12=>aE v10 1 fun v13=>keq Tryz.prog .neq 37 false true v13 .nilIface w11 fun v14 w15=>kB v14 fun b81=>aA b81 (ae Tryz.prog 99 #[v13] w15 fun v16 w17=>Q (.tuple #[.pointer none,v16]) w17) (Gj x1 x2 v12 Q w15)
def RO x0 x1 (Q:PQ) w:=knew (Value.cells x0) 70 w fun v1 w2=>aB 2 v1 w2 fun v3=>ae Tryz.prog 67 #[v3] w2 fun v4 w5=>keq Tryz.prog .neq 37 false true v4 .nilIface w5 fun v6 w7=>kB v6 fun b82=>aA b82 (ae Tryz.prog 99 #[v4] w7 fun v8 w9=>Q (.tuple #[.pointer none,v8]) w9) (Gk x1 v1 Q w7)
theorem JD (h:RO x0 x1 Q w):af Tryz.prog 60 #[x0,x1] w Q :=
 ax (c:=Tryz.f60.body.get rfl) [] Tryz.func60 rfl rfl (args:=[x0,x1]) rfl (by kernel_rfl) h
def JE (x0 x3 x6 x41 x42:Value) x43 (J9:Value→World→Prop) (J2:Value→World→Prop) (Q:PQ) w:=kint .i64 .add x43 (.int .i64 1) fun v46=>J9 v46 w
def JF x0 x3 x6 x8 x9 x41 x42 x43 (J9:Value→World→Prop) (J2:Value→World→Prop) (Q:PQ) w:=kN x6<|ai 1 x6 fun v42=>aw v42 w fun v43=>ksemU Tryz.prog (Instr.mapUpdate 262 v43 x8 x9) w fun _ w45=>JE x0 x3 x6 x41 x42 x43 J9 J2 Q w45
def zj x0 x3 x6 x41 x42 x43 (J9:Value→World→Prop) (J2:Value→World→Prop) (Q:PQ) w:=bz (some (.slice 3)) (some 1) x41 x43 fun v28=>aw v28 w fun v29=>kN x0<|ai 1 x0 fun v30=>ai 0 v30 fun v31=>aw v31 w fun v32=>bz (some (.slice 144)) (some 7) v32 v29 fun v33=>ai 1 v33 fun v34=>aw v34 w fun v35=>ae Tryz.prog 151 #[v29,v35] w fun v36 w37=>aE v36 0 fun v38=>aE v36 1 fun v39=>keq Tryz.prog .neq 37 false true v39 .nilIface w37 fun v40 w41=>kB v40 fun b47=>aA b47 (Q v39 w41) (JF x0 x3 x6 v29 v38 x41 x42 x43 J9 J2 Q w41)
def JG (x0:Value) x3 (J2:Value→World→Prop) (Q:PQ) w:=kint .i64 .add x3 (.int .i64 1) fun v56=>J2 v56 w
def JH x0 x3 x6 (J2:Value→World→Prop) (Q:PQ) w:=kN x0<|ai 4 x0 fun v48=>aw v48 w fun v49=>ay [.pointer none] 1 [(0,1,x6)] 265 w fun v50 w51=>ksem Tryz.prog (Builtin.append_ #[214,214] 0 #[v49,v50]) w51 fun v52 w53=>kN x0<|ai 4 x0 fun v54=>bj 1 v54 v52 w53 fun w55=>JG x0 x3 J2 Q w55
def zk x43 x0 x3 x6 x41 x42 (J9:Value→World→Prop) (J2:Value→World→Prop) (Q:PQ) w:=kint .i64 .lss x43 x42 fun v27=>kB v27 fun b57=>aA b57 (zj x0 x3 x6 x41 x42 x43 J9 J2 Q w) (JH x0 x3 x6 J2 Q w)
def zl x0 x3 x4 (J2:Value→World→Prop) (Q:PQ) w:=bB w fun v18 w19=>aP [.slice none 0 0,.map none] [(1,1,v18)] fun v20=>knew (Value.cells v20) 264 w19 fun v21 w22=>ae Tryz.prog 150 #[x4] w22 fun v23 w24=>aU v23 fun v25=>kL fun(I:Value→World→Prop) (μ:Value→World→Nat)=>I (.int .i64 0) w24∧∀(x43:Value) (w1:World),I x43 w1→zk x43 x0 x3 v21 v23 v25 (fun y43 w2=>I y43 w2∧μ y43 w2<μ x43 w1) J2 Q w1
def zm x0 x3 (J2:Value→World→Prop) (Q:PQ) w:=kN x0<|ai 3 x0 fun v10=>aw v10 w fun v11=>ae Tryz.prog 149 #[v11,x3] w fun v12 w13=>aE v12 0 fun v14=>aE v12 1 fun v15=>keq Tryz.prog .neq 37 false true v15 .nilIface w13 fun v16 w17=>kB v16 fun b58=>aA b58 (Q v15 w17) (zl x0 x3 v14 J2 Q w17)
def JI (Q:PQ) w:=Q .nilIface w
def zn x3 x0 (J2:Value→World→Prop) (Q:PQ) w:=kN x0<|ai 3 x0 fun v5=>aw v5 w fun v6=>ae Tryz.prog 148 #[v6] w fun v7 w8=>kint .i64 .lss x3 v7 fun v9=>kB v9 fun b59=>aA b59 (zm x0 x3 J2 Q w8) (JI Q w8)
def NK x0 (Q:PQ) w:=kN x0<|ai 4 x0 fun v1=>aw v1 w fun v2=>aU v2 fun v3=>kL fun(I:Value→World→Prop) (μ:Value→World→Nat)=>I v3 w∧∀(x3:Value) (w1:World),I x3 w1→zn x3 x0 (fun y3 w2=>I y3 w2∧μ y3 w2<μ x3 w1) Q w1
theorem DI (h:NK x0 Q w):af Tryz.prog 102 #[x0] w Q :=
 ax (c:=Tryz.f102.body.get rfl) [(2,[3]),(9,[43])] Tryz.func102 rfl rfl (args:=[x0]) rfl (by kernel_rfl) h
def JJ (x32 x33:Value) x34 (J4:Value→World→Prop) (Q:PQ) w:=kint .i64 .add x34 (.int .i64 1) fun v31=>J4 v31 w
def zo x32 x33 x34 (J4:Value→World→Prop) (Q:PQ) w:=bz (some (.slice 3)) (some 1) x32 x34 fun v28=>aw v28 w fun v29=>kint .i64 .neq v29 (.int .i64 0) fun v30=>kB v30 fun b32=>aA b32 (Q (.bool false) w) (JJ x32 x33 x34 J4 Q w)
def zp (Q:PQ) w:=Q (.bool true) w
def zr x34 x32 x33 (J4:Value→World→Prop) (Q:PQ) w:=kint .i64 .lss x34 x33 fun v27=>kB v27 fun b33=>aA b33 (zo x32 x33 x34 J4 Q w) (zp Q w)
def JK x0 x3 (Q:PQ) (w:World):=ai 1 x3 fun v15=>kN x0<|ai 1 x0 fun v16=>ai 0 v16 fun v17=>aw v17 w.drew fun v18=>kG (w.drew=w.drew)<|ai 0 x3 fun v19=>aw v19 w.drew fun v20=>kG (w.drew=w.drew)<|bz (some (.slice 144)) (some 7) v18 v20 fun v21=>ai 1 v21 fun v22=>aw v22 w.drew fun v23=>kG (w.drew=w.drew)<|ksl (some (.array 4 3)) (some 1) v15 (some v23) none fun v24=>aU v24 fun v25=>kL fun(I:Value→World→Prop) (μ:Value→World→Nat)=>I (.int .i64 0) w.drew∧∀(x34:Value) (w1:World),I x34 w1→zr x34 v24 v25 (fun y34 w2=>I y34 w2∧μ y34 w2<μ x34 w1) Q w1
def zt x0 x3 x20 (Q:PQ) w:=kB x20 fun b34=>aA b34 (Q (.bool false) w) (JK x0 x3 Q w)
def NL x0 x1 (Q:PQ) w:=knew (Value.cells x1) 95 w fun v1 w2=>ai 0 v1 fun v3=>aw v3 w2.drew fun v4=>kG (w2.drew=w2.drew)<|kint .i64 .lss v4 (.int .i64 0) fun v5=>kB v5 fun b6=>aA (!b6) (ai 0 v1 fun v7=>aw v7 w2.drew fun v8=>kG (w2.drew=w2.drew)<|kN x0<|ai 1 x0 fun v9=>ai 0 v9 fun v10=>aw v10 w2.drew fun v11=>kG (w2.drew=w2.drew)<|aU v11 fun v12=>kint .i64 .geq v8 v12 fun v14=>zt x0 v1 v14 Q w2.drew) (zt x0 v1 (.bool true) Q w2.drew)
theorem DJ (h:NL x0 x1 Q w):af Tryz.prog 166 #[x0,x1] w Q :=
 ax (c:=Tryz.f166.body.get rfl) [(4,[34])] Tryz.func166 rfl rfl (args:=[x0,x1]) rfl (by kernel_rfl) h
def JL (x0 x2 x5 x9 x21 x22:Value) x23 (J3:Value→World→Prop) (Q:PQ) w:=kint .i64 .add x23 (.int .i64 1) fun v28=>J3 v28 w
def zu x0 x2 x5 x9 x21 x22 x23 (J3:Value→World→Prop) (Q:PQ) w:=bz (some (.slice 95)) (some 6) x21 x23 fun v10=>aB 6 v10 w fun v11=>knew #[.int .i64 0,.int .i64 0,.int .i64 0,.int .i64 0,.int .i64 0,.int .i64 0] 95 w fun v12 w13=>bj 6 v12 v11 w13 fun w14=>kN x9<|ai 1 x9 fun v15=>aw v15 w14.drew fun v16=>kG (w14.drew=w14.drew)<|ai 0 v12 fun v17=>aw v17 w14.drew fun v18=>kG (w14.drew=w14.drew)<|ksem Tryz.prog (Instr.lookup 262 v16 v18 false) w14.drew fun v19 w20=>kG (w20=w14.drew)<|aB 6 v12 w20 fun v21=>kG (w20=w20)<|ae Tryz.prog 167 #[v19,v21] w20 fun v22 w23=>aE v22 0 fun v24=>aE v22 1 fun v25=>keq Tryz.prog .neq 37 false true v25 .nilIface w23 fun v26 w27=>kB v26 fun b29=>aA b29 (Q v25 w27) (JL x0 x2 x5 x9 x21 x22 x23 J3 Q w27)
def zv x0 x2 x5 x9 (Q:PQ) (w:World):=kN x0<|ai 5 x0 fun v30=>aw v30 w.drew fun v31=>kG (w.drew=w.drew)<|ai 0 x5 fun v32=>aw v32 w.drew fun v33=>kG (w.drew=w.drew)<|kN x9<|ai 0 x9 fun v34=>aw v34 w.drew fun v35=>kG (w.drew=w.drew)<|aU v35 fun v36=>aP [.int .i64 0,.int .i64 0] [(0,1,x2),(1,1,v36)] fun v38=>bz (some (.slice 237)) (some 2) v31 v33 fun v39=>bj 2 v39 v38 w.drew fun w40=>kN x9<|ai 0 x9 fun v41=>aw v41 w40.drew fun v42=>kG (w40.drew=w40.drew)<|aB 2 x5 w40.drew fun v43=>kG (w40.drew=w40.drew)<|ay [.int .i64 0,.int .i64 0] 1 [(0,2,v43)] 157 w40.drew fun v44 w45=>kG (aw v41 w45 fun v50=>v50=v42∧w45=w45)<|ksem Tryz.prog (Builtin.append_ #[261,261] 0 #[v42,v44]) w45 fun v46 w47=>kN x9<|ai 0 x9 fun v48=>bj 1 v48 v46 w47 fun w49=>Q .nilIface w49
def zw x23 x0 x2 x5 x9 x21 x22 (J3:Value→World→Prop) (Q:PQ) w:=kint .i64 .lss x23 x22 fun v9=>kB v9 fun b51=>aA b51 (zu x0 x2 x5 x9 x21 x22 x23 J3 Q w) (zv x0 x2 x5 x9 Q w)
def NM x0 x1 x2 x3 (Q:PQ) w:=knew (Value.cells x1) 157 w fun v1 w2=>kN x0<|ai 4 x0 fun v3=>aw v3 w2 fun v4=>bz (some (.slice 265)) (some 1) v4 x2 fun v5=>aw v5 w2 fun v6=>aU x3 fun v7=>kL fun(I:Value→World→Prop) (μ:Value→World→Nat)=>I (.int .i64 0) w2∧∀(x23:Value) (w1:World),I x23 w1→zw x23 x0 x2 v1 v6 x3 v7 (fun y23 w2=>I y23 w2∧μ y23 w2<μ x23 w1) Q w1
theorem DK (h:NM x0 x1 x2 x3 Q w):af Tryz.prog 117 #[x0,x1,x2,x3] w Q :=
 ax (c:=Tryz.f117.body.get rfl) [(3,[23])] Tryz.func117 rfl rfl (args:=[x0,x1,x2,x3]) rfl (by kernel_rfl) h
def NN x0 (Q:PQ) w:=ae Tryz.prog 183 #[x0,(.func (.func 184) #[] #[])] w fun v1 w2=>Q (.tuple #[]) w2
theorem DL (h:NN x0 Q w):af Tryz.prog 144 #[x0] w Q :=
 ax (c:=Tryz.f144.body.get rfl) [] Tryz.func144 rfl rfl (args:=[x0]) rfl (by kernel_rfl) h
def NO x0 x1 (Q:PQ) w:=knew (Value.cells x0) 95 w fun v1 w2=>knew (Value.cells x1) 95 w2 fun v3 w4=>ai 0 v1 fun v5=>aw v5 w4 fun v6=>ai 0 v3 fun v7=>aw v7 w4 fun v8=>ae Tryz.prog 185 #[v6,v8] w4 fun v9 w10=>Q v9 w10
theorem DM (h:NO x0 x1 Q w):af Tryz.prog 184 #[x0,x1] w Q :=
 ax (c:=Tryz.f184.body.get rfl) [] Tryz.func184 rfl rfl (args:=[x0,x1]) rfl (by kernel_rfl) h
def JM (x0 x1:Value) x4 x7 (x10 x11:Value) x12 (J3:Value→Value→Value→World→Prop) (Q:PQ) w:=kint .i64 .add x12 (.int .i64 1) fun v25=>J3 x4 x7 v25 w
def zx x0 x1 x4 x7 x9 x10 x11 x12 (J3:Value→Value→Value→World→Prop) (Q:PQ) w:=ai 0 x9 fun v21=>aw v21 w fun v22=>ae Tryz.prog 152 #[x4,v22] w fun v23 w24=>JM x0 x1 v23 x7 x10 x11 x12 J3 Q w24
def JN x0 x1 x4 x7 x9 x10 x11 x12 (J3:Value→Value→Value→World→Prop) (Q:PQ) w:=kB x7 fun b16=>aA (!b16) (ai 0 x9 fun v17=>aw v17 w fun v18=>ae Tryz.prog 41 #[x4,v18] w fun v19 w20=>zx x0 x1 x4 v19 x9 x10 x11 x12 J3 Q w20) (zx x0 x1 x4 (.bool true) x9 x10 x11 x12 J3 Q w)
def zy x0 x1 x4 x7 x10 x11 x12 (J3:Value→Value→Value→World→Prop) (Q:PQ) w:=bz (some (.slice 95)) (some 6) x10 x12 fun v4=>aB 6 v4 w fun v5=>knew #[.int .i64 0,.int .i64 0,.int .i64 0,.int .i64 0,.int .i64 0,.int .i64 0] 95 w fun v6 w7=>bj 6 v6 v5 w7 fun w8=>aB 6 v6 w8 fun v9=>ae Tryz.prog 166 #[x0,v9] w8 fun v10 w11=>kun .not (some .bool) v10 fun v12=>kB v12 fun b26=>aA b26 (aw (.pointer (some ⟨3,0,none⟩)) w11 fun v13=>ae Tryz.prog 99 #[v13] w11 fun v14 w15=>Q (.tuple #[.int .u32 0,.slice none 0 0,v14]) w15) (JN x0 x1 x4 x7 v6 x10 x11 x12 J3 Q w11)
def zA x1 x4 (Q:PQ) w:=ae Tryz.prog 165 #[x1] w fun v30 w31=>ae Tryz.prog 144 #[v30] w31 fun v32 w33=>Q (.tuple #[x4,v30,.nilIface]) w33
def zB x1 x4 x7 (Q:PQ) w:=kB x7 fun b34=>aA b34 (aw (.pointer (some ⟨8,0,none⟩)) w fun v27=>ae Tryz.prog 99 #[v27] w fun v28 w29=>Q (.tuple #[.int .u32 0,.slice none 0 0,v28]) w29) (zA x1 x4 Q w)
def zC x4 x7 x12 x0 x1 x10 x11 (J3:Value→Value→Value→World→Prop) (Q:PQ) w:=kint .i64 .lss x12 x11 fun v3=>kB v3 fun b35=>aA b35 (zy x0 x1 x4 x7 x10 x11 x12 J3 Q w) (zB x1 x4 x7 Q w)
def NP x0 x1 (Q:PQ) w:=aU x1 fun v1=>kL fun(I:Value→Value→Value→World→Prop) (μ:Value→Value→Value→World→Nat)=>I (.int .u32 0) (.bool false) (.int .i64 0) w∧∀(x4 x7 x12:Value) (w1:World),I x4 x7 x12 w1→zC x4 x7 x12 x0 x1 x1 v1 (fun y4 y7 y12 w2=>I y4 y7 y12 w2∧μ y4 y7 y12 w2<μ x4 x7 x12 w1) Q w1
theorem DN (h:NP x0 x1 Q w):af Tryz.prog 114 #[x0,x1] w Q :=
 ax (c:=Tryz.f114.body.get rfl) [(3,[4,7,12])] Tryz.func114 rfl rfl (args:=[x0,x1]) rfl (by kernel_rfl) h
def Gl x0 x4 x7 x9 x10 (Q:PQ) (w:World):=aB 2 x9 w.drew fun v57=>kG (w.drew=w.drew)<|aB 2 x9 w.drew fun v58=>kG (w.drew=w.drew)<|ae Tryz.prog 117 #[x0,v58,x10,x7] w.drew fun v59 w60=>kG (aB 2 x9 w60 fun v63=>v63=v57∧w60=w60)<|bj 2 x4 v57 w60 fun w61=>aB 2 x4 w61 fun v62=>Q (.tuple #[v62,v59]) w61
def Gm x0 x4 x7 x9 x10 (Q:PQ) w:=ae Tryz.prog 102 #[x0] w fun v50 w51=>keq Tryz.prog .neq 37 false true v50 .nilIface w51 fun v52 w53=>kB v52 fun b64=>aA b64 (aP [.int .i64 0,.int .i64 0] [] fun v54=>bj 2 x4 v54 w53 fun w55=>aB 2 x4 w55 fun v56=>Q (.tuple #[v56,v50]) w55) (Gl x0 x4 x7 x9 x10 Q w53)
def Gn x0 x4 x6 x7 x9 (Q:PQ) w:=kN x0<|ai 3 x0 fun v37=>aw v37 w fun v38=>ae Tryz.prog 116 #[v38,x6] w fun v39 w40=>aE v39 0 fun v41=>aE v39 1 fun v42=>keq Tryz.prog .neq 37 false true v42 .nilIface w40 fun v43 w44=>kB v43 fun b65=>aA b65 (aP [.int .i64 0,.int .i64 0] [] fun v45=>ae Tryz.prog 99 #[v42] w44 fun v46 w47=>bj 2 x4 v45 w47 fun w48=>aB 2 x4 w48 fun v49=>Q (.tuple #[v49,v46]) w48) (Gm x0 x4 x7 x9 v41 Q w44)
def Gp x0 x4 x6 x7 (Q:PQ) w:=kN x0<|ai 0 x0 fun v21=>aw v21 w fun v22=>ae Tryz.prog 115 #[v22] w fun v23 w24=>aE v23 0 fun v25=>aE v23 1 fun v26=>knew #[.int .i64 0,.int .i64 0] 157 w24 fun v27 w28=>bj 2 v27 v25 w28 fun w29=>keq Tryz.prog .neq 37 false true v26 .nilIface w29 fun v30 w31=>kB v30 fun b66=>aA b66 (aP [.int .i64 0,.int .i64 0] [] fun v32=>ae Tryz.prog 99 #[v26] w31 fun v33 w34=>bj 2 x4 v32 w34 fun w35=>aB 2 x4 w35 fun v36=>Q (.tuple #[v36,v33]) w35) (Gn x0 x4 x6 x7 v27 Q w31)
def Gq x0 x1 x4 (Q:PQ) w:=ae Tryz.prog 114 #[x0,x1] w fun v11 w12=>aE v11 0 fun v13=>aE v11 1 fun v14=>aE v11 2 fun v15=>keq Tryz.prog .neq 37 false true v15 .nilIface w12 fun v16 w17=>kB v16 fun b67=>aA b67 (aP [.int .i64 0,.int .i64 0] [] fun v18=>bj 2 x4 v18 w17 fun w19=>aB 2 x4 w19 fun v20=>Q (.tuple #[v20,v15]) w19) (Gp x0 x4 v13 v14 Q w17)
def RP x0 x1 (Q:PQ) w:=knew #[.int .i64 0,.int .i64 0] 157 w fun v1 w2=>keq Tryz.prog .eql 104 false true x0 (.pointer none) w2 fun v3 w4=>kB v3 fun b68=>aA b68 (aP [.int .i64 0,.int .i64 0] [] fun v5=>aw (.pointer (some ⟨2,0,none⟩)) w4 fun v6=>ae Tryz.prog 99 #[v6] w4 fun v7 w8=>bj 2 v1 v5 w8 fun w9=>aB 2 v1 w9 fun v10=>Q (.tuple #[v10,v7]) w9) (Gq x0 x1 v1 Q w4)
theorem JO (h:RP x0 x1 Q w):af Tryz.prog 72 #[x0,x1] w Q :=
 ax (c:=Tryz.f72.body.get rfl) [] Tryz.func72 rfl rfl (args:=[x0,x1]) rfl (by kernel_rfl) h
def zD x0 x3 x4 (Q:PQ) (w:World):=kN x0<|ai 5 x0 fun v23=>aw v23 w.drew fun v24=>kG (w.drew=w.drew)<|ai 0 x3 fun v25=>aw v25 w.drew fun v26=>kG (w.drew=w.drew)<|bz (some (.slice 237)) (some 2) v24 v26 fun v27=>aB 2 v27 w.drew fun v28=>kG (w.drew=w.drew)<|bj 2 x4 v28 w.drew fun w29=>aB 2 x4 w29 fun v30=>Q (.tuple #[v30,.nilIface]) w29
def JP x0 x1 (Q:PQ) w:=knew (Value.cells x1) 157 w fun v1 w2=>knew #[.int .i64 0,.int .i64 0] 237 w2 fun v3 w4=>keq Tryz.prog .eql 104 false true x0 (.pointer none) w4 fun v5 w6=>kB v5 fun b32=>aA b32 (aP [.int .i64 0,.int .i64 0] [] fun v7=>aw (.pointer (some ⟨2,0,none⟩)) w6 fun v8=>ae Tryz.prog 99 #[v8] w6 fun v9 w10=>bj 2 v3 v7 w10 fun w11=>aB 2 v3 w11 fun v12=>Q (.tuple #[v12,v9]) w11) (aB 2 v1 w6 fun v13=>ae Tryz.prog 170 #[x0,v13] w6 fun v14 w15=>kun .not (some .bool) v14 fun v16=>kB v16 fun b31=>aA b31 (aP [.int .i64 0,.int .i64 0] [] fun v17=>aw (.pointer (some ⟨16,0,none⟩)) w15 fun v18=>ae Tryz.prog 99 #[v18] w15 fun v19 w20=>bj 2 v3 v17 w20 fun w21=>aB 2 v3 w21 fun v22=>Q (.tuple #[v22,v19]) w21) (zD x0 v1 v3 Q w15))
theorem tX (h:JP x0 x1 Q w):af Tryz.prog 121 #[x0,x1] w Q :=
 ax (c:=Tryz.f121.body.get rfl) [] Tryz.func121 rfl rfl (args:=[x0,x1]) rfl (by kernel_rfl) h
def zE x9 x11 (Q:PQ) (w:World):=ai 1 x9 fun v28=>aw v28 w.drew fun v29=>kG (w.drew=w.drew)<|Q (.tuple #[x11,v29,.nilIface]) w.drew
def ss x0 x2 x9 (Q:PQ) (w:World):=kN x0<|ai 4 x0 fun v13=>aw v13 w.drew fun v14=>kG (w.drew=w.drew)<|ai 0 x9 fun v15=>aw v15 w.drew fun v16=>kG (w.drew=w.drew)<|bz (some (.slice 265)) (some 1) v14 v16 fun v17=>aw v17 w.drew fun v18=>kG (w.drew=w.drew)<|kN v18<|ai 1 v18 fun v19=>aw v19 w.drew fun v20=>kG (w.drew=w.drew)<|ksem Tryz.prog (Instr.lookup 262 v20 x2 false) w.drew fun v21 w22=>kG (w22=w.drew)<|keq Tryz.prog .eql 266 false true v21 (.pointer none) w22 fun v23 w24=>kB v23 fun b30=>aA b30 (aw (.pointer (some ⟨11,0,none⟩)) w24 fun v25=>ae Tryz.prog 99 #[v25] w24 fun v26 w27=>Q (.tuple #[.pointer none,.int .i64 0,v26]) w27) (zE x9 v21 Q w24)
def JQ x0 x1 x2 (Q:PQ) w:=knew (Value.cells x1) 157 w fun v1 w2=>aB 2 v1 w2 fun v3=>ae Tryz.prog 121 #[x0,v3] w2 fun v4 w5=>aE v4 0 fun v6=>aE v4 1 fun v7=>knew #[.int .i64 0,.int .i64 0] 237 w5 fun v8 w9=>bj 2 v8 v6 w9 fun w10=>keq Tryz.prog .neq 37 false true v7 .nilIface w10 fun v11 w12=>kB v11 fun b31=>aA b31 (Q (.tuple #[.pointer none,.int .i64 0,v7]) w12) (ss x0 x2 v8 Q w12)
theorem tY (h:JQ x0 x1 x2 Q w):af Tryz.prog 207 #[x0,x1,x2] w Q :=
 ax (c:=Tryz.f207.body.get rfl) [] Tryz.func207 rfl rfl (args:=[x0,x1,x2]) rfl (by kernel_rfl) h
def JR x3 x4 x5 x12 x14 x15 (Q:PQ) w:=ae Tryz.prog 208 #[x14,x15,x3,x4,x5] w fun v16 w17=>aE v16 0 fun v18=>aE v16 1 fun v19=>bj 6 x12 v18 w17 fun w20=>aB 6 x12 w20 fun v21=>Q (.tuple #[v21,v19]) w20
def DP x0 x1 x2 x3 x4 x5 (Q:PQ) w:=knew (Value.cells x1) 157 w fun v1 w2=>knew #[.int .i64 0,.int .i64 0,.int .i64 0,.int .i64 0,.int .i64 0,.int .i64 0] 95 w2 fun v3 w4=>aB 2 v1 w4 fun v5=>ae Tryz.prog 207 #[x0,v5,x2] w4 fun v6 w7=>aE v6 0 fun v8=>aE v6 1 fun v9=>aE v6 2 fun v10=>keq Tryz.prog .neq 37 false true v10 .nilIface w7 fun v11 w12=>kB v11 fun b22=>aA b22 (aP [.int .i64 0,.int .i64 0,.int .i64 0,.int .i64 0,.int .i64 0,.int .i64 0] [] fun v13=>bj 6 v3 v13 w12 fun w14=>aB 6 v3 w14 fun v15=>Q (.tuple #[v15,v10]) w14) (JR x3 x4 x5 v3 v8 v9 Q w12)
theorem pf (h:DP x0 x1 x2 x3 x4 x5 Q w):af Tryz.prog 176 #[x0,x1,x2,x3,x4,x5] w Q :=
 ax (c:=Tryz.f176.body.get rfl) [] Tryz.func176 rfl rfl (args:=[x0,x1,x2,x3,x4,x5]) rfl (by kernel_rfl) h
def JS x6 x8 x9 (Q:PQ) w:=ae Tryz.prog 143 #[x8,x9] w fun v16 w17=>aE v16 0 fun v18=>aE v16 1 fun v19=>bj 6 x6 v18 w17 fun w20=>aB 6 x6 w20 fun v21=>Q (.tuple #[v21,v19]) w20
def JT x0 x1 x2 (Q:PQ) w:=knew (Value.cells x1) 157 w fun v1 w2=>knew #[.int .i64 0,.int .i64 0,.int .i64 0,.int .i64 0,.int .i64 0,.int .i64 0] 95 w2 fun v3 w4=>aB 2 v1 w4 fun v5=>ae Tryz.prog 207 #[x0,v5,x2] w4 fun v6 w7=>aE v6 0 fun v8=>aE v6 1 fun v9=>aE v6 2 fun v10=>keq Tryz.prog .neq 37 false true v10 .nilIface w7 fun v11 w12=>kB v11 fun b22=>aA b22 (aP [.int .i64 0,.int .i64 0,.int .i64 0,.int .i64 0,.int .i64 0,.int .i64 0] [] fun v13=>bj 6 v3 v13 w12 fun w14=>aB 6 v3 w14 fun v15=>Q (.tuple #[v15,v10]) w14) (JS v3 v8 v9 Q w12)
theorem tZ (h:JT x0 x1 x2 Q w):af Tryz.prog 204 #[x0,x1,x2] w Q :=
 ax (c:=Tryz.f204.body.get rfl) [] Tryz.func204 rfl rfl (args:=[x0,x1,x2]) rfl (by kernel_rfl) h
def Gr (x6:Value) x8 x11 (x33:Value) (J6:Value→World→Prop) (Q:PQ) w:=aB 6 x11 w fun v40=>ay [.int .i64 0,.int .i64 0,.int .i64 0,.int .i64 0,.int .i64 0,.int .i64 0] 1 [(0,6,v40)] 95 w fun v41 w42=>ksem Tryz.prog (Builtin.append_ #[90,90] 0 #[x8,v41]) w42 fun v43 w44=>J6 v43 w44
def Gs x6 x8 x33 (J6:Value→World→Prop) (Q:PQ) w:=ksem Tryz.prog (Instr.entry x33) w fun v26 w27=>aE v26 1 fun v28=>ai 1 x6 fun v29=>aw v29 w27 fun v30=>ae Tryz.prog 143 #[v28,v30] w27 fun v31 w32=>aE v31 0 fun v33=>aE v31 1 fun v34=>knew #[.int .i64 0,.int .i64 0,.int .i64 0,.int .i64 0,.int .i64 0,.int .i64 0] 95 w32 fun v35 w36=>bj 6 v35 v33 w36 fun w37=>keq Tryz.prog .neq 37 false true v34 .nilIface w37 fun v38 w39=>kB v38 fun b45=>aA b45 (Q (.tuple #[.slice none 0 0,v34]) w39) (Gr x6 x8 v35 x33 J6 Q w39)
def NQ x8 (Q:PQ) w:=ae Tryz.prog 144 #[x8] w fun v46 w47=>Q (.tuple #[x8,.nilIface]) w47
def Gt x8 x6 x33 (J6:Value→World→Prop) (Q:PQ) w:=ksem Tryz.prog (Instr.next x33 false 0) w fun v23 w24=>aE v23 0 fun v25=>kB v25 fun b48=>aA b48 (Gs x6 x8 x33 J6 Q w24) (NQ x8 Q w24)
def Gu x0 x6 (Q:PQ) (w:World):=kN x0<|ai 4 x0 fun v13=>aw v13 w.drew fun v14=>kG (w.drew=w.drew)<|ai 0 x6 fun v15=>aw v15 w.drew fun v16=>kG (w.drew=w.drew)<|bz (some (.slice 265)) (some 1) v14 v16 fun v17=>aw v17 w.drew fun v18=>kG (w.drew=w.drew)<|kN v18<|ai 1 v18 fun v19=>aw v19 w.drew fun v20=>kG (w.drew=w.drew)<|ksem Tryz.prog (Instr.range 262 v20) w.drew fun v21 w22=>kL fun(I:Value→World→Prop) (μ:Value→World→Nat)=>I (.slice none 0 0) w22∧∀(x8:Value) (w1:World),I x8 w1→Gt x8 x6 v21 (fun y8 w2=>I y8 w2∧μ y8 w2<μ x8 w1) Q w1
def RQ x0 x1 (Q:PQ) w:=knew (Value.cells x1) 157 w fun v1 w2=>aB 2 v1 w2 fun v3=>ae Tryz.prog 121 #[x0,v3] w2 fun v4 w5=>aE v4 0 fun v6=>aE v4 1 fun v7=>knew #[.int .i64 0,.int .i64 0] 237 w5 fun v8 w9=>bj 2 v8 v6 w9 fun w10=>keq Tryz.prog .neq 37 false true v7 .nilIface w10 fun v11 w12=>kB v11 fun b49=>aA b49 (Q (.tuple #[.slice none 0 0,v7]) w12) (Gu x0 v8 Q w12)
theorem JU (h:RQ x0 x1 Q w):af Tryz.prog 98 #[x0,x1] w Q :=
 ax (c:=Tryz.f98.body.get rfl) [(6,[8])] Tryz.func98 rfl rfl (args:=[x0,x1]) rfl (by kernel_rfl) h
def NR x0 x1 (Q:PQ) w:=knew (Value.cells x1) 157 w fun v1 w2=>keq Tryz.prog .neq 104 false true x0 (.pointer none) w2.drew fun v3 w4=>kG (w4=w2.drew)<|kB v3 fun b5=>aA b5 (kN x0<|ai 0 x0 fun v6=>aw v6 w4 fun v7=>kG (w4=w4)<|aB 2 v1 w4 fun v8=>kG (w4=w4)<|ae Tryz.prog 172 #[v7,v8] w4 fun v9 w10=>Q v9 w10) (Q (.bool false) w4)
theorem DQ (h:NR x0 x1 Q w):af Tryz.prog 170 #[x0,x1] w Q :=
 ax (c:=Tryz.f170.body.get rfl) [] Tryz.func170 rfl rfl (args:=[x0,x1]) rfl (by kernel_rfl) h
def RR x0 (Q:PQ) w:=ae Tryz.prog 80 #[(.string ⟨#[115,116,111,114,101]⟩),x0] w fun v1 w2=>Q v1 w2
theorem JV (h:RR x0 Q w):af Tryz.prog 99 #[x0] w Q :=
 ax (c:=Tryz.f99.body.get rfl) [] Tryz.func99 rfl rfl (args:=[x0]) rfl (by kernel_rfl) h
def JW (Q:PQ) w:=Q (.int .i64 (-1)) w
def JX (Q:PQ) w:=Q (.int .i64 0) w
def zF x0 x1 (Q:PQ) w:=kint .i64 .gtr x0 x1 fun v7=>kB v7 fun b8=>aA b8 (Q (.int .i64 1) w) (JX Q w)
def JY x0 x1 (Q:PQ) w:=kint .i64 .lss x0 x1 fun v6=>kB v6 fun b9=>aA b9 (Q (.int .i64 (-1)) w) (zF x0 x1 Q w)
def JZ x0 x1 x6 (Q:PQ) w:=kB x6 fun b10=>aA b10 (Q (.int .i64 1) w) (JY x0 x1 Q w)
def NS x0 x1 (Q:PQ) w:=ae Tryz.prog 213 #[x0] w fun v1 w2=>ae Tryz.prog 213 #[x1] w2 fun v3 w4=>kB v1 fun b11=>aA b11 (kB v3 fun b5=>aA b5 (Q (.int .i64 0) w4) (JW Q w4)) (JZ x0 x1 v3 Q w4)
theorem DR (h:NS x0 x1 Q w):af Tryz.prog 185 #[x0,x1] w Q :=
 ax (c:=Tryz.f185.body.get rfl) [] Tryz.func185 rfl rfl (args:=[x0,x1]) rfl (by kernel_rfl) h
def NT x0 (Q:PQ) w:=kint .i64 .neq x0 x0 fun v1=>Q v1 w
theorem DS (h:NT x0 Q w):af Tryz.prog 213 #[x0] w Q :=
 ax (c:=Tryz.f213.body.get rfl) [] Tryz.func213 rfl rfl (args:=[x0]) rfl (by kernel_rfl) h
def zG x0 (Q:PQ) w:=ay [.int .i64 0,.int .i64 0,.int .i64 0,.int .i64 0,.int .i64 0,.int .i64 0] 0 [] 95 w fun v3 w4=>ksem Tryz.prog (Builtin.append_ #[90,90] 0 #[v3,x0]) w4 fun v5 w6=>Q v5 w6
def NU x0 (Q:PQ) w:=keq Tryz.prog .eql 90 false true x0 (.slice none 0 0) w fun v1 w2=>kB v1 fun b7=>aA b7 (Q (.slice none 0 0) w2) (zG x0 Q w2)
theorem DT (h:NU x0 Q w):af Tryz.prog 165 #[x0] w Q :=
 ax (c:=Tryz.f165.body.get rfl) [] Tryz.func165 rfl rfl (args:=[x0]) rfl (by kernel_rfl) h
def Gv x0 (Q:PQ) w:=ay [(.string ⟨#[]⟩),.int .i64 0,.bool false,.int .i64 0,.int .i64 0,.int .i64 0,.int .i64 0] 0 [] 144 w fun v3 w4=>ksem Tryz.prog (Builtin.append_ #[67,67] 0 #[v3,x0]) w4 fun v5 w6=>Q v5 w6
def RS x0 (Q:PQ) w:=keq Tryz.prog .eql 67 false true x0 (.slice none 0 0) w fun v1 w2=>kB v1 fun b7=>aA b7 (Q (.slice none 0 0) w2) (Gv x0 Q w2)
theorem J0 (h:RS x0 Q w):af Tryz.prog 63 #[x0] w Q :=
 ax (c:=Tryz.f63.body.get rfl) [] Tryz.func63 rfl rfl (args:=[x0]) rfl (by kernel_rfl) h
def Gw x0 (Q:PQ) w:=ay [(.string ⟨#[]⟩),.int .i64 0] 0 [] 147 w fun v3 w4=>ksem Tryz.prog (Builtin.append_ #[68,68] 0 #[v3,x0]) w4 fun v5 w6=>Q v5 w6
def RT x0 (Q:PQ) w:=keq Tryz.prog .eql 68 false true x0 (.slice none 0 0) w fun v1 w2=>kB v1 fun b7=>aA b7 (Q (.slice none 0 0) w2) (Gw x0 Q w2)
theorem J8 (h:RT x0 Q w):af Tryz.prog 64 #[x0] w Q :=
 ax (c:=Tryz.f64.body.get rfl) [] Tryz.func64 rfl rfl (args:=[x0]) rfl (by kernel_rfl) h
def t6 (x0 x1:Value) x5 x6 (J5:Value→Value→World→Prop) (Q:PQ) w:=kint .i64 .add x6 (.int .i64 1) fun v21=>J5 x5 v21 w
def Gx x0 x1 x5 x6 (J5:Value→Value→World→Prop) (Q:PQ) w:=bz (some (.slice 95)) (some 6) x0 x6 fun v8=>aB 6 v8 w fun v9=>knew #[.int .i64 0,.int .i64 0,.int .i64 0,.int .i64 0,.int .i64 0,.int .i64 0] 95 w fun v10 w11=>bj 6 v10 v9 w11 fun w12=>aB 6 v10 w12 fun v13=>aI Tryz.prog x1 [v13] w12 fun v14 w15=>kun .not (some .bool) v14 fun v16=>kB v16 fun b22=>aA b22 (aB 6 v10 w15 fun v17=>bz (some (.slice 95)) (some 6) x0 x5 fun v18=>bj 6 v18 v17 w15 fun w19=>kint .i64 .add x5 (.int .i64 1) fun v20=>t6 x0 x1 v20 x6 J5 Q w19) (t6 x0 x1 x5 x6 J5 Q w15)
def Gy x0 x5 (Q:PQ) w:=ksl (some (.slice 95)) (some 6) x0 (some x5) none fun v23=>ksem Tryz.prog (Builtin.clear_ #[90] 0 #[v23]) w fun v24 w25=>ksl (some (.slice 95)) (some 6) x0 none (some x5) fun v26=>Q v26 w25
def Gz x5 x6 x0 x1 (J5:Value→Value→World→Prop) (Q:PQ) w:=aU x0 fun v5=>kint .i64 .lss x6 v5 fun v7=>kB v7 fun b27=>aA b27 (Gx x0 x1 x5 x6 J5 Q w) (Gy x0 x5 Q w)
def GA x0 x1 x5 (Q:PQ) w:=kint .i64 .add x5 (.int .i64 1) fun v4=>kL fun(I:Value→Value→World→Prop) (μ:Value→Value→World→Nat)=>I x5 v4 w∧∀(x5 x6:Value) (w1:World),I x5 x6 w1→Gz x5 x6 x0 x1 (fun y5 y6 w2=>I y5 y6 w2∧μ y5 y6 w2<μ x5 x6 w1) Q w1
def RU x0 x1 (Q:PQ) w:=ae Tryz.prog 78 #[x0,x1] w fun v1 w2=>kint .i64 .eql v1 (.int .i64 (-1)) fun v3=>kB v3 fun b28=>aA b28 (Q x0 w2) (GA x0 x1 v1 Q w2)
theorem Ka (h:RU x0 x1 Q w):af Tryz.prog 39 #[x0,x1] w Q :=
 ax (c:=Tryz.f39.body.get rfl) [(5,[5,6])] Tryz.func39 rfl rfl (args:=[x0,x1]) rfl (by kernel_rfl) h
def GB (x0 x1 x7:Value) x8 (J2:Value→World→Prop) (Q:PQ) w:=kint .i64 .add x8 (.int .i64 1) fun v8=>J2 v8 w
def GC x0 x1 x7 x8 (J2:Value→World→Prop) (Q:PQ) w:=bz (some (.slice 95)) (some 6) x0 x8 fun v4=>aB 6 v4 w fun v5=>aI Tryz.prog x1 [v5] w fun v6 w7=>kB v6 fun b9=>aA b9 (Q x8 w7) (GB x0 x1 x7 x8 J2 Q w7)
def GD (Q:PQ) w:=Q (.int .i64 (-1)) w
def GE x8 x0 x1 x7 (J2:Value→World→Prop) (Q:PQ) w:=kint .i64 .lss x8 x7 fun v3=>kB v3 fun b10=>aA b10 (GC x0 x1 x7 x8 J2 Q w) (GD Q w)
def RV x0 x1 (Q:PQ) w:=aU x0 fun v1=>kL fun(I:Value→World→Prop) (μ:Value→World→Nat)=>I (.int .i64 0) w∧∀(x8:Value) (w1:World),I x8 w1→GE x8 x0 x1 v1 (fun y8 w2=>I y8 w2∧μ y8 w2<μ x8 w1) Q w1
theorem Kb (h:RV x0 x1 Q w):af Tryz.prog 78 #[x0,x1] w Q :=
 ax (c:=Tryz.f78.body.get rfl) [(2,[8])] Tryz.func78 rfl rfl (args:=[x0,x1]) rfl (by kernel_rfl) h
def NV x0 x1 (Q:PQ) w:=aU x0 fun v1=>bk .u64 v1 fun v3=>ae Tryz.prog 212 #[v3] w fun v4 w5=>ae Tryz.prog 211 #[x0,.int .i64 0,v1,v4,x1] w5 fun v6 w7=>Q (.tuple #[]) w7
theorem DU (h:NV x0 x1 Q w):af Tryz.prog 183 #[x0,x1] w Q :=
 ax (c:=Tryz.f183.body.get rfl) [] Tryz.func183 rfl rfl (args:=[x0,x1]) rfl (by kernel_rfl) h
end
section
def zH x0 (Q:PQ) w:=ae Tryz.prog 228 #[x0] w fun v4 w5=>Q v4 w5
def NW x0 (Q:PQ) w:=kB (.bool false) fun b6=>aA b6 (bk .u32 x0 fun v1=>ae Tryz.prog 227 #[v1] w fun v2 w3=>Q v2 w3) (zH x0 Q w)
theorem DV (h:NW x0 Q w):af Tryz.prog 212 #[x0] w Q :=
 ax (c:=Tryz.f212.body.get rfl) [] Tryz.func212 rfl rfl (args:=[x0]) rfl (by kernel_rfl) h
def su x0 x2 (Q:PQ) w:=bk .u8 x0 fun v9=>cQ Tryz.prog (some .string) (.string ⟨#[0,1,2,2,3,3,3,3,4,4,4,4,4,4,4,4,5,5,5,5,5,5,5,5,5,5,5,5,5,5,5,5,6,6,6,6,6,6,6,6,6,6,6,6,6,6,6,6,6,6,6,6,6,6,6,6,6,6,6,6,6,6,6,6,7,7,7,7,7,7,7,7,7,7,7,7,7,7,7,7,7,7,7,7,7,7,7,7,7,7,7,7,7,7,7,7,7,7,7,7,7,7,7,7,7,7,7,7,7,7,7,7,7,7,7,7,7,7,7,7,7,7,7,7,7,7,7,7,8,8,8,8,8,8,8,8,8,8,8,8,8,8,8,8,8,8,8,8,8,8,8,8,8,8,8,8,8,8,8,8,8,8,8,8,8,8,8,8,8,8,8,8,8,8,8,8,8,8,8,8,8,8,8,8,8,8,8,8,8,8,8,8,8,8,8,8,8,8,8,8,8,8,8,8,8,8,8,8,8,8,8,8,8,8,8,8,8,8,8,8,8,8,8,8,8,8,8,8,8,8,8,8,8,8,8,8,8,8,8,8,8,8,8,8,8,8,8,8,8,8,8,8,8,8,8,8]⟩) v9 fun v10=>bk .i64 v10 fun v11=>kint .i64 .add x2 v11 fun v12=>Q v12 w
def zI x0 x2 (Q:PQ) w:=kint .u64 .geq x0 (.int .u64 256) fun v6=>kB v6 fun b13=>aA b13 (kint .u64 .shr x0 (.int .u64 8) fun v7=>kint .i64 .add x2 (.int .i64 8) fun v8=>su v7 v8 Q w) (su x0 x2 Q w)
def zJ x0 x2 (Q:PQ) w:=kint .u64 .geq x0 (.int .u64 65536) fun v3=>kB v3 fun b14=>aA b14 (kint .u64 .shr x0 (.int .u64 16) fun v4=>kint .i64 .add x2 (.int .i64 16) fun v5=>zI v4 v5 Q w) (zI x0 x2 Q w)
def NX x0 (Q:PQ) w:=kint .u64 .geq x0 (.int .u64 4294967296) fun v1=>kB v1 fun b15=>aA b15 (kint .u64 .shr x0 (.int .u64 32) fun v2=>zJ v2 (.int .i64 32) Q w) (zJ x0 (.int .i64 0) Q w)
theorem DW (h:NX x0 Q w):af Tryz.prog 228 #[x0] w Q :=
 ax (c:=Tryz.f228.body.get rfl) [] Tryz.func228 rfl rfl (args:=[x0]) rfl (by kernel_rfl) h
def Kc x0 x1 x2 x3 x4 x12 x13 (J2:Value→Value→Value→Value→Value→World→Prop) (Q:PQ) w:=ae Tryz.prog 226 #[x0,x1,x2,x13,x4] w fun v40 w41=>aE v40 0 fun v42=>aE v40 1 fun v43=>kint .i64 .sub v42 x1 fun v44=>kint .i64 .sub x2 v42 fun v45=>kint .i64 .quo x12 (.int .i64 8) fun v46=>kint .i64 .lss v44 v45 fun v47=>kB v47 fun b56=>aA b56 (kint .i64 .geq v44 v46 fun v48=>ae Tryz.prog 211 #[x0,x1,v42,x3,x4] w41 fun v49 w50=>kint .i64 .add v42 (.int .i64 1) fun v51=>J2 v51 x2 x3 v48 v43 w50) (kint .i64 .geq v45 v46 fun v52=>kint .i64 .add v42 (.int .i64 1) fun v53=>ae Tryz.prog 211 #[x0,v53,x2,x3,x4] w41 fun v54 w55=>J2 x1 v42 x3 v52 v43 w55)
def zK x0 x1 x2 x3 x4 x10 x11 x12 x13 x97 (J2:Value→Value→Value→Value→Value→World→Prop) (Q:PQ) w:=kB x97 fun b57=>aA b57 (ae Tryz.prog 225 #[x0,x1,x2,x13,x4] w fun v38 w39=>J2 v38 x2 x3 x10 x11 w39) (Kc x0 x1 x2 x3 x4 x12 x13 J2 Q w)
def zL x0 x1 x2 x3 x4 x10 x11 x12 x13 (J2:Value→Value→Value→Value→Value→World→Prop) (Q:PQ) (w:World):=kint .i64 .gtr x1 (.int .i64 0) fun v27=>kB v27 fun b28=>aA b28 (kint .i64 .sub x1 (.int .i64 1) fun v29=>bz (some (.slice 95)) (some 6) x0 v29 fun v30=>aB 6 v30 w.drew fun v31=>kG (w.drew=w.drew)<|bz (some (.slice 95)) (some 6) x0 x13 fun v32=>aB 6 v32 w.drew fun v33=>kG (w.drew=w.drew)<|aI Tryz.prog x4 [v31,v33] w.drew fun v34 w35=>kint .i64 .lss v34 (.int .i64 0) fun v36=>kun .not (some .bool) v36 fun v37=>zK x0 x1 x2 x3 x4 x10 x11 x12 x13 v37 J2 Q w35) (zK x0 x1 x2 x3 x4 x10 x11 x12 x13 (.bool false) J2 Q w.drew)
def sx x0 x1 x2 x3 x4 x10 x11 x12 x13 x75 (J2:Value→Value→Value→Value→Value→World→Prop) (Q:PQ) w:=kB x75 fun b59=>aA b59 (ae Tryz.prog 224 #[x0,x1,x2,x4] w fun v25 w26=>kB v25 fun b58=>aA b58 (Q (.tuple #[]) w26) (zL x0 x1 x2 x3 x4 x10 x11 x12 x13 J2 Q w26)) (zL x0 x1 x2 x3 x4 x10 x11 x12 x13 J2 Q w)
def zM x0 x1 x2 x3 x4 x10 x11 x12 x13 x14 (J2:Value→Value→Value→Value→Value→World→Prop) (Q:PQ) w:=kB x10 fun b22=>aA b22 (kB x11 fun b23=>aA b23 (kint .i64 .eql x14 (.int .i64 1) fun v24=>sx x0 x1 x2 x3 x4 x10 x11 x12 x13 v24 J2 Q w) (sx x0 x1 x2 x3 x4 x10 x11 x12 x13 (.bool false) J2 Q w)) (sx x0 x1 x2 x3 x4 x10 x11 x12 x13 (.bool false) J2 Q w)
def zN x0 x1 x2 x3 x4 x10 x11 x12 (J2:Value→Value→Value→Value→Value→World→Prop) (Q:PQ) w:=ae Tryz.prog 222 #[x0,x1,x2,x4] w fun v12 w13=>aE v12 0 fun v14=>aE v12 1 fun v15=>kint .i64 .eql v15 (.int .i64 2) fun v16=>kB v16 fun b60=>aA b60 (ae Tryz.prog 223 #[x0,x1,x2,x4] w13 fun v17 w18=>kint .i64 .sub x2 (.int .i64 1) fun v19=>kint .i64 .sub v14 x1 fun v20=>kint .i64 .sub v19 v20 fun v21=>zM x0 x1 x2 x3 x4 x10 x11 x12 v21 (.int .i64 1) J2 Q w18) (zM x0 x1 x2 x3 x4 x10 x11 x12 v14 v15 J2 Q w13)
def Kd x0 x1 x2 x3 x4 x10 x11 x12 (J2:Value→Value→Value→Value→Value→World→Prop) (Q:PQ) w:=kun .not (some .bool) x10 fun v8=>kB v8 fun b61=>aA b61 (ae Tryz.prog 221 #[x0,x1,x2,x4] w fun v9 w10=>kint .i64 .sub x3 (.int .i64 1) fun v11=>zN x0 x1 x2 v11 x4 x10 x11 x12 J2 Q w10) (zN x0 x1 x2 x3 x4 x10 x11 x12 J2 Q w)
def Ke x0 x1 x2 x3 x4 x10 x11 x12 (J2:Value→Value→Value→Value→Value→World→Prop) (Q:PQ) w:=kint .i64 .eql x3 (.int .i64 0) fun v5=>kB v5 fun b62=>aA b62 (ae Tryz.prog 220 #[x0,x1,x2,x4] w fun v6 w7=>Q (.tuple #[]) w7) (Kd x0 x1 x2 x3 x4 x10 x11 x12 J2 Q w)
def zO x1 x2 x3 x10 x11 x0 x4 (J2:Value→Value→Value→Value→Value→World→Prop) (Q:PQ) w:=kint .i64 .sub x2 x1 fun v1=>kint .i64 .leq v1 (.int .i64 12) fun v2=>kB v2 fun b63=>aA b63 (ae Tryz.prog 219 #[x0,x1,x2,x4] w fun v3 w4=>Q (.tuple #[]) w4) (Ke x0 x1 x2 x3 x4 x10 x11 v1 J2 Q w)
def NY x0 x1 x2 x3 x4 (Q:PQ) w:=kL fun(I:Value→Value→Value→Value→Value→World→Prop) (μ:Value→Value→Value→Value→Value→World→Nat)=>I x1 x2 x3 (.bool true) (.bool true) w∧∀(x1 x2 x3 x10 x11:Value) (w1:World),I x1 x2 x3 x10 x11 w1→zO x1 x2 x3 x10 x11 x0 x4 (fun y1 y2 y3 y10 y11 w2=>I y1 y2 y3 y10 y11 w2∧μ y1 y2 y3 y10 y11 w2<μ x1 x2 x3 x10 x11 w1) Q w1
theorem DX (h:NY x0 x1 x2 x3 x4 Q w):af Tryz.prog 211 #[x0,x1,x2,x3,x4] w Q :=
 ax (c:=Tryz.f211.body.get rfl) [(2,[1,2,3,10,11])] Tryz.func211 rfl rfl (args:=[x0,x1,x2,x3,x4]) rfl (by kernel_rfl) h
def Kf (x0 x1 x2 x3 x8:Value) x9 (J4:Value→World→Prop) (J1:Value→World→Prop) (Q:PQ) w:=kint .i64 .sub x9 (.int .i64 1) fun v23=>J4 v23 w
def Kg x0 x1 x2 x3 x8 x9 (J4:Value→World→Prop) (J1:Value→World→Prop) (Q:PQ) (w:World):=kint .i64 .sub x9 (.int .i64 1) fun v13=>kint .i64 .sub x9 (.int .i64 1) fun v14=>bz (some (.slice 95)) (some 6) x0 v14 fun v15=>aB 6 v15 w.drew fun v16=>kG (w.drew=w.drew)<|bz (some (.slice 95)) (some 6) x0 x9 fun v17=>aB 6 v17 w.drew fun v18=>kG (w.drew=w.drew)<|bz (some (.slice 95)) (some 6) x0 x9 fun v19=>bj 6 v19 v16 w.drew fun w20=>bz (some (.slice 95)) (some 6) x0 v13 fun v21=>bj 6 v21 v18 w20 fun w22=>Kf x0 x1 x2 x3 x8 x9 J4 J1 Q w22
def Kh (x0 x1 x2 x3:Value) x8 (J1:Value→World→Prop) (Q:PQ) w:=kint .i64 .add x8 (.int .i64 1) fun v24=>J1 v24 w
def zQ x0 x1 x2 x3 x8 x9 x34 (J4:Value→World→Prop) (J1:Value→World→Prop) (Q:PQ) w:=kB x34 fun b25=>aA b25 (Kg x0 x1 x2 x3 x8 x9 J4 J1 Q w) (Kh x0 x1 x2 x3 x8 J1 Q w)
def Ki x9 x0 x1 x2 x3 x8 (J4:Value→World→Prop) (J1:Value→World→Prop) (Q:PQ) (w:World):=kint .i64 .gtr x9 x1 fun v3=>kB v3 fun b4=>aA b4 (bz (some (.slice 95)) (some 6) x0 x9 fun v5=>aB 6 v5 w.drew fun v6=>kG (w.drew=w.drew)<|kint .i64 .sub x9 (.int .i64 1) fun v7=>bz (some (.slice 95)) (some 6) x0 v7 fun v8=>aB 6 v8 w.drew fun v9=>kG (w.drew=w.drew)<|aI Tryz.prog x3 [v6,v9] w.drew fun v10 w11=>kint .i64 .lss v10 (.int .i64 0) fun v12=>zQ x0 x1 x2 x3 x8 x9 v12 J4 J1 Q w11) (zQ x0 x1 x2 x3 x8 x9 (.bool false) J4 J1 Q w.drew)
def Kj x0 x1 x2 x3 x8 (J1:Value→World→Prop) (Q:PQ) w:=kL fun(I:Value→World→Prop) (μ:Value→World→Nat)=>I x8 w∧∀(x9:Value) (w1:World),I x9 w1→Ki x9 x0 x1 x2 x3 x8 (fun y9 w2=>I y9 w2∧μ y9 w2<μ x9 w1) J1 Q w1
def zR x8 x0 x1 x2 x3 (J1:Value→World→Prop) (Q:PQ) w:=kint .i64 .lss x8 x2 fun v2=>kB v2 fun b26=>aA b26 (Kj x0 x1 x2 x3 x8 J1 Q w) (Q (.tuple #[]) w)
def NZ x0 x1 x2 x3 (Q:PQ) w:=kint .i64 .add x1 (.int .i64 1) fun v1=>kL fun(I:Value→World→Prop) (μ:Value→World→Nat)=>I v1 w∧∀(x8:Value) (w1:World),I x8 w1→zR x8 x0 x1 x2 x3 (fun y8 w2=>I y8 w2∧μ y8 w2<μ x8 w1) Q w1
theorem DY (h:NZ x0 x1 x2 x3 Q w):af Tryz.prog 219 #[x0,x1,x2,x3] w Q :=
 ax (c:=Tryz.f219.body.get rfl) [(1,[8]),(4,[9])] Tryz.func219 rfl rfl (args:=[x0,x1,x2,x3]) rfl (by kernel_rfl) h
end
end Go.Proofs.YtcmijampbjcbgaaGreatDoor
namespace Go.Proofs.YtcmijampbjcbgaaGreatDoor
open Go.Shelf
section
def pg:Go.Shelf.Ren:=⟨fun | 6=>183 | 15=>212 | 14=>211 | 28=>227 | 29=>228 | 20=>219 | 21=>220 | 22=>221 | 23=>222 | 24=>223 | 25=>224 | 26=>225 | 27=>226 | 46=>233 | 47=>234 | 48=>235 | 49=>236 | 50=>237 | 57=>242 | n=>n,fun | 22=>90 | 24=>95 | 25=>330 | 3=>3 | 39=>253 | 0=>0 | 53=>91 | 55=>323 | 4=>4 | 46=>359 | 45=>358 | 50=>183 | 5=>5 | 9=>9 | 66=>369 | 70=>373 | 76=>377 | 77=>44 | n=>n,fun | n=>n⟩
theorem zS:Go.Proofs.SlLaysF0.n6 Tryz.prog pg:={
 mixed:=by kernel_rfl
 f6:=⟨Tryz.f183.name,by decide,Tryz.func183.trans (congrArg some (by kernel_rfl))⟩
 f14:=⟨Tryz.f211.name,by decide,Tryz.func211.trans (congrArg some (by kernel_rfl))⟩
 f15:=Tryz.func212.trans (congrArg some (by kernel_rfl))
 f20:=⟨Tryz.f219.name,by decide,Tryz.func219.trans (congrArg some (by kernel_rfl))⟩
 f21:=⟨Tryz.f220.name,by decide,Tryz.func220.trans (congrArg some (by kernel_rfl))⟩
 f22:=⟨Tryz.f221.name,by decide,Tryz.func221.trans (congrArg some (by kernel_rfl))⟩
 f23:=⟨Tryz.f222.name,by decide,Tryz.func222.trans (congrArg some (by kernel_rfl))⟩
 f24:=⟨Tryz.f223.name,by decide,Tryz.func223.trans (congrArg some (by kernel_rfl))⟩
 f25:=⟨Tryz.f224.name,by decide,Tryz.func224.trans (congrArg some (by kernel_rfl))⟩
 f26:=⟨Tryz.f225.name,by decide,Tryz.func225.trans (congrArg some (by kernel_rfl))⟩
 f27:=⟨Tryz.f226.name,by decide,Tryz.func226.trans (congrArg some (by kernel_rfl))⟩
 f28:=Tryz.func227.trans (congrArg some (by kernel_rfl))
 f29:=Tryz.func228.trans (congrArg some (by kernel_rfl))
 f46:=⟨Tryz.f233.name,by decide,Tryz.func233.trans (congrArg some (by kernel_rfl))⟩
 f47:=Tryz.func234.trans (congrArg some (by kernel_rfl))
 f48:=Tryz.func235.trans (congrArg some (by kernel_rfl))
 f49:=⟨Tryz.f236.name,by decide,Tryz.func236.trans (congrArg some (by kernel_rfl))⟩
 f50:=⟨Tryz.f237.name,by decide,Tryz.func237.trans (congrArg some (by kernel_rfl))⟩
 f57:=⟨Tryz.f242.name,by decide,Tryz.func242.trans (congrArg some (by kernel_rfl))⟩
 t0:=Tryz.underlying0
 a0:=Tryz.isAgg0
 z0:=Tryz.sizeOf0
 v0:=Tryz.zeroValue0
 t3:=Tryz.underlying3
 a3:=Tryz.isAgg3
 z3:=Tryz.sizeOf3
 v3:=Tryz.zeroValue3
 t4:=Tryz.underlying4
 a4:=Tryz.isAgg4
 z4:=Tryz.sizeOf4
 v4:=Tryz.zeroValue4
 t5:=Tryz.underlying5
 a5:=Tryz.isAgg5
 z5:=Tryz.sizeOf5
 v5:=Tryz.zeroValue5
 t9:=Tryz.underlying9
 a9:=Tryz.isAgg9
 z9:=Tryz.sizeOf9
 v9:=Tryz.zeroValue9
 t22:=Tryz.underlying90
 a22:=Tryz.isAgg90
 z22:=Tryz.sizeOf90
 v22:=Tryz.zeroValue90
 t25:=Tryz.underlying330
 a25:=Tryz.isAgg330
 z25:=Tryz.sizeOf330
 v25:=Tryz.zeroValue330
 t39:=Tryz.underlying253
 a39:=Tryz.isAgg253
 z39:=Tryz.sizeOf253
 v39:=Tryz.zeroValue253
 t45:=Tryz.underlying358
 a45:=Tryz.isAgg358
 z45:=Tryz.sizeOf358
 v45:=Tryz.zeroValue358
 t46:=Tryz.underlying359
 a46:=Tryz.isAgg359
 z46:=Tryz.sizeOf359
 v46:=Tryz.zeroValue359
 t50:=Tryz.underlying183
 a50:=Tryz.isAgg183
 z50:=Tryz.sizeOf183
 v50:=Tryz.zeroValue183
 t53:=Tryz.underlying91
 a53:=Tryz.isAgg91
 z53:=Tryz.sizeOf91
 v53:=Tryz.zeroValue91
 t55:=Tryz.underlying323
 a55:=Tryz.isAgg323
 z55:=Tryz.sizeOf323
 v55:=Tryz.zeroValue323
 t66:=Tryz.underlying369
 a66:=Tryz.isAgg369
 z66:=Tryz.sizeOf369
 v66:=Tryz.zeroValue369
 t70:=Tryz.underlying373
 a70:=Tryz.isAgg373
 z70:=Tryz.sizeOf373
 v70:=Tryz.zeroValue373
 t76:=Tryz.underlying377
 a76:=Tryz.isAgg377
 z76:=Tryz.sizeOf377
 v76:=Tryz.zeroValue377
 t77:=Tryz.underlying44
 a77:=Tryz.isAgg44
 z77:=Tryz.sizeOf44
 v77:=Tryz.zeroValue44 }
end
end Go.Proofs.YtcmijampbjcbgaaGreatDoor
namespace Go.Ev
open Go Go.RowKit Go.Sort Go.Proofs
section
section
variable {α:Type} [Inhabited α] {enc:α→List Value} {k:Nat}
theorem mh (hk:∀x,(enc x).length=k) (L:List α):(flatK enc k L.toArray).toList=L.flatMap enc:=by
 apply List.ext_getElem?;intro t;rcases Nat.lt_or_ge t (L.length*k)with ht | ht
 ·have k0:0<k:=by
   rcases Nat.eq_zero_or_pos k with h | h
   ·subst h; simp at ht
   ·exact h
  have hi:t/k<L.length:=Nat.div_lt_of_lt_mul (by rw[Nat.mul_comm]; exact ht);have hj:t%k<k:=Nat.mod_lt _ k0;have h1:=get_flatK enc k L.toArray t (by simpa using ht);have h2:=iY hk hi hj;rw[show t/k*k+t%k=t by rw[Nat.mul_comm]; exact Nat.div_add_mod t k]at h2;rw[h2];have hs:t<(flatK enc k L.toArray).size:=by simpa using ht
  rw[getElem!_pos _ t hs]at h1;rw[Array.getElem?_toList,Array.getElem?_eq_getElem hs,h1];have e1:L.toArray[t/k]! = L[t/k]:=by rw[getElem!_pos _ _ (by simpa using hi)]; simp
  rw[e1,getElem!_pos _ _ (by rw[hk]; exact hj),List.getElem?_eq_getElem (by rw[hk]; exact hj)]
 ·rw[List.getElem?_eq_none (by simpa using ht),List.getElem?_eq_none (by rw[flat_len enc k hk]; exact ht)]
theorem ny (F arr:Array Value) (off:Nat) (h:off+F.size≤arr.size):putCells id off F arr=setAll F.toList arr off:=by
 apply Array.ext';rw[dS _ _ _ (by simpa using h)];apply List.ext_getElem?;intro i;have hl:(arr.toList.take off).length=off:=by rw[List.length_take,Array.length_toList]; omega
 unfold putCells;rw[Array.getElem?_toList,Array.getElem?_mapIdx,List.append_assoc];rcases Nat.lt_or_ge i off with h1 | h1
 ·rw[List.getElem?_append_left (by omega),List.getElem?_take_of_lt h1];have hi:i<arr.size:=by omega
  rw[Array.getElem?_eq_getElem hi,Option.map_some,if_neg (by omega)];simp[hi]
 ·rw[List.getElem?_append_right (by omega),hl];rcases Nat.lt_or_ge i (off+F.size)with h2 | h2
  ·rw[List.getElem?_append_left (by rw[Array.length_toList]; omega)];have hi:i<arr.size:=by omega
   rw[Array.getElem?_eq_getElem hi,Option.map_some,if_pos ⟨h1,h2⟩,getElem!_pos F (i-off) (by omega),Array.getElem?_toList,Array.getElem?_eq_getElem (show i-off<F.size by omega)];rfl
  ·rw[List.getElem?_append_right (by rw[Array.length_toList]; omega),List.getElem?_drop,Array.length_toList,show off+F.size+(i-off-F.size)=i by omega];by_cases hi:i<arr.size
   ·rw[Array.getElem?_eq_getElem hi,Option.map_some,if_neg (by omega)];simp[hi]
   ·rw[Array.getElem?_eq_none (by omega),Option.map_none,List.getElem?_eq_none (by rw[Array.length_toList]; omega)]
theorem jX (w:World) (b:Nat) (f:Array Value→Array Value) (i:Nat):aX (mapBlock w b f) i=if i=b then(aX w i).map (fun o=>match o with | .cells c t fr=>.cells (f c) t fr | o=>o) else aX w i:=by
 unfold mapBlock aX;simp only[Array.getElem?_modify];by_cases h:b=i
 ·subst h;simp only[if_true];cases w.heap[b]? with
  | none=>rfl
  | some o=>cases o<;>rfl
 ·rw[if_neg h,if_neg (fun e=>h e.symm)]
theorem vC {t:TypeId} (hb:aX w b=some (.cells arr t)) (d:Array α) (os:Array Obj) (hs:(flatK enc k d).size≤arr.size) :
  aH (fun i=>i=b) w (sortWorldK enc k w b 0 n d os)∧aX (sortWorldK enc k w b 0 n d os) b=some (.cells (setAll (flatK enc k d).toList arr 0) t):=by
 have hlt:=aC hb;have hsz:(mapBlock (Sort.ahead w n) b (putCells id 0 (flatK enc k d))).heap.size=w.heap.size:=by unfold mapBlock Sort.ahead; simp
 have hg:∀i,i<w.heap.size→aX (sortWorldK enc k w b 0 n d os) i=aX (mapBlock (Sort.ahead w n) b (putCells id 0 (flatK enc k d))) i:=by
  intro i hi;unfold sortWorldK putRowK putRow grow aX;rw[Array.getElem?_append_left (by rw[hsz]; exact hi)]
 have ha:∀i,aX (Sort.ahead w n) i=aX w i:=fun _=>rfl;refine⟨⟨rfl,rfl,rfl,?_,fun i hi hne=>?_⟩,?_⟩
 ·unfold sortWorldK putRowK putRow grow;rw[Array.size_append,hsz]; omega
 ·rw[hg i hi,jX,if_neg hne,ha]
 ·rw[hg b hlt,jX,if_pos rfl,ha,hb];show some (Obj.cells (putCells id 0 (flatK enc k d) arr) t (0,0))=_;rw[ny _ _ _ (by omega)]
theorem sy {lt:α→α→Bool} (hc:gC P f=true) (hk:∀x,(enc x).length=k) (hk0:0<k) {w:World} {b n c:Nat} {L:List α} (hO:bV w (.slice (some ⟨b,0,none⟩) n c) k (L.flatMap enc))
  (h:HoldsK enc k w b 0 L.toArray→b<w.heap.size→Calls P f #[.slice (some ⟨b,0,none⟩) L.toArray.size c,cl] w fun e w'=>e=.returned (.tuple #[])∧∃d' m os,PermIn 0 L.toArray.size L.toArray d'∧SortedIn lt 0 L.toArray.size d'∧w'=sortWorldK enc k w b 0 m d' os) :
  af P f #[.slice (some ⟨b,0,none⟩) n c,cl] w fun _ w'=>∃L':List α,L'.Perm L∧L'.Pairwise (fun x y=>lt y x=false)∧bV w' (.slice (some ⟨b,0,none⟩) n c) k (L'.flatMap enc)∧aH (fun i=>i=b) w w':=by
 have hO':=hO;obtain⟨a,n',c',e,h1,h2,h3,h4⟩:=hO';cases e;have hn:n=L.length:=by
  rw[flat_len enc k hk]at h1;exact(Nat.eq_of_mul_eq_mul_right hk0 h1).symm
 subst hn;rcases h4 with⟨h4,_⟩ | ⟨b',arr,t,e,hb,hs,h5⟩
 ·cases h4
 ·cases e;have hle:L.length*k≤arr.size:=by rw[hs]; exact Nat.mul_le_mul_right _ h2
  have hH:HoldsK enc k w b 0 L.toArray:=by
   intro j hj;rw[size_flatK]at hj;have hj:j<L.length*k:=by simpa using hj
   have hfs:j<(flatK enc k L.toArray).size:=by simpa using hj
   refine⟨?_,by simp[World.frozen?,show w.heap[b]?=_ from hb]⟩;have e1:=congrArg (fun l:List Value=>l[j]?) h5;rw[←mh hk L]at e1;simp only[List.getElem?_take_of_lt hj]at e1;rw[cell_mk,hb,dU,Nat.zero_add,getElem!_pos _ j hfs];rw[Array.getElem?_toList,Array.getElem?_toList,Array.getElem?_eq_getElem hfs]at e1;exact e1
  refine⟨hc,((h hH (aC hb)).mono ?_)⟩;rintro e w' ⟨rfl,d',m,os,hp,hsd,rfl⟩;obtain⟨p1,p2,p3⟩:=hp;have hsz:d'.size=L.length:=by simpa using p1
  have hx:d'.extract 0 L.toArray.size=d':=by
   rw[List.size_toArray,←hsz]; exact Array.extract_size
  have hx2:L.toArray.extract 0 L.toArray.size=L.toArray:=Array.extract_size;rw[hx,hx2]at p3;obtain⟨q1,q2⟩:=vC (enc:=enc) (k:=k) (n:=m) hb d' os (by rw[size_flatK,hsz]; exact hle);refine⟨_,rfl,d'.toList,by simpa using p3,?_,?_,q1⟩
  ·rw[List.pairwise_iff_getElem];intro i j hi hj hlt;have hi':i<d'.size:=by simpa using hi
   have hj':j<d'.size:=by simpa using hj
   have:=hsd i j (by omega) hlt (by simp; omega);rw[getElem!_pos d' i hi',getElem!_pos d' j hj']at this;simpa using this
  ·have hd:d'=d'.toList.toArray:=rfl;have hf:=mh hk d'.toList;rw[←hd]at hf;rw[hf]at q2;have:=hO.put (us:=d'.toList.flatMap enc) (j:=0) hb q2 (by rw[flat_len enc k hk,flat_len enc k hk]; simp[hsz]);rw[List.take_zero,List.nil_append,Nat.zero_add,List.drop_of_length_le (by rw[flat_len enc k hk,flat_len enc k hk]; simp[hsz]),List.append_nil]at this;exact this
end
end
end Go.Ev
namespace Go.Proofs.YtcmijampbjcbgaaGreatDoor
open Go Go.Ev Go.Sort
section
attribute [local irreducible] kO kB bG bH kN kG aA ai aw aB bj knew bB aP ay aE bk aD aU bC bD a8 kbool kint kstr keq kun ksl bz cQ kta kmk kmm ksem ksemU bd aI aL ae kL
def mj (x y:Int):Int:=if x<y then -1 else if y<x then 1 else 0
theorem jv (x:Int) (w:World):af Tryz.prog 213 #[.int .i64 x] w fun v w'=>v=.bool false∧w'=w:=by
 refine DS ?_;unfold NT;refine cu ?_;exact⟨by simp,rfl⟩
theorem zT (x y:Int) (w:World):af Tryz.prog 185 #[.int .i64 x,.int .i64 y] w fun v w'=>v=.int .i64 (mj x y)∧w'=w:=by
 refine DR ?_;unfold NS;refine ab (jv x w) ?_;rintro v w2 ⟨rfl,rfl⟩;refine ab (jv y w2) ?_;rintro v w4 ⟨rfl,rfl⟩;refine ac ?_;refine az rfl ?_;refine ac ?_;refine az rfl ?_;refine aM ?_;refine ac ?_;unfold mj;refine am (fun h=>?_) (fun h=>?_)
 ·rw[if_pos h]; exact⟨rfl,rfl⟩
 ·rw[if_neg h];unfold zF;refine bO ?_;refine ac ?_;refine am (fun h=>?_) (fun h=>?_)
  ·rw[if_pos h]; exact⟨rfl,rfl⟩
  ·rw[if_neg h]; exact⟨rfl,rfl⟩
theorem SG (x y:Int):decide (mj x y<0)=decide (x<y):=by
 unfold mj;by_cases h1:x<y
 ·simp[h1]
 ·by_cases h2:y<x<;>simp[h1,h2]
theorem DZ (w:World):af Tryz.prog 228 #[.int .u64 0] w fun v w'=>v=.int .i64 0∧w'=w:=by
 refine DW ?_;unfold NX;refine bI ?_;refine ac ?_;refine az rfl ?_;refine bI ?_;refine ac ?_;refine az rfl ?_;refine bI ?_;refine ac ?_;refine az rfl ?_;unfold su;rw[cD,show IntKind.u8.wrap 0=0 by decide,jp];refine ah (by decide) ?_;refine FJ (a:=0) rfl ?_;rw[cD,show IntKind.i64.wrap ((UInt8.toNat 0:Nat):Int)=0 by decide];refine aY (by omega) (by omega) ?_;exact⟨rfl,rfl⟩
theorem N0 (w:World):af Tryz.prog 212 #[.int .u64 0] w fun v w'=>v=.int .i64 0∧w'=w:=by
 refine DV ?_;unfold NW;refine ac ?_;refine az rfl ?_;unfold zH;refine ab (DZ w) ?_;intro v w' h;exact h
instance:Inhabited Part:=⟨⟨0,0,0,0,0,0⟩⟩
def vD (x:Int×Int):List Value:=[nV x.1,nV x.2]
theorem zU (w:World) (a b:Obj):(w.alloc a).alloc b=grow w #[a,b]:=by
 rw[alloc_eq_grow,alloc_eq_grow,grow_grow]; rfl
theorem vE (x y:Part) (w:World):af Tryz.prog 184 #[.agg (Part.cells x).toArray,.agg (Part.cells y).toArray] w fun v w'=>v=.int .i64 (mj (Part.comp x) (Part.comp y))∧w'=grow w #[.cells (Part.cells x).toArray 95,.cells (Part.cells y).toArray 95]:=by
 refine DM ?_;unfold NO;rw[tI,tI];rw[←zU];have h1:aX ((w.alloc (.cells (Value.agg (Part.cells x).toArray).cells 95)).alloc (.cells (Value.agg (Part.cells y).toArray).cells 95)) w.heap.size=some (.cells (Part.cells x).toArray 95):=by
  rw[iG (by simp),cq]; rfl
 have h2:aX ((w.alloc (.cells (Value.agg (Part.cells x).toArray).cells 95)).alloc (.cells (Value.agg (Part.cells y).toArray).cells 95)) (w.alloc (.cells (Value.agg (Part.cells x).toArray).cells 95)).heap.size=some (.cells (Part.cells y).toArray 95):=by
  rw[cq]; rfl
 refine aa ?_;refine ao (v:=.int .i64 (Part.comp x)) h1 rfl ?_;refine aa ?_;refine ao (v:=.int .i64 (Part.comp y)) h2 rfl ?_;refine ab (zT _ _ _) ?_;rintro v w' ⟨rfl,rfl⟩;exact⟨rfl,rfl⟩
def D0 (x y:Part):Bool:=ltOf (fun x y:Part=>mj (Part.comp x) (Part.comp y)) x y
theorem ph (x y:Part):D0 x y=decide (Part.comp x<Part.comp y):=by
 show decide (mj (Part.comp x) (Part.comp y)<0)=_;exact SG _ _
theorem Qy:SWO (ltOf fun x y:Part=>mj (Part.comp x) (Part.comp y)) where
 irrefl x:=by
  show D0 x x=false;rw[ph]; simp
 trans x y z h1 h2:=by
  change D0 x y=true at h1;change D0 y z=true at h2;show D0 x z=true;rw[ph]at *; simp at *; omega
 ntrans x y z h1 h2:=by
  change D0 x y=false at h1;change D0 y z=false at h2;show D0 x z=false;rw[ph]at *; simp at *; omega
theorem zV (w:World) (cl:Value):af Tryz.prog 219 #[.slice none 0 0,.int .i64 0,.int .i64 0,cl] w fun v w'=>v=.tuple #[]∧w'=w:=by
 refine DY ?_;unfold NZ;refine aY (by omega) (by omega) ?_;refine cA 0 (fun i x wr=>x=.int .i64 1∧wr=w) ⟨c8 ⟨rfl,rfl⟩,fun x wr hx=>?_⟩;obtain⟨i,hi,⟨rfl,rfl⟩,hJ⟩:=bK hx;unfold zR;refine aM ?_;refine ac ?_;refine az rfl ?_;exact⟨rfl,rfl⟩
def D1 (w:World) (x1 x2 x3 x10 x11:Value) (wr:World):Prop:=x1=.int .i64 0∧x2=.int .i64 0∧wr=w
theorem zW (w:World) (cl:Value) (l:Value):af Tryz.prog 211 #[.slice none 0 0,.int .i64 0,.int .i64 0,l,cl] w fun v w'=>v=.tuple #[]∧w'=w:=by
 refine DX ?_;unfold NY;refine tK (D1 w) (fun _ _ _ _ _ _=>0) ⟨⟨rfl,rfl,rfl⟩,?_⟩;rintro x1 x2 x3 x10 x11 wr ⟨rfl,rfl,rfl⟩;unfold zO;refine cM (by omega) (by omega) ?_;refine db ?_;refine ac ?_;refine aN rfl ?_;refine ab (zV wr cl) ?_;rintro v w' ⟨rfl,rfl⟩;exact⟨rfl,rfl⟩
theorem vF (w:World) (cl:Value):af Tryz.prog 183 #[.slice none 0 0,cl] w fun v w'=>v=.tuple #[]∧w'=w:=by
 refine DU ?_;unfold NV;refine aK ?_;rw[cD,show IntKind.u64.wrap ((0:Nat):Int)=0 by decide];refine ab (N0 w) ?_;rintro v w5 ⟨rfl,rfl⟩;refine ab (zW w5 cl _) ?_;rintro v w7 ⟨rfl,rfl⟩;exact⟨rfl,rfl⟩
theorem sA {L:List Part} (hO:bV w v 6 (L.flatMap Part.cells)) (hl:L.length<4611686018427387904) :
  af Tryz.prog 183 #[v,.func (.func 184) #[] #[]] w fun _ w'=>∃L':List Part,L'.Perm L∧L'.Pairwise (fun x y=>Part.comp x≤Part.comp y)∧bV w' v 6 (L'.flatMap Part.cells)∧aH (bf v) w w':=by
 have hO':=hO;obtain⟨a,n,c,rfl,h1,h2,h3,h4⟩:=hO';rcases h4 with⟨rfl,hc0⟩ | ⟨b,arr,t,rfl,hb,hs,h5⟩
 ·obtain rfl:c=0:=hc0;obtain rfl:n=0:=by omega
  have hL:L=[]:=by
   rw[flat_len Part.cells 6 (fun _=>rfl)]at h1;exact List.eq_nil_of_length_eq_zero (by omega)
  subst hL;refine(vF w _).mono ?_;rintro v w' ⟨rfl,rfl⟩;exact⟨[],List.Perm.refl _,List.Pairwise.nil,bV.nil _ _,aH.refl _ _⟩
 ·have eg:∀args w,(callFunc 184 args).run Tryz.prog w=.ok (.enter 184 args) w:=Go.Proofs.enters_of Tryz.func184 (by kernel_rfl) rfl;refine(sy (enc:=Part.cells) (k:=6) (lt:=ltOf fun x y:Part=>mj (Part.comp x) (Part.comp y)) (by kernel_rfl) (fun _=>rfl) (by omega) hO (fun hH hlt=>?_)).mono ?_
  ·have hcmp:CmpLays Tryz.prog 184 #[] Part.cells 6 (fun x y:Part=>mj (Part.comp x) (Part.comp y)) b 0 L.toArray.size w:=by
    intro m os dk hdk x y;refine((vE x y _).2).mono ?_;rintro e w' ⟨v,rfl,rfl,rfl⟩;exact⟨rfl,0,_,rfl⟩
   have:=AnyQ.slices_SortFunc zS 6 Tryz.isAgg95 Tryz.sizeOf95 Part.cells (fun _=>rfl) (fun x v hv=>by
    simp[Part.cells]at hv;rcases hv with rfl | rfl | rfl | rfl | rfl | rfl<;>rfl) (fun x y:Part=>mj (Part.comp x) (Part.comp y)) Qy 184 #[] b 0 c L.toArray w eg hcmp hH hlt (by simpa using hl)
   exact this
  ·rintro v w' ⟨L',g1,g2,g3,g4⟩;refine⟨L',g1,g2.imp (fun {x y} hxy=>?_),g3,g4.mono fun k _ e=>by subst e; exact⟨_,_,_,rfl⟩⟩;change D0 y x=false at hxy;rw[ph]at hxy;simp at hxy;omega
theorem kV {L:List Part} (hO:bV w v 6 (L.flatMap Part.cells)) (hl:L.length<4611686018427387904) :
  af Tryz.prog 144 #[v] w fun _ w'=>∃L':List Part,L'.Perm L∧L'.Pairwise (fun x y=>x.comp≤y.comp)∧bV w' v 6 (L'.flatMap Part.cells)∧aH (bf v) w w':=by
 refine DL ?_;unfold NN;refine ab (sA hO hl) ?_;intro v w' h;exact h
end
end Go.Proofs.YtcmijampbjcbgaaGreatDoor
namespace Go.Proofs.YtcmijampbjcbgaaGreatDoor
open Go Go.Ev
section
attribute [local irreducible] kO kB bG bH kN kG aA ai aw aB bj knew bB aP ay aE bk aD aU bC bD a8 kbool kint kstr keq kun ksl bz cQ kta kmk kmm ksem ksemU bd aI aL ae kL
theorem t7:dM Tryz.prog 104=true:=by kernel_rfl
theorem Kk:eP Tryz.prog 266=some (.pointer none):=by kernel_rfl
structure e8 where
 rows:List (Int×Int)
 col:Nat→List Part
def e8.empty:e8:=⟨[],fun _=>[]⟩
structure SM where
 gens:List (Int×Bool)
 free:List Nat
 cs:List Comp
 masks:List Nat
 tabs:List e8
 spots:List (Nat×Nat)
def zX (cs:List Comp):Prop:=cs.length≤16∧∀c∈cs,1≤c.width∧c.width≤4
def wdF (cs:List Comp) (c:Nat):Nat:=match cs[c]? with
 | some x=>x.width.toNat
 | none=>1
def bq (masks:List Nat) (i:Nat):List Nat:=match masks[i]? with
 | some m=>listF m
 | none=>[]
def spotC (x:Nat×Nat):List Value:=[natV x.1,natV x.2]
def gz (i:Nat) (t:kU):Prop:=t=.table i∨t=.trows i∨t=.tmap i∨∃c,ju i c t
def e9 (o:dd) (w:World) (b i:Nat) (comps:List Nat) (wd:Nat→Nat) (pc:Nat→Nat) (T:e8):Prop :=
 o b=some (.table i)∧∃rv bm,aX w b=some (.cells #[rv,.map (some bm)] 264)∧bV w rv 2 (T.rows.flatMap vD)∧(∀k,bf rv k→o k=some (.trows i))∧o bm=some (.tmap i) ∧
  eA w bm .i64 (comps.map fun(c:Nat)=>((c:Int),ptrV (pc c)))∧∀c∈comps,dF o w (pc c) i c (wd c) (T.col c)
theorem e9.frame {o o':dd} {w w':World} {b i:Nat} {comps:List Nat} {wd pc:Nat→Nat} {T:e8} (h:e9 o w b i comps wd pc T) {fp:Nat→Prop} (hm:aH fp w w') (hf:∀k t,o k=some t→gz i t→¬fp k) (ho:bN w o o'):e9 o' w' b i comps wd pc T:=by
 obtain⟨h1,rv,bm,hb,hr,hrl,hbm,hM,hC⟩:=h;refine⟨by rw[ho b (aC hb)]; exact h1,rv,bm,hm.get hb (hf b _ h1 (.inl rfl)),hr.mod hm fun k hk=>hf k _ (hrl k hk) (.inr (.inl rfl)),fun k hk=>by rw[ho k (hr.vblk_lt hk)]; exact hrl k hk,by rw[ho bm (aC hM)]; exact hbm,hM.mod hm (hf bm _ hbm (.inr (.inr (.inl rfl)))),fun c hc=>(hC c hc).frame hm (fun k t e1 e2=>hf k t e1 (.inr (.inr (.inr ⟨c,e2⟩)))) ho⟩
theorem mn (f:Nat→Value) (c:Nat):∀comps:List Nat,lkI (c:Int) (comps.map fun(c:Nat)=>((c:Int),f c))=if c∈comps then some (comps.idxOf c,f c) else none
 | []=>by simp[lkI]
 | x::r=>by
  simp only[List.map_cons,lkI];by_cases h:c=x
  ·subst h; simp
  ·rw[if_neg (by omega),mn f c r];have hx:(x ==c)=false:=by simpa using fun e=>h e.symm
   by_cases hr:c∈r
   ·simp[hr,h,List.idxOf_cons,hx]
   ·simp[hr,h]
structure dJ where
 bR:Nat
 bA:Nat
 ca:Option Addr
 cc:Nat
 rv:Value
 tv:Value
 sv:Value
 pt:Nat→Nat
 pc:Nat→Nat→Nat
structure bF (o:dd) (w:World) (b:Nat) (p:dJ) (S:SM):Prop where
 lab:o b=some .store
 good:zX S.cs
 tle:S.tabs.length≤S.masks.length
 mle:S.masks.length≤90000
 sle:S.spots.length≤64
 here:aX w b=some (.cells #[ptrV p.bR,.slice p.ca S.cs.length p.cc,p.rv,ptrV p.bA,p.tv,p.sv] 216)
 roll:fh o w p.bR S.gens S.free
 atlas:fz o w p.bA S.cs.length S.masks
 sch:aZ w p.ca S.cs.length 7 (S.cs.flatMap Comp.cells)
 schl:∀k f,p.ca=some ⟨k,f,none⟩→o k=some .sch∧k<w.heap.size
 tabs:bV w p.tv 1 ((List.range S.tabs.length).map fun i=>ptrV (p.pt i))
 tabsl:∀k,bf p.tv k→o k=some .tabs
 spots:bV w p.sv 2 (S.spots.flatMap spotC)
 spotsl:∀k,bf p.sv k→o k=some .spots
 tab:∀i (hi:i<S.tabs.length),e9 o w (p.pt i) i (bq S.masks i) (wdF S.cs) (p.pc i) S.tabs[i]
theorem bF.frame {o o':dd} (h:bF o w b p S) {fp:Nat→Prop} (hm:aH fp w w') (hf:∀k t,o k=some t→¬fp k) (ho:bN w o o'):bF o' w' b p S where
 lab:=by rw[ho b (aC h.here)]; exact h.lab
 good:=h.good
 tle:=h.tle
 mle:=h.mle
 sle:=h.sle
 here:=hm.get h.here (hf b _ h.lab)
 roll:=h.roll.frame hm (fun k t e _=>hf k t e) ho
 atlas:=h.atlas.frame hm (fun k t e _=>hf k t e) ho
 sch:=h.sch.mod hm fun k f e=>hf k _ (h.schl k f e).1
 schl k f e:=⟨by rw[ho k (h.schl k f e).2]; exact(h.schl k f e).1,Nat.lt_of_lt_of_le (h.schl k f e).2 hm.size⟩
 tabs:=h.tabs.mod hm fun k e=>hf k _ (h.tabsl k e)
 tabsl k e:=by rw[ho k (h.tabs.vblk_lt e)]; exact h.tabsl k e
 spots:=h.spots.mod hm fun k e=>hf k _ (h.spotsl k e)
 spotsl k e:=by rw[ho k (h.spots.vblk_lt e)]; exact h.spotsl k e
 tab i hi:=(h.tab i hi).frame hm (fun k t e _=>hf k t e) ho
theorem bF.same (h:bF o w b p S) (hm:Same w w'):bF o w' b p S:=h.frame hm (fun _ _ _ h=>h) (bN.refl _ _)
theorem zY (h:zX cs) {c:Nat} (hc:c<cs.length):(cs[c]).width=(wdF cs c:Int)∧1≤wdF cs c∧wdF cs c≤4:=by
 have hw:=h.2 _ (List.getElem_mem hc);unfold wdF;rw[List.getElem?_eq_getElem hc];simp only;omega
theorem kW (h:bF o w b p S) (idx gen:Int) :
  af Tryz.prog 170 #[ptrV b,entV idx gen] w fun v w'=>v=.bool (ku S.gens idx gen)∧Same w w':=by
 have hb:=h.here;rw[ptrV];refine DQ ?_;unfold NR;refine ar fun w2 hm2 hs2 hb2=>?_;have hb2:aX w2 w.heap.size=some (.cells #[.int .i64 idx,.int .i64 gen] 157):=hb2;rw[eU t7];have hbw:=hm2.get hb (fun h=>h);refine ah rfl ?_;refine ac ?_;refine aN rfl ?_;refine aq ?_;refine aa ?_;refine aj hbw rfl ?_;refine ah rfl ?_;refine au hb2 rfl (by omega) ?_;refine ah rfl ?_;refine ab (qH (h.roll.same hm2.drew) idx gen) ?_;rintro v w' ⟨rfl,h'⟩;exact⟨rfl,hm2.drew.trans h'⟩
theorem zZ {gens:List (Int×Bool)} {i:Nat} {g:Int} (h:gens[i]?=some (g,true)):ku gens i g=true:=by
 unfold ku;rw[co (show(0:Int)≤(i:Int) by omega),Int.toNat_natCast,h];simp
theorem pi (f:Nat→Value) (c:Int):∀comps:List Nat,(∀x∈comps,(x:Int)≠c)→lkI c (comps.map fun(c:Nat)=>((c:Int),f c))=none
 | [],_=>rfl
 | x::r,h=>by
  simp only[List.map_cons,lkI];rw[if_neg (fun e=>h x (by simp) e.symm),pi f c r (fun y hy=>h y (by simp[hy]))];rfl
theorem mo {K:Value→World→Prop} {t:TypeId} (h:dM P t=true) {a:Option Addr} (hk:K (.bool a.isNone) w):keq P .eql t cx cy (.pointer a) (.pointer none) w K:=by
 rw[aJ h]; exact hk
theorem kX (h:cC S k lo x w) (hlo:lo≤w.heap.size):af Tryz.prog 99 #[x] w fun v w'=>cC S k lo v w'∧Same w w':=by
 refine JV ?_;unfold RR;refine ab (gF _ h hlo) ?_;intro v w' h;exact h
theorem jw {o:dd} {w:World} {b:Nat} {p:dJ} {S:SM} (h:bF o w b p S) {i:Nat} {g:Int} (hg:S.gens[i]?=some (g,true)) {n r:Nat} (hs:S.spots[i]?=some (n,r)) :
  af Tryz.prog 121 #[ptrV b,entV i g] w fun v w'=>v=.tuple #[.agg #[natV n,natV r],.nilIface]∧Same w w':=by
 have hi:i<S.spots.length:=(List.getElem?_eq_some_iff.1 hs).1;have hsi:S.spots[i]=(n,r):=(List.getElem?_eq_some_iff.1 hs).2;rw[ptrV];refine tX ?_;unfold JP;refine ar fun w2 hm2 hs2 hb2=>?_;have hb2:aX w2 w.heap.size=some (.cells #[.int .i64 i,.int .i64 g] 157):=hb2;refine ar fun w4 hm4 hs4 hb4=>?_;have hb2':=hm4.get hb2 (fun h=>h);have m4:=hm2.trans hm4;rw[aJ t7];refine ac ?_;refine az rfl ?_;refine au hb2' rfl (by omega) ?_;refine ab (kW (h.same m4) i g) ?_;rintro v w15 ⟨rfl,h15⟩;rw[zZ hg];refine bP ?_;refine ac ?_;refine az rfl ?_;unfold zD;have m15:=(m4.trans h15).drew;have hbe:aX w15.drew w.heap.size=_:=h15.get hb2' (fun h=>h);have hbz:aX w15.drew w2.heap.size=_:=h15.get hb4 (fun h=>h);generalize w15.drew=wa at *;have hba:=m15.get h.here (fun h=>h);obtain⟨bs,cs',arr,t,e,hbs,q1,q2,q3⟩:=(h.spots.same m15).viewF (F:=spotC) (sz:=2) (fun _=>rfl) (by omega) (show 0<S.spots.length by omega);rw[e]at hba;refine aq ?_;refine aa ?_;refine aj hba rfl ?_;refine ah rfl ?_;refine aa ?_;refine aj hbe rfl ?_;refine ah rfl ?_;rw[ce];refine ah (by omega) ?_;rw[add_mk,Nat.zero_add,Int.toNat_natCast];refine au hbs (q3 i hi) (by omega) ?_;refine ah rfl ?_;rw[hsi];refine aQ (vs:=[natV n,natV r]) hbz rfl rfl rfl (by simp) (by simp) fun w29 h29 hs29 hb29=>?_;have hb29:aX w29 w2.heap.size=some (.cells #[natV n,natV r] 237):=hb29;refine au hb29 rfl (by omega) ?_;exact⟨rfl,m15.trans' (h29.mono fun k _ e=>.inr (by omega))⟩
theorem Kl {P:Nat→Prop} (hL:cO P Sa w) (h17:P 17) {b:Nat} {p:dJ} {S:SM} (h:bF o w b p S) {idx gen:Int} (hg:ku S.gens idx gen=false) :
  af Tryz.prog 121 #[ptrV b,entV idx gen] w fun v w'=>∃x,v=.tuple #[.agg #[.int .i64 0,.int .i64 0],x]∧cC Sa 17 w.heap.size x w'∧Same w w':=by
 rw[ptrV];refine tX ?_;unfold JP;refine ar fun w2 hm2 hs2 hb2=>?_;have hb2:aX w2 w.heap.size=some (.cells #[.int .i64 idx,.int .i64 gen] 157):=hb2;refine ar fun w4 hm4 hs4 hb4=>?_;have hb2':=hm4.get hb2 (fun h=>h);have m4:=hm2.trans hm4;rw[aJ t7];refine ac ?_;refine az rfl ?_;refine au hb2' rfl (by omega) ?_;refine ab (kW (h.same m4) idx gen) ?_;rintro v w15 ⟨rfl,h15⟩;have m15:=m4.trans h15;rw[hg];refine bP ?_;refine ac ?_;refine aN rfl ?_;refine aW (cs:=[.int .i64 0,.int .i64 0]) rfl ?_;refine dD (hL.same m15) h17 rfl rfl ?_;refine ab (kX (cC.sent Sa 17 w15.heap.size w15) (Nat.le_refl _)) ?_;rintro v w20 ⟨hx,h20⟩;refine aQ (vs:=[.int .i64 0,.int .i64 0]) (h20.get (h15.get hb4 (fun h=>h)) (fun h=>h)) rfl rfl rfl (by simp) (by simp) fun w21 h21 hs21 hb21=>?_;have hb21:aX w21 w2.heap.size=some (.cells #[.int .i64 0,.int .i64 0] 237):=hb21;have hsz:=h15.size;refine au hb21 rfl (by omega) ?_;exact⟨_,rfl,(hx.mod h21 fun k h1 h2 e=>by omega).mono (by omega),(m15.trans h20).trans' (h21.mono fun k _ e=>.inr (by omega))⟩
theorem ig {o:dd} {w:World} {b:Nat} {p:dJ} {S:SM} (h:bF o w b p S) {i:Nat} {g:Int} (hg:S.gens[i]?=some (g,true)) {n r:Nat} (hs:S.spots[i]?=some (n,r)) (hn:n<S.tabs.length) {c:Nat} (hc:c∈bq S.masks n) :
  af Tryz.prog 207 #[ptrV b,entV i g,.int .i64 c] w fun v w'=>v=.tuple #[ptrV (p.pc n c),natV r,.nilIface]∧dF o w' (p.pc n c) n c (wdF S.cs c) (S.tabs[n].col c)∧Same w w':=by
 rw[ptrV];refine tY ?_;unfold JQ;refine ar fun w2 hm2 hs2 hb2=>?_;have hb2:aX w2 w.heap.size=some (.cells #[.int .i64 i,.int .i64 g] 157):=hb2;refine au hb2 rfl (by omega) ?_;refine ab (jw (h.same hm2) hg hs) ?_;rintro v w5 ⟨rfl,h5⟩;have m5:=hm2.trans h5;refine ak rfl ?_;refine ak rfl ?_;refine ar fun w9 hm9 hs9 hb9=>?_;refine aQ (vs:=[natV n,natV r]) hb9 rfl rfl rfl (by simp) (by simp) fun w10 h10 hs10 hb10=>?_;have hb10:aX w10 w5.heap.size=some (.cells #[natV n,natV r] 237):=hb10;have m10:Same w w10:=(m5.trans hm9).trans' (h10.mono fun k _ e=>.inr (by have:=m5.size; omega));rw[aV bU];refine ac ?_;refine az rfl ?_;unfold ss;have m10:=m10.drew;have hb10:aX w10.drew w5.heap.size=_:=hb10;generalize w10.drew=wa at *;have hS:=h.same m10;have hba:=hS.here;obtain⟨ta,tn,tc,et,hts,htn⟩:=hS.tabs.is;have htn:tn=(List.range S.tabs.length).length:=by simpa using htn rfl
 rw[et]at hba;subst htn;obtain⟨hlab,rv,bm,htb,hr,hrl,hbm,hM,hC⟩:=hS.tab n hn;refine aq ?_;refine aa ?_;refine aj hba rfl ?_;refine ah rfl ?_;refine aa ?_;refine aj hb10 rfl ?_;refine ah rfl ?_;rw[natV];refine cF (F:=fun i=>ptrV (p.pt i)) hts (show n<(List.range S.tabs.length).length by simpa using hn) rfl ?_;rw[List.getElem_range];rw[ptrV];refine ah rfl ?_;refine aq ?_;refine aa ?_;refine aj htb rfl ?_;refine ah rfl ?_;refine lW Tryz.underlying262 Tryz.underlying3 Kk hM (r:=some (_,_)) (by rw[mn,if_pos hc]) ?_;refine ah rfl ?_;refine mo tW (a:=some ⟨p.pc n c,0,none⟩) ?_;refine ac ?_;refine az rfl ?_;unfold zE;have hb10:aX wa.drew w5.heap.size=_:=hb10;refine aa ?_;refine aj hb10 rfl ?_;refine ah rfl ?_;exact⟨rfl,(hC c hc).same (aH.refl _ _).drew,m10.drew⟩
theorem jY {P:Nat→Prop} {Sa:Nat→Addr} {o:dd} {w:World} (hL:cO P Sa w) (h7:P 7) {b:Nat} {p:dJ} {S:SM} (h:bF o w b p S) {i:Nat} {g:Int} (hg:S.gens[i]?=some (g,true)) {n r:Nat} (hs:S.spots[i]?=some (n,r)) (hn:n<S.tabs.length) {c:Int} (hc:∀x∈bq S.masks n,(x:Int)≠c) :
  af Tryz.prog 207 #[ptrV b,entV i g,.int .i64 c] w fun v w'=>∃x,v=.tuple #[.pointer none,.int .i64 0,x]∧cC Sa 7 w.heap.size x w'∧Same w w':=by
 rw[ptrV];refine tY ?_;unfold JQ;refine ar fun w2 hm2 hs2 hb2=>?_;have hb2:aX w2 w.heap.size=some (.cells #[.int .i64 i,.int .i64 g] 157):=hb2;refine au hb2 rfl (by omega) ?_;refine ab (jw (h.same hm2) hg hs) ?_;rintro v w5 ⟨rfl,h5⟩;have m5:=hm2.trans h5;refine ak rfl ?_;refine ak rfl ?_;refine ar fun w9 hm9 hs9 hb9=>?_;refine aQ (vs:=[natV n,natV r]) hb9 rfl rfl rfl (by simp) (by simp) fun w10 h10 hs10 hb10=>?_;have hb10:aX w10 w5.heap.size=some (.cells #[natV n,natV r] 237):=hb10;have m10:Same w w10:=(m5.trans hm9).trans' (h10.mono fun k _ e=>.inr (by have:=m5.size; omega));rw[aV bU];refine ac ?_;refine az rfl ?_;unfold ss;have m10:=m10.drew;have hb10:aX w10.drew w5.heap.size=_:=hb10;generalize w10.drew=wa at *;have hS:=h.same m10;have hba:=hS.here;obtain⟨ta,tn,tc,et,hts,htn⟩:=hS.tabs.is;have htn:tn=(List.range S.tabs.length).length:=by simpa using htn rfl
 rw[et]at hba;subst htn;obtain⟨hlab,rv,bm,htb,hr,hrl,hbm,hM,hC⟩:=hS.tab n hn;refine aq ?_;refine aa ?_;refine aj hba rfl ?_;refine ah rfl ?_;refine aa ?_;refine aj hb10 rfl ?_;refine ah rfl ?_;rw[natV];refine cF (F:=fun i=>ptrV (p.pt i)) hts (show n<(List.range S.tabs.length).length by simpa using hn) rfl ?_;rw[List.getElem_range];rw[ptrV];refine ah rfl ?_;refine aq ?_;refine aa ?_;refine aj htb rfl ?_;refine ah rfl ?_;refine lW Tryz.underlying262 Tryz.underlying3 Kk hM (r:=none) (by rw[pi (fun c=>ptrV (p.pc n c)) c _ hc]) ?_;refine ah rfl ?_;refine mo tW (a:=none) ?_;refine ac ?_;refine aN rfl ?_;refine dD (hL.same m10) h7 rfl rfl ?_;refine ab (kX (cC.sent Sa 7 wa.heap.size wa) (Nat.le_refl _)) ?_;rintro v w26 ⟨hx,h26⟩;exact⟨_,rfl,hx.mono m10.size,m10.trans h26⟩
def ky:Value:=.agg #[.int .i64 0,.int .i64 0,.int .i64 0,.int .i64 0,.int .i64 0,.int .i64 0]
theorem vG {o:dd} {w:World} {b:Nat} {p:dJ} {S:SM} (h:bF o w b p S) {i:Nat} {g:Int} (hg:S.gens[i]?=some (g,true)) {n r:Nat} (hs:S.spots[i]?=some (n,r)) (hn:n<S.tabs.length) {c:Nat} (hc:c∈bq S.masks n) (hr:r<(S.tabs[n].col c).length) :
  af Tryz.prog 204 #[ptrV b,entV i g,.int .i64 c] w fun v w'=>v=.tuple #[.agg ((S.tabs[n].col c)[r]).cells.toArray,.nilIface]∧Same w w':=by
 refine tZ ?_;unfold JT;refine ar fun w2 hm2 hs2 hb2=>?_;have hb2:aX w2 w.heap.size=some (.cells #[.int .i64 i,.int .i64 g] 157):=hb2;refine ar fun w4 hm4 hs4 hb4=>?_;have m4:=hm2.trans hm4;have hb2':=hm4.get hb2 (fun h=>h);refine au hb2' rfl (by omega) ?_;refine ab (ig (h.same m4) hg hs hn hc) ?_;rintro v w7 ⟨rfl,hC,h7⟩;have m7:=m4.trans h7;refine ak rfl ?_;refine ak rfl ?_;refine ak rfl ?_;rw[aV bU];refine ac ?_;refine az rfl ?_;refine ab (n7 hC hr) ?_;rintro v w17 ⟨rfl,h17⟩;refine ak rfl ?_;refine ak rfl ?_;have hb17:=h17.get (h7.get hb4 (fun h=>h)) (fun h=>h);refine aQ (vs:=((S.tabs[n].col c)[r]).cells) hb17 rfl rfl rfl (by simp) (by simp[Part.cells]) fun w20 h20 hs20 hb20=>?_;have hb20:aX w20 w2.heap.size=some (.cells ((S.tabs[n].col c)[r]).cells.toArray 95):=hb20;refine au hb20 rfl (by omega) ?_;exact⟨rfl,(m7.trans h17).trans' (h20.mono fun k _ e=>.inr (by omega))⟩
theorem z6
  (h:∀w2,Same w w2→af Tryz.prog 207 #[ptrV b,entV idx gen,.int .i64 c] w2 fun v w'=>∃x,v=.tuple #[.pointer none,.int .i64 0,x]∧cC Sa k w2.heap.size x w'∧Same w2 w') :
  af Tryz.prog 204 #[ptrV b,entV idx gen,.int .i64 c] w fun v w'=>∃x,v=.tuple #[ky,x]∧cC Sa k w.heap.size x w'∧Same w w':=by
 refine tZ ?_;unfold JT;refine ar fun w2 hm2 hs2 hb2=>?_;have hb2:aX w2 w.heap.size=some (.cells #[.int .i64 idx,.int .i64 gen] 157):=hb2;refine ar fun w4 hm4 hs4 hb4=>?_;have m4:=hm2.trans hm4;have hb2':=hm4.get hb2 (fun h=>h);refine au hb2' rfl (by omega) ?_;refine ab (h w4 m4) ?_;rintro v w7 ⟨x,rfl,hx,h7⟩;have m7:=m4.trans h7;have hb7:=h7.get hb4 (fun h=>h);obtain⟨t,y,rfl⟩:=hx.if;refine ak rfl ?_;refine ak rfl ?_;refine ak rfl ?_;rw[dB bU];refine ac ?_;refine aN rfl ?_;refine aW (cs:=[.int .i64 0,.int .i64 0,.int .i64 0,.int .i64 0,.int .i64 0,.int .i64 0]) rfl ?_;refine aQ (vs:=[.int .i64 0,.int .i64 0,.int .i64 0,.int .i64 0,.int .i64 0,.int .i64 0]) hb7 rfl rfl rfl (by simp) (by simp) fun w20 h20 hs20 hb20=>?_;have hb20:aX w20 w2.heap.size=some (.cells #[.int .i64 0,.int .i64 0,.int .i64 0,.int .i64 0,.int .i64 0,.int .i64 0] 95):=hb20;refine au hb20 rfl (by omega) ?_;exact⟨_,rfl,(hx.mod h20 fun k h1 h2 e=>by omega).mono (by omega),m7.trans' (h20.mono fun k _ e=>.inr (by omega))⟩
theorem mq (h1:gz i t) (h2:gz j t):i=j:=by
 rcases h1 with rfl | rfl | rfl | ⟨c,rfl | rfl | rfl⟩<;>rcases h2 with h | h | h | ⟨d,h | h | h⟩<;>cases h<;>rfl
theorem bF.setTab (h:bF o w b p S) {n:Nat} (hn:n<S.tabs.length) {T':e8} (hl:bN w o o') (hm:aH (FP o (gz n)) w w')
  (hT:e9 o' w' (p.pt n) n (bq S.masks n) (wdF S.cs) (p.pc n) T'):bF o' w' b p { S with tabs:=S.tabs.set n T' } where
 lab:=by rw[hl b (aC h.here)]; exact h.lab
 good:=h.good
 tle:=by simpa using h.tle
 mle:=h.mle
 sle:=h.sle
 here:=hm.get h.here fun⟨t,e1,e2⟩=>by
  rw[h.lab]at e1; cases e1;rcases e2 with h | h | h | ⟨c,h | h | h⟩<;>cases h
 roll:=h.roll.frame hm (fun k t e et ⟨t',e1,e2⟩=>by
  rw[e]at e1; cases e1;rcases et with rfl | rfl | rfl<;>(rcases e2 with h | h | h | ⟨c,h | h | h⟩<;>cases h)) hl
 atlas:=h.atlas.frame hm (fun k t e et ⟨t',e1,e2⟩=>by
  rw[e]at e1; cases e1;rcases et with rfl | rfl | rfl | ⟨i,rfl⟩<;>(rcases e2 with h | h | h | ⟨c,h | h | h⟩<;>cases h)) hl
 sch:=h.sch.mod hm fun k f e ⟨t',e1,e2⟩=>by
  rw[(h.schl k f e).1]at e1; cases e1;rcases e2 with h | h | h | ⟨c,h | h | h⟩<;>cases h
 schl k f e:=⟨by rw[hl k (h.schl k f e).2]; exact(h.schl k f e).1,Nat.lt_of_lt_of_le (h.schl k f e).2 hm.size⟩
 tabs:=by
  have:=h.tabs.mod hm fun k e ⟨t',e1,e2⟩=>by
   rw[h.tabsl k e]at e1; cases e1;rcases e2 with h | h | h | ⟨c,h | h | h⟩<;>cases h
  simpa using this
 tabsl k e:=by rw[hl k (h.tabs.vblk_lt e)]; exact h.tabsl k e
 spots:=h.spots.mod hm fun k e ⟨t',e1,e2⟩=>by
  rw[h.spotsl k e]at e1; cases e1;rcases e2 with h | h | h | ⟨c,h | h | h⟩<;>cases h
 spotsl k e:=by rw[hl k (h.spots.vblk_lt e)]; exact h.spotsl k e
 tab i hi:=by
  simp only[List.length_set]at hi;simp only[List.getElem_set];by_cases hin:n=i
  ·subst hin;simp only[if_true];exact hT
  ·simp only[hin,if_false];exact(h.tab i hi).frame hm (fun k t e et ⟨t',e1,e2⟩=>by
    rw[e]at e1; cases e1;exact hin (mq e2 et)) hl
theorem bF.setTS (h:bF o w b p S) {n:Nat} (hn:n<S.tabs.length) {T':e8} (hl:bN w o o') (hm:aH (FP o fun t=>gz n t∨t=.spots) w w') {sp':List (Nat×Nat)} (hsp:bV w' p.sv 2 (sp'.flatMap spotC)) (hspl:sp'.length=S.spots.length)
  (hT:e9 o' w' (p.pt n) n (bq S.masks n) (wdF S.cs) (p.pc n) T'):bF o' w' b p { S with tabs:=S.tabs.set n T',spots:=sp' } where
 lab:=by rw[hl b (aC h.here)]; exact h.lab
 good:=h.good
 tle:=by simpa using h.tle
 mle:=h.mle
 sle:=by rw[hspl]; exact h.sle
 here:=hm.get h.here fun⟨t,e1,e2⟩=>by
  rw[h.lab]at e1; cases e1;rcases e2 with(h | h | h | ⟨c,h | h | h⟩) | h<;>cases h
 roll:=h.roll.frame hm (fun k t e et ⟨t',e1,e2⟩=>by
  rw[e]at e1; cases e1;rcases et with rfl | rfl | rfl<;>(rcases e2 with(h | h | h | ⟨c,h | h | h⟩) | h<;>cases h)) hl
 atlas:=h.atlas.frame hm (fun k t e et ⟨t',e1,e2⟩=>by
  rw[e]at e1; cases e1;rcases et with rfl | rfl | rfl | ⟨i,rfl⟩<;>(rcases e2 with(h | h | h | ⟨c,h | h | h⟩) | h<;>cases h)) hl
 sch:=h.sch.mod hm fun k f e ⟨t',e1,e2⟩=>by
  rw[(h.schl k f e).1]at e1; cases e1;rcases e2 with(h | h | h | ⟨c,h | h | h⟩) | h<;>cases h
 schl k f e:=⟨by rw[hl k (h.schl k f e).2]; exact(h.schl k f e).1,Nat.lt_of_lt_of_le (h.schl k f e).2 hm.size⟩
 tabs:=by
  have:=h.tabs.mod hm fun k e ⟨t',e1,e2⟩=>by
   rw[h.tabsl k e]at e1; cases e1;rcases e2 with(h | h | h | ⟨c,h | h | h⟩) | h<;>cases h
  simpa using this
 tabsl k e:=by rw[hl k (h.tabs.vblk_lt e)]; exact h.tabsl k e
 spots:=hsp
 spotsl k e:=by rw[hl k (h.spots.vblk_lt e)]; exact h.spotsl k e
 tab i hi:=by
  simp only[List.length_set]at hi;simp only[List.getElem_set];by_cases hin:n=i
  ·subst hin;simp only[if_true];exact hT
  ·simp only[hin,if_false];exact(h.tab i hi).frame hm (fun k t e et ⟨t',e1,e2⟩=>by
    rw[e]at e1; cases e1;rcases e2 with e2 | e2
    ·exact hin (mq e2 et)
    ·subst e2;rcases et with h | h | h | ⟨c,h | h | h⟩<;>cases h) hl
def lm (f:Nat→List Part) (c:Nat) (l:List Part) (d:Nat):List Part:=if d=c then l else f d
theorem gJ (f:Nat→List Part) (c:Nat) (l:List Part):lm f c l c=l:=if_pos rfl
theorem jZ (f:Nat→List Part) {c:Nat} {l:List Part} {d:Nat} (h:d≠c):lm f c l d=f d:=if_neg h
theorem sB (h1:ju i c t) (h2:ju i d t):c=d:=by
 rcases h1 with rfl | rfl | rfl<;>rcases h2 with h | h | h<;>cases h<;>rfl
theorem e9.setCol {o o':dd} {w w':World} {b i:Nat} {comps:List Nat} {wd pc:Nat→Nat} {T:e8} (h:e9 o w b i comps wd pc T) {c:Nat} (hc:c∈comps) {l:List Part} (hl:bN w o o') {Tg:kU→Prop} (hTg:∀t,Tg t→ju i c t) (hm:aH (FP o Tg) w w')
  (hC:dF o' w' (pc c) i c (wd c) l):e9 o' w' b i comps wd pc ⟨T.rows,lm T.col c l⟩:=by
 obtain⟨h1,rv,bm,hb,hr,hrl,hbm,hM,hCs⟩:=h;refine⟨by rw[hl b (aC hb)]; exact h1,rv,bm,hm.get hb fun⟨t,e1,e2⟩=>?_,hr.mod hm fun k hk ⟨t,e1,e2⟩=>?_,fun k hk=>by rw[hl k (hr.vblk_lt hk)]; exact hrl k hk,by rw[hl bm (aC hM)]; exact hbm,hM.mod hm fun⟨t,e1,e2⟩=>?_,fun d hd=>?_⟩
 ·rw[h1]at e1; cases e1;rcases hTg _ e2 with h | h | h<;>cases h
 ·rw[hrl k hk]at e1; cases e1;rcases hTg _ e2 with h | h | h<;>cases h
 ·rw[hbm]at e1; cases e1;rcases hTg _ e2 with h | h | h<;>cases h
 ·show dF o' w' (pc d) i d (wd d) (lm T.col c l d);by_cases hdc:d=c
  ·subst hdc;rw[gJ]; exact hC
  ·rw[jZ _ hdc];exact(hCs d hd).frame hm (fun k t e et ⟨t',e1,e2⟩=>by
    rw[e]at e1; cases e1;exact hdc (sB et (hTg _ e2))) hl
def dm (o:dd) (n k:Nat):Option kU:=if k<n then o k else none
theorem bN.cut (w:World) (o:dd):bN w o (dm o w.heap.size):=fun k hk=>if_pos hk
theorem FP.cut {o:dd} {n:Nat} {T:kU→Prop} {k:Nat} (h:FP (dm o n) T k):FP o T k∧k<n:=by
 obtain⟨t,e1,e2⟩:=h;unfold dm at e1;split at e1
 ·exact⟨⟨t,e1,e2⟩,by assumption⟩
 ·cases e1
theorem bF.cut (h:bF o w b p S) (hm:Same w w'):bF (dm o w.heap.size) w' b p S:=h.frame hm (fun _ _ _ h=>h) (bN.cut w o)
theorem eM (h:n≤k):dm o n k=none:=if_neg (by omega)
def c7 (o:dd) (w:World) (b:Nat) (S':SM) (w':World):Prop:=∃o' p',bN w o o'∧bF o' w' b p' S'∧aH (FP o fun _=>True) w w'∧∀k,w'.heap.size≤k→o' k=none
theorem c7.wrap (m:Same w w4) (t:c7 (dm o w.heap.size) w4 b S' w5) (hz:aH (fun k=>w.heap.size≤k∧k<w4.heap.size) w5 w6):c7 o w b S' w6:=by
 obtain⟨o',p',hl,hP,hm,hc⟩:=t;have ml:=m.size;have hl':bN w o (dm o' w6.heap.size):=fun k hk=>by
  have:=hm.size;have:=hz.size;have e:=hl k (by omega);unfold dm at *;rw[if_pos (by omega),e,if_pos hk]
 refine⟨dm o' w6.heap.size,p',hl',hP.frame hz (fun k t e ⟨e1,e2⟩=>?_) (fun k hk=>?_),((aH.of_same m).trans (hm.mono fun k _ hk=>hk.cut.1)).trans' (hz.mono fun k _ hk=>.inr hk.1),fun k hk=>eM hk⟩
 ·rw[hl k e2]at e;rw[eM e1]at e; cases e
 ·have:=hz.size;unfold dm;rw[if_pos (by omega)]
theorem c7.of {o o':dd} {w w4 w' w'':World} {b:Nat} {S':SM} {p':dJ} {T:kU→Prop} (m4:Same w w4) (hl:bN w4 (dm o w.heap.size) o') (hP:bF o' w' b p' S') (hm:aH (FP (dm o w.heap.size) T) w4 w') (hz:aH (fun k=>w.heap.size≤k∧k<w4.heap.size) w' w''):c7 o w b S' w'':=by
 refine c7.wrap m4 ⟨dm o' w'.heap.size,p',fun k hk=>?_,hP.frame (aH.refl (fun _=>False) _) (fun _ _ _ h=>h) (bN.cut w' o'),hm.mono fun k _ hk=>FP.mono (fun _ _=>trivial) hk,fun k hk=>eM hk⟩ hz;have:=hm.size;unfold dm at *;rw[if_pos (by omega),hl k hk]
theorem c7.seq (hl:bN w o o1) (hm:aH (FP o fun _=>True) w w1) (m:Same w1 w2) (t:c7 o1 w2 b S' w3):c7 o w b S' w3:=by
 obtain⟨o',p',hl',hP,hm',hc⟩:=t;have hm2:=hm.trans (aH.of_same m);exact⟨o',p',hl.trans hl' hm2.size,hP,aH.labs hm2 hl hm',hc⟩
theorem vH {o:dd} {w:World} {b:Nat} {p:dJ} {S:SM} (h:bF o w b p S) {i:Nat} {g:Int} (hg:S.gens[i]?=some (g,true)) {n r:Nat} (hs:S.spots[i]?=some (n,r)) (hn:n<S.tabs.length) {c:Nat} (hc:c∈bq S.masks n) (hr:r<(S.tabs[n].col c).length) {cell:Nat} (hcell:cell<wdF S.cs c) (value frame:Int) :
  af Tryz.prog 176 #[ptrV b,entV i g,.int .i64 c,.int .i64 cell,.int .i64 value,.int .i64 frame] w fun v w'=>v=.tuple #[.agg ((S.tabs[n].col c)[r]).cells.toArray,.nilIface] ∧
   c7 o w b { S with tabs:=S.tabs.set n ⟨S.tabs[n].rows,lm S.tabs[n].col c ((S.tabs[n].col c).set r (((S.tabs[n].col c)[r]).setCell cell value frame))⟩ } w':=by
 refine pf ?_;unfold DP;refine ar fun w2 hm2 hs2 hb2=>?_;have hb2:aX w2 w.heap.size=some (.cells #[.int .i64 i,.int .i64 g] 157):=hb2;refine ar fun w4 hm4 hs4 hb4=>?_;have m4:=hm2.trans hm4;have hb2':=hm4.get hb2 (fun h=>h);have hS4:=h.cut m4;refine au hb2' rfl (by omega) ?_;refine ab (ig hS4 hg hs hn hc) ?_;rintro v w7 ⟨rfl,hC,h7⟩;have m7:=m4.trans h7;have hS7:=hS4.same h7;refine ak rfl ?_;refine ak rfl ?_;refine ak rfl ?_;rw[aV bU];refine ac ?_;refine az rfl ?_;refine ab (vq hC hr hcell value frame) ?_;rintro v w17 ⟨rfl,hC17,h17⟩;refine ak rfl ?_;refine ak rfl ?_;have hb17:aX w17 w2.heap.size=_:=h17.get (h7.get hb4 (fun h=>h)) (fun e=>by have:=e.cut.2; omega);refine aQ (vs:=((S.tabs[n].col c)[r]).cells) hb17 rfl rfl rfl (by simp) (by simp[Part.cells]) fun w20 h20 hs20 hb20=>?_;have hb20:aX w20 w2.heap.size=some (.cells ((S.tabs[n].col c)[r]).cells.toArray 95):=hb20;refine au hb20 rfl (by omega) ?_;have hT:=(hS7.tab n hn).setCol hc (bN.refl w7 _) (fun t ht=>ht.elim (fun h=>.inr (.inl h)) (fun h=>.inr (.inr h))) h17 hC17;have hP:=hS7.setTab hn (bN.refl w7 _) (h17.mono fun k _ hk=>FP.mono (fun t ht=>.inr (.inr (.inr ⟨c,ht.elim (fun h=>.inr (.inl h)) (fun h=>.inr (.inr h))⟩))) hk) hT;exact⟨rfl,c7.of m7 (bN.refl w7 _) hP h17 (h20.mono fun k _ e=>by subst e; exact⟨by omega,by have:=h7.size; omega⟩)⟩
end
section
theorem fQ:c∈listF m↔c<32∧m.testBit c=true:=by simp[listF]
theorem qM (hm:m<2^n) (hc:c∈listF m):c<n:=by
 have h:=(fQ.1 hc).2;by_cases h1:c<n
 ·exact h1
 ·have:m<2^c:=Nat.lt_of_lt_of_le hm (Nat.pow_le_pow_right (by omega) (by omega));rw[Nat.testBit_lt_two_pow this]at h; cases h
theorem iQ (m:Nat):(listF m).Nodup:=List.Pairwise.filter _ List.nodup_range
theorem N1:appT Tryz.prog 214 1 8=true:=by kernel_rfl
theorem z7:∃e,Tryz.prog.underlying 214=some (.slice e):=dI (by kernel_rfl)
def mu (o:dd) (n bm bt i k:Nat):Option kU:=if k<n then o k else if k=bm then some (.tmap i) else if k=bt then some (.table i) else none
def t8 (o:dd) (w:World) (bt bm i:Nat) (l:List Nat) (wd pc:Nat→Nat):Prop :=
 o bt=some (.table i)∧aX w bt=some (.cells #[.slice none 0 0,.map (some bm)] 264)∧o bm=some (.tmap i)∧eA w bm .i64 (l.map fun(c:Nat)=>((c:Int),ptrV (pc c)))∧∀c∈l,dF o w (pc c) i c (wd c) []
theorem t8.done (h:t8 o w bt bm i l wd pc):e9 o w bt i l wd pc e8.empty:=by
 obtain⟨h1,h2,h3,h4,h5⟩:=h;exact⟨h1,_,bm,h2,bV.nil _ _,(fun k hk=>by obtain⟨_,_,_,e⟩:=hk; cases e),h3,h4,h5⟩
theorem GF (h:bF o w b p S):∀m∈S.masks,m<2^S.cs.length:=by
 obtain⟨pn,nodes,hN,e,hnd,hE,hlt⟩:=h.atlas;exact hlt
def layS (S:SM) (j:Nat):SM:={ S with tabs:=S.tabs++List.replicate j e8.empty }
theorem bF.addTab {o o':dd} (h:bF o w b p S) {tv':Value} {bt:Nat} {pc':Nat→Nat} (hlt:S.tabs.length<S.masks.length) (hl:bN w o o') (hm:aH (fun k=>k=b∨bf p.tv k) w w')
  (hb:aX w' b=some (.cells #[ptrV p.bR,.slice p.ca S.cs.length p.cc,p.rv,ptrV p.bA,tv',p.sv] 216))
  (ht:bV w' tv' 1 (((List.range S.tabs.length).map fun i=>ptrV (p.pt i))++[ptrV bt])) (htl:∀k,bf tv' k→o' k=some .tabs)
  (hT:e9 o' w' bt S.tabs.length (bq S.masks S.tabs.length) (wdF S.cs) pc' e8.empty) :
  bF o' w' b { p with tv:=tv',pt:=qI p.pt S.tabs.length bt,pc:=fun i=>if i=S.tabs.length then pc' else p.pc i } (layS S 1):=by
 have hlabT:∀k t,o k=some t→t≠.store→t≠.tabs→¬(k=b∨bf p.tv k):=by
  rintro k t e n1 n2 (rfl | e2)
  ·rw[h.lab]at e; cases e; exact n1 rfl
  ·rw[h.tabsl k e2]at e; cases e; exact n2 rfl
 exact {
  lab:=by rw[hl b (aC h.here)]; exact h.lab
  good:=h.good
  tle:=by simp[layS]; omega
  mle:=h.mle
  sle:=h.sle
  here:=hb
  roll:=h.roll.frame hm (fun k t e et=>hlabT k t e (by rintro rfl; rcases et with h | h | h<;>cases h) (by rintro rfl; rcases et with h | h | h<;>cases h)) hl
  atlas:=h.atlas.frame hm (fun k t e et=>hlabT k t e (by rintro rfl; rcases et with h | h | h | ⟨i,h⟩<;>cases h) (by rintro rfl; rcases et with h | h | h | ⟨i,h⟩<;>cases h)) hl
  sch:=h.sch.mod hm fun k f e=>hlabT k _ (h.schl k f e).1 (fun h=>by cases h) (fun h=>by cases h)
  schl:=fun k f e=>⟨by rw[hl k (h.schl k f e).2]; exact(h.schl k f e).1,Nat.lt_of_lt_of_le (h.schl k f e).2 hm.size⟩
  tabs:=by
   have e:(List.range (layS S 1).tabs.length).map (fun i=>ptrV (qI p.pt S.tabs.length bt i))=((List.range S.tabs.length).map fun i=>ptrV (p.pt i))++[ptrV bt]:=by
    show(List.range (S.tabs++List.replicate 1 e8.empty).length).map _=_;rw[List.length_append,List.length_replicate,List.range_succ,List.map_append,List.map_cons,List.map_nil,updN_same];congr 1;apply List.map_congr_left;intro i hi;rw[updN_ne _ (by simp at hi; omega)]
   exact e▸ht
  tabsl:=htl
  spots:=h.spots.mod hm fun k e=>hlabT k _ (h.spotsl k e) (fun h=>by cases h) (fun h=>by cases h)
  spotsl:=fun k e=>by rw[hl k (h.spots.vblk_lt e)]; exact h.spotsl k e
  tab:=fun i hi=>by
   have hi':i<S.tabs.length+1:=by simpa [layS] using hi
   by_cases hin:i=S.tabs.length
   ·subst hin;have e:(layS S 1).tabs[S.tabs.length]'hi=e8.empty:=by simp[layS]
    simp only[e,if_true,updN_same];exact hT
   ·have hi2:i<S.tabs.length:=by omega
    have e:(layS S 1).tabs[i]'hi=S.tabs[i]:=by simp[layS,List.getElem_append_left hi2]
    simp only[e,hin,if_false,updN_ne _ hin];exact(h.tab i hi2).frame hm (fun k t e et=>hlabT k t e (by rintro rfl; rcases et with h | h | h | ⟨c,h | h | h⟩<;>cases h) (by rintro rfl; rcases et with h | h | h | ⟨c,h | h | h⟩<;>cases h)) hl }
end
section
attribute [local irreducible] kO kB bG bH kN kG aA ai aw aB bj knew bB aP ay aE bk aD aU bC bD a8 kbool kint kstr keq kun ksl bz cQ kta kmk kmm ksem ksemU bd aI aL ae kL
theorem Km (S:SM):layS S 0=S:=by simp[layS]
theorem Kn (S:SM) (j:Nat):layS (layS S j) 1=layS S (j+1):=by
 unfold layS;simp only[List.append_assoc];have e:List.replicate j e8.empty++List.replicate 1 e8.empty=List.replicate (j+1) e8.empty:=by
  rw[List.replicate_succ' (n:=j)]; rfl
 rw[e]
theorem n9 {o:dd} (hD:fM w) {b:Nat} {p:dJ} {S:SM} (h:bF o w b p S) (hDo:o 19=none) :
  af Tryz.prog 102 #[ptrV b] w fun v w'=>v=.nilIface∧c7 o w b (layS S (S.masks.length-S.tabs.length)) w':=by
 have hDlt:=hD.lt;rw[ptrV];refine DI ?_;unfold NK;have hb0:=h.here;obtain⟨ta0,tn0,tc0,et0,hts0,htn0⟩:=h.tabs.is;have htn0:tn0=S.tabs.length:=by simpa using htn0 rfl
 rw[et0]at hb0;subst htn0;refine aq ?_;refine aa ?_;refine aj hb0 rfl ?_;refine aK ?_;refine cA (S.masks.length-S.tabs.length) (fun j x wr=>x=natV (S.tabs.length+j)∧j≤S.masks.length-S.tabs.length∧c7 o w b (layS S j) wr) ⟨c8 ⟨rfl,by omega,dm o w.heap.size,p,bN.cut w o,?_,aH.refl _ _,fun k hk=>eM hk⟩,fun x wr hx=>?_⟩
 ·rw[Km]; exact h.cut (aH.refl _ _)
 obtain⟨j,hj,⟨rfl,_,o1,p1,hl1,hP1,hm1,hc1⟩,hJ⟩:=bK hx;have hDr:fM wr:=hD.mod hm1 fun⟨t,e1,_⟩=>by rw[hDo]at e1; cases e1
 have hbr:=hP1.here;have hcs:(layS S j).cs=S.cs:=rfl;have hms:(layS S j).masks=S.masks:=rfl;have htl:(layS S j).tabs.length=S.tabs.length+j:=by simp[layS]
 unfold zn;refine aq ?_;refine aa ?_;refine aj hbr rfl ?_;refine ab (sq hP1.atlas) ?_;rintro v w8 ⟨rfl,rfl⟩;rw[natV,natV];refine aM ?_;refine ac ?_;refine am (fun hlt=>?_) (fun hge=>?_)
 ·have hlt:S.tabs.length+j<S.masks.length:=by rw[hms]at hlt; omega
  have hi:S.tabs.length+j<(layS S j).masks.length:=hlt;unfold zm;refine aq ?_;refine aa ?_;refine aj hbr rfl ?_;refine ab (qJ hP1.atlas (S.tabs.length+j) hi) ?_;rintro v w13 ⟨rfl,rfl⟩;refine ak rfl ?_;refine ak rfl ?_;rw[aV bU];refine ac ?_;refine az rfl ?_;have hmlt:=GF hP1 _ (List.getElem_mem hi);have hmi:(layS S j).masks[S.tabs.length+j]=S.masks[S.tabs.length+j]:=rfl;have hcomps:bq S.masks (S.tabs.length+j)=listF (S.masks[S.tabs.length+j]):=by
   unfold bq; rw[List.getElem?_eq_getElem hlt]; rfl
  rw[hmi]at hmlt;rw[hmi];rw[hcs]at hmlt;generalize hm:S.masks[S.tabs.length+j]=m at *;have hg16:=hP1.good.1;rw[hcs]at hg16;have hm32:m<4294967296:=by
   have:2^S.cs.length≤2^16:=Nat.pow_le_pow_right (by omega) hg16;omega
  unfold zl;refine jS fun w19 h19 hs19 hm19=>?_;refine aW (cs:=[.slice none 0 0,.map (some w13.heap.size)]) rfl ?_;refine ar fun w22 h22 hs22 hb22=>?_;have hb22:aX w22 w19.heap.size=some (.cells #[.slice none 0 0,.map (some w13.heap.size)] 264):=hb22;have m22:=h19.trans h22;refine ab (vo (hDr.same m22) m hm32) ?_;rintro v w24 ⟨la,lc,rfl,hls,h24,hlf⟩;have m24:=m22.trans h24;refine aK ?_;have hl32:=gG m;have hmle0:S.masks.length≤90000:=hP1.mle;have hT0:t8 (mu o1 w13.heap.size w13.heap.size w19.heap.size (S.tabs.length+j)) w24 w19.heap.size w13.heap.size (S.tabs.length+j) [] (wdF S.cs) (fun _=>0) :=
   ⟨by unfold mu; rw[if_neg (by omega),if_neg (by omega),if_pos rfl],h24.get hb22 (fun h=>h),by unfold mu; rw[if_neg (by omega),if_pos rfl],((hm19 .i64).same h22).same h24,fun c hc=>by cases hc⟩
  refine cA (listF m).length (fun q x wi=>x=.int .i64 q∧∃o' pc,bN w13 o1 o'∧aH (fun k=>k=w13.heap.size) w24 wi∧t8 o' wi w19.heap.size w13.heap.size (S.tabs.length+j) ((listF m).take q) (wdF S.cs) pc)
   ⟨c8 ⟨rfl,mu o1 w13.heap.size w13.heap.size w19.heap.size (S.tabs.length+j),fun _=>0,(fun k hk=>by unfold mu; rw[if_pos hk]),aH.refl _ _,by simpa using hT0⟩,fun x wi hx2=>?_⟩
  obtain⟨q,hq,⟨rfl,o',pc,hlo,hmi2,hTU⟩,hJ2⟩:=bK hx2;have hbmlt:w13.heap.size<w22.heap.size:=by omega
  have mi:Same w13 wi:=m24.trans' (hmi2.mono fun k _ e=>.inr (by omega));have hlsi:aZ wi la (listF m).length 1 ((listF m).map natV):=hls.mod hmi2 fun bb oo e ek=>by have:=hlf bb oo e; omega
  unfold zk;refine aM ?_;refine ac ?_;refine am (fun hlq=>?_) (fun hgq=>?_)
  ·have hlq:q<(listF m).length:=by omega
   have hbi:=mi.get hbr (fun h=>h);have hcmem:(listF m)[q]∈listF m:=List.getElem_mem hlq;have hclt:=qM hmlt hcmem;obtain⟨hw1,hw2,hw3⟩:=zY (cs:=S.cs) hP1.good hclt;have hsch:=hP1.sch.same mi;have hnin:(listF m)[q]∉(listF m).take q:=by
    intro hin;obtain⟨a,ha,e⟩:=List.mem_iff_getElem.1 hin;rw[List.getElem_take]at e;have hal:a<q:=by simp at ha; omega
    have:=(List.pairwise_iff_getElem.1 (iQ m)) a q (by omega) hlq hal;exact this e
   generalize hcq:(listF m)[q]=c at *;unfold zj;refine cF (F:=natV) hlsi hlq rfl ?_;rw[hcq];refine aq ?_;refine aa ?_;refine aa ?_;refine aj hbi rfl ?_;rw[natV];refine bL (F:=Comp.cells) (fun _=>rfl) hsch hclt (v:=.int .i64 (wdF S.cs c)) (congrArg (fun z:Int=>some (Value.int .i64 z)) hw1) rfl ?_;refine ab (vr o' wi (S.tabs.length+j) c (wdF S.cs c) (by omega) hw2 hw3) ?_;rintro v w37 ⟨rfl,h37,hs37,hC37⟩;refine ak rfl ?_;refine ak rfl ?_;rw[aV bU];obtain⟨t1,t2,t3,t4,t5⟩:=hTU;have t2':=h37.get t2 (fun h=>h);have lb1:=aC t2;have lb2:=aC t4;refine ac ?_;refine az rfl ?_;refine aq ?_;refine aa ?_;refine aj t2' rfl ?_;have hlkn:=pi (fun d=>ptrV (pc d)) (c:Int) ((listF m).take q) (fun x hx e=>hnin (by
    have:x=c:=by omega
    exact this▸hx))
   refine nW Tryz.underlying262 Tryz.underlying3 (t4.same h37) hlkn fun w45 h45 hs45 hM45=>?_;refine aY (by omega) (by omega) ?_;rw[a7];have hsi:=mi.size;have m45:aH (fun k=>k=w13.heap.size) w24 w45:=(hmi2.trans (aH.of_same h37)).trans h45;have lwi:=mi.size;have ecl:(listF m).take (q+1)=(listF m).take q++[c]:=by
    rw[List.take_add_one,List.getElem?_eq_getElem hlq,hcq]; rfl
   refine hJ2 _ _ hlq ⟨rfl,ext o' wi.heap.size (.col (S.tabs.length+j) c),qI pc c wi.heap.size,hlo.trans (bN.ext wi o' _) mi.size,m45,?_,?_,?_,?_,?_⟩
   ·unfold ext; rw[if_pos lb1]; exact t1
   ·exact h45.get t2' (by omega)
   ·unfold ext; rw[if_pos lb2]; exact t3
   ·have e:((listF m).take (q+1)).map (fun(d:Nat)=>((d:Int),ptrV (qI pc c wi.heap.size d)))=((listF m).take q).map (fun(d:Nat)=>((d:Int),ptrV (pc d)))++[((c:Int),ptrV wi.heap.size)]:=by
     rw[ecl,List.map_append,List.map_cons,List.map_nil,updN_same];congr 1;apply List.map_congr_left;intro d hd;rw[updN_ne _ (by rintro rfl; exact hnin hd)]
    rw[e]; exact hM45
   ·intro d hd;rw[ecl]at hd;rcases List.mem_append.1 hd with hd1 | hd1
    ·rw[updN_ne _ (fun e:d=c=>hnin (e▸hd1))];refine(((t5 d hd1).frame h37 (fun _ _ _ _ h=>h) (bN.ext wi o' _)).frame h45 (fun k t e et ek=>?_) (bN.refl _ _));subst ek;unfold ext at e;rw[if_pos lb2,t3]at e;cases e;rcases et with h | h | h<;>cases h
    ·have:d=c:=by simpa using hd1
     subst this;rw[updN_same];refine hC37.frame h45 (fun k t e et ek=>?_) (bN.refl _ _);subst ek;unfold ext at e;rw[if_pos lb2,t3]at e;cases e;rcases et with h | h | h<;>cases h
  ·have:q=(listF m).length:=by omega
   subst this;rw[List.take_length]at hTU;have hPi:=hP1.frame mi (fun _ _ _ h=>h) hlo;have hbi:=hPi.here;obtain⟨ta,tn,tc,et,hts,htn⟩:=hPi.tabs.is;have htn:tn=S.tabs.length+j:=by
    have:=htn rfl;rw[List.length_map,List.length_range,htl]at this;exact this
   rw[et]at hbi;subst htn;refine aq ?_;refine aa ?_;refine aj hbi rfl ?_;refine aR (cs:=[ptrV w19.heap.size]) rfl fun w51 h51 hs51 hb51=>?_;have hP51:=hPi.frame h51 (fun _ _ _ h=>h) (bN.cut wi o');have ht51:=hP51.tabs;rw[et]at ht51;have hmle:=hP1.mle;refine be N1 (by omega) ht51 (Src.ofSlIs (hk:=z7.choose_spec) 1 (aZ.blk hb51 rfl) rfl) (by simp; omega) (by simp; omega) ?_;intro v' w53 ho53 hm53 hf53;have hb53:=hm53.get (h51.get hbi (fun h=>h)) (fun e=>by
    have:=hP51.tabsl b (by rw[et]; exact e);rw[hP51.lab]at this; cases this)
   obtain⟨a',n',c',rfl,_⟩:=ho53.is;refine aq ?_;refine aa ?_;refine bJ hb53 rfl rfl (by simp) fun w55 h55 hs55 hb55=>?_;simp only[List.setIfInBounds_toArray,List.set_cons_succ,List.set_cons_zero]at hb55;refine aY (by omega) (by omega) ?_;have hm55:aH (fun k=>k=b∨bf p1.tv k) w51 w55:=(hm53.mono fun k _ e=>.inr (by rw[et]; exact e)).trans (h55.mono fun k _ e=>.inl e);have lb51:=aC hP51.here;have hTA:=hTU.done;have lw51:wi.heap.size≤w51.heap.size:=h51.size;have hlt1:bN w51 (dm o' wi.heap.size) (ext (dm o' wi.heap.size) w51.heap.size .tabs):=bN.ext _ _ _;have hTA51:e9 (ext (dm o' wi.heap.size) w51.heap.size .tabs) w55 w19.heap.size (S.tabs.length+j) (bq S.masks (S.tabs.length+j)) (wdF S.cs) pc e8.empty:=by
    rw[hcomps];refine((hTA.frame h51 (fun _ _ _ _ h=>h) (bN.cut wi o')).frame hm55 (fun k t e et2 ek=>?_) hlt1);rcases ek with rfl | ek
    ·rw[hP51.lab]at e; cases e;rcases et2 with h | h | h | ⟨d,h | h | h⟩<;>cases h
    ·rw[hP51.tabsl k ek]at e; cases e;rcases et2 with h | h | h | ⟨d,h | h | h⟩<;>cases h
   have hnew:=hP51.addTab (tv':=.slice a' n' c') (bt:=w19.heap.size) (pc':=pc) (by rw[htl]; exact hi) hlt1 hm55 hb55 (ho53.mod h55 fun k hk e=>by
     subst e;rcases hf53 _ hk with h | h
     ·have:=hP51.tabsl _ (by rw[et]; exact h);rw[hP51.lab]at this; cases this
     ·omega) (fun k hk=>by
     unfold ext;rcases hf53 k hk with h | h
     ·have h':bf p1.tv k:=by rw[et]; exact h
      have:=hP51.tabs.vblk_lt h';rw[if_pos this];exact hP51.tabsl k h'
     ·rw[if_neg (by omega)]) (by rw[htl]; exact hTA51)
   rw[Kn]at hnew;have hJt:natV (S.tabs.length+(j+1))=.int .i64 (((S.tabs.length+j:Nat):Int)+1):=by
    unfold natV;congr 1
   rw[←hJt];have lwi:=mi.size;refine hJ _ _ (by omega) ⟨rfl,by omega,dm (ext (dm o' wi.heap.size) w51.heap.size .tabs) w55.heap.size,_,fun k hk=>?_,hnew.frame (aH.refl (fun _=>False) _) (fun _ _ _ h=>h) (bN.cut w55 _),?_,fun k hk=>eM hk⟩
   ·have h1:=hm1.size;have h2:=hm55.size;unfold dm ext;rw[if_pos (by omega),if_pos (by omega)];show(if k<wi.heap.size then o' k else none)=o k;rw[if_pos (by omega),hlo k (by omega)];exact hl1 k hk
   ·refine hm1.trans' ((aH.of_same (mi.trans h51)).trans (hm55.mono fun k hk e=>?_));rcases Nat.lt_or_ge k w.heap.size with hkw | hkw
    ·left;have hlab:∃t,o k=some t:=by
      have h1:=hm1.size;have e1:dm o' wi.heap.size k=o k:=by
       unfold dm;rw[if_pos (by omega),hlo k (by omega)];exact hl1 k hkw
      rw[←e1];rcases e with rfl | e
      ·exact⟨_,hP51.lab⟩
      ·exact⟨_,hP51.tabsl k e⟩
     obtain⟨t,ht⟩:=hlab;exact⟨t,ht,trivial⟩
    ·exact .inr hkw
 ·have:j=S.masks.length-S.tabs.length:=by rw[hms]at hge; omega
  subst this;exact⟨rfl,o1,p1,hl1,hP1,hm1,hc1⟩
def d7 (cs:List Comp) (q:Part):Prop:=∃c:Nat,q.comp=c∧c<cs.length∧q.clean (wdF cs c)
theorem vI {q:Part} (h:q.clean wd) (h1:1≤wd) (hj:j<4-wd):q.cells[1+wd+j]?=some (.int .i64 0):=by
 unfold Part.clean Part.vals at h;have hw':wd=1∨wd=2∨wd=3:=by omega
 have hj':j=0∨j=1∨j=2:=by omega
 rcases hw' with rfl | rfl | rfl<;>rcases hj' with rfl | rfl | rfl<;>first | omega | (simp at h; simp[Part.cells,h])
theorem sC (h:bF o w b p S) (q:Part) (hq:d7 S.cs q) :
  af Tryz.prog 166 #[ptrV b,.agg q.cells.toArray] w fun v w'=>v=.bool true∧Same w w':=by
 obtain⟨c,hqc,hcl,hcln⟩:=hq;obtain⟨hw1,hw2,hw3⟩:=zY h.good hcl;have hg:=h.good.1;rw[ptrV];refine DJ ?_;unfold NL;refine ar fun w2 hm2 hs2 hb2=>?_;have hb2:aX w2.drew w.heap.size=some (.cells q.cells.toArray 95):=hb2;have m2:=hm2.drew;generalize w2.drew=wa at *;have hba:=m2.get h.here (fun h=>h);refine aa ?_;refine ao (v:=.int .i64 c) hb2 (by simp[Part.cells,hqc]) ?_;refine ah rfl ?_;refine aM ?_;refine ac ?_;refine aN (fG (bT (by omega))) ?_;refine aa ?_;refine ao (v:=.int .i64 c) hb2 (by simp[Part.cells,hqc]) ?_;refine ah rfl ?_;refine aq ?_;refine aa ?_;refine aa ?_;refine aj hba rfl ?_;refine ah rfl ?_;refine aK ?_;refine bI ?_;refine ac ?_;refine az (bT (by omega)) ?_;refine aa ?_;refine aq ?_;refine aa ?_;refine aa ?_;refine aj hba rfl ?_;refine ah rfl ?_;refine aa ?_;have hb2:aX wa.drew w.heap.size=_:=hb2;have hba:aX wa.drew b=_:=hba;have m2:=m2.drew;generalize wa.drew=wb at *;refine ao (v:=.int .i64 c) hb2 (by simp[Part.cells,hqc]) ?_;refine ah rfl ?_;refine bL (F:=Comp.cells) (fun _=>rfl) (h.sch.same m2) hcl (v:=.int .i64 (wdF S.cs c)) (congrArg (fun z:Int=>some (Value.int .i64 z)) hw1) rfl ?_;refine ah rfl ?_;refine jt hw3 ?_;refine aK ?_;refine cA (4-wdF S.cs c) (fun j x wr=>x=.int .i64 j∧Same wb wr) ⟨c8 ⟨rfl,aH.refl _ _⟩,fun x wr hx=>?_⟩;obtain⟨j,hj,⟨rfl,hm⟩,hJ⟩:=bK hx;unfold zr;refine aM ?_;refine ac ?_;refine am (fun hlt=>?_) (fun hge=>?_)
 ·have hlt:j<4-wdF S.cs c:=by omega
  unfold zo;rw[ce];refine ah (by omega) ?_;rw[add_mk,if_neg (by omega)];refine ao (v:=.int .i64 0) (hm.get hb2 (fun h=>h)) ?_ ?_
  ·have:=vI hcln hw2 hlt;simpa using this
  refine cu ?_;refine ac ?_;refine az rfl ?_;refine aY (by omega) (by omega) ?_;rw[a7];exact hJ _ _ hlt ⟨rfl,hm⟩
 ·unfold zp;exact⟨rfl,m2.trans hm⟩
theorem my (m:Nat) (n:Int) (hm:m<4294967296) (h1: -9223372036854775808≤n) (h2:n≤9223372036854775807) (w:World):af Tryz.prog 41 #[msk m,.int .i64 n] w fun v w'=>v=.bool (decide (m&&&bitF n≠0))∧w'=w:=by
 refine IS ?_;unfold RB;refine ab (l7 n h1 h2 w) ?_;rintro v w' ⟨rfl,rfl⟩;rw[msk,msk,jH,tO hm (bitF_lt n),lO];refine⟨?_,rfl⟩;congr 1;simp
def maskP (L:List Part):Nat:=L.foldl (fun m q=>m |||bitF q.comp) 0
theorem sD (L:List Part) (q:Part):maskP (L++[q])=maskP L |||bitF q.comp:=by simp[maskP]
theorem oa (cs:List Comp) (hcs:cs.length≤16) (c:Nat):∀(L:List Part) (m:Nat),(∀q∈L,d7 cs q)→((L.foldl (fun m q=>m |||bitF q.comp) m).testBit c=true↔m.testBit c=true∨∃q∈L,q.comp=(c:Int))
 | [],m,_=>by simp
 | q::L,m,h=>by
  rw[List.foldl_cons,oa cs hcs c L _ (fun x hx=>h x (by simp[hx])),Nat.testBit_or,Bool.or_eq_true];obtain⟨d,e,hd,_⟩:=h q (by simp);have hb:(bitF q.comp).testBit c=true↔q.comp=(c:Int):=by
   rw[e,qK (by omega),Nat.testBit_two_pow];simp only[decide_eq_true_eq];omega
  rw[hb];constructor
  ·rintro((h1 | h1) | ⟨x,hx,e⟩)
   ·exact .inl h1
   ·exact .inr ⟨q,by simp,h1⟩
   ·exact .inr ⟨x,by simp[hx],e⟩
  ·rintro(h1 | ⟨x,hx,ex⟩)
   ·exact .inl (.inl h1)
   ·rcases List.mem_cons.1 hx with rfl | hx
    ·exact .inl (.inr ex)
    ·exact .inr ⟨x,hx,ex⟩
theorem eO (cs:List Comp) (hcs:cs.length≤16) (L:List Part) (h:∀q∈L,d7 cs q) (c:Nat):(maskP L).testBit c=true↔∃q∈L,q.comp=(c:Int):=by
 unfold maskP;rw[oa cs hcs c L 0 h];simp
theorem qN (cs:List Comp) (hcs:cs.length≤16) (L:List Part) (h:∀q∈L,d7 cs q):maskP L<2^cs.length:=by
 apply Nat.lt_pow_two_of_testBit;intro i hi;cases hb:(maskP L).testBit i with
 | false=>rfl
 | true =>
  obtain⟨q,hq,e⟩:=(eO cs hcs L h i).1 hb;obtain⟨d,e2,hd,_⟩:=h q hq;omega
theorem Ko:appT Tryz.prog 90 6 48=true:=by kernel_rfl
theorem Kp:je Tryz.prog 90=true:=by kernel_rfl
theorem od:∃e,Tryz.prog.underlying 90=some (.slice e):=dI (by kernel_rfl)
theorem ones_parts:∀L:List Part,oneCells (L.flatMap Part.cells)=true
 | []=>rfl
 | q::L=>by
  rw[List.flatMap_cons];show oneCells (.int .i64 q.comp::.int .i64 q.v0::.int .i64 q.v1::.int .i64 q.v2::.int .i64 q.v3::.int .i64 q.tick::L.flatMap Part.cells)=true;simp only[oneCells,ones_parts L]; rfl
theorem qO {L:List Part} (hs:aZ w a L.length 6 (L.flatMap Part.cells)) (hn:L.length≤1000000) :
  af Tryz.prog 165 #[.slice a L.length c] w fun v w'=>bV w' v 6 (L.flatMap Part.cells)∧Same w w'∧(∀k,bf v k→w.heap.size≤k):=by
 have hfl:=flat_len Part.cells 6 (fun _=>rfl) L;refine DT ?_;unfold NU;rw[fg Kp];cases a with
 | none =>
  have hL:L.length=0:=by rcases hs.2 with h | ⟨_,_,_,_,_,h,_⟩; exact h; cases h
  have:L=[]:=List.eq_nil_of_length_eq_zero hL;subst this;refine ac ?_;refine aN rfl ?_;exact⟨bV.nil _ _,aH.refl _ _,fun b hb=>by obtain⟨_,_,_,h⟩:=hb; cases h⟩
 | some a =>
  refine ac ?_;refine az rfl ?_;unfold zG;refine aR (cs:=[]) rfl fun w5 h5 hs5 hb5=>?_;refine be Ko (by omega) (vs:=[]) (bV.blk hb5 (n:=0) (by simp) (by simp[maxLen])) (Src.ofSlIs (hk:=od.choose_spec) c (hs.same h5) (ones_parts L)) (by simp[hfl]; omega) (by simp[hfl]; omega) ?_;intro v' w' ho hm hf;refine⟨by simpa using ho,aH.after h5 hm (fun b hb=>by rw[cg hb]; exact Nat.le_refl _),fun b hb=>?_⟩;rcases hf b hb with h | h
  ·rw[cg h]; exact Nat.le_refl _
  ·omega
def fa (L:List Part):Prop:=(L.map (·.comp)).Nodup
theorem mA {o:dd} {w:World} {b:Nat} {p:dJ} {S:SM} (h:bF o w b p S) {L:List Part} {a:Option Addr} {c:Nat} (hs:aZ w a L.length 6 (L.flatMap Part.cells)) (hn:L.length≤1000000) (hf:∀q∈L,d7 S.cs q) (hnt:fa L) :
  af Tryz.prog 114 #[ptrV b,.slice a L.length c] w fun v w'=>∃(sv:Value) (L':List Part),v=.tuple #[msk (maskP L),sv,.nilIface]∧L'.Perm L∧L'.Pairwise (fun x y=>x.comp≤y.comp)∧bV w' sv 6 (L'.flatMap Part.cells)∧Same w w'∧∀k,bf sv k→w.heap.size≤k:=by
 have hg:=h.good.1;have hp16:2^S.cs.length≤2^16:=Nat.pow_le_pow_right (by omega) hg;refine DN ?_;unfold NP;refine aK ?_;refine oT L.length (fun j x y z wr=>z=.int .i64 j∧x=msk (maskP (L.take j))∧y=.bool false∧Same w wr) ⟨tM ⟨rfl,rfl,rfl,aH.refl _ _⟩,fun x y z wr hx=>?_⟩;obtain⟨j,hj,⟨rfl,rfl,rfl,hm⟩,hJ⟩:=jQ hx;unfold zC;refine aM ?_;refine ac ?_;refine am (fun hlt=>?_) (fun hge=>?_)
 ·have hlt:j<L.length:=by omega
  have hfj:=hf _ (List.getElem_mem hlt);obtain⟨d,e1,e2,e3⟩:=id hfj;have hft:∀q∈L.take j,d7 S.cs q:=fun q hq=>hf q (List.mem_of_mem_take hq);have hml:=qN S.cs hg _ hft;have hsn:maskP (L.take (j+1))=maskP (L.take j) |||bitF L[j].comp:=by
   rw[List.take_add_one,List.getElem?_eq_getElem hlt]; exact sD _ _
  unfold zy;refine cK (F:=Part.cells) (sz:=6) (fun _=>rfl) (by omega) (hs.same hm) hlt rfl ?_;refine ar fun w7 h7 hs7 hb7=>?_;refine aQ (vs:=(L[j]).cells) hb7 rfl rfl rfl (by simp) (by simp[Part.cells]) fun w8 h8 hs8 hb8=>?_;have hb8:aX w8 wr.heap.size=some (.cells (L[j]).cells.toArray 95):=hb8;have m8:Same wr w8:=h7.trans' (h8.mono fun k _ e=>.inr (by omega));refine au hb8 rfl (by omega) ?_;refine ab (sC (h.same (hm.trans m8)) L[j] hfj) ?_;rintro v w11 ⟨rfl,h11⟩;have hb11:=h11.get hb8 (fun h=>h);have m11:=m8.trans h11;refine bP ?_;refine ac ?_;refine az rfl ?_;refine ac ?_;refine aN rfl ?_;refine aa ?_;refine ao (v:=.int .i64 d) hb11 (by simp[Part.cells,e1]) ?_;refine ab (my (maskP (L.take j)) (d:Int) (by omega) (by omega) (by omega) w11) ?_;rintro v w20 ⟨rfl,rfl⟩;have hno:maskP (L.take j)&&&bitF (d:Int)=0:=by
   apply Nat.eq_of_testBit_eq;intro i;rw[Nat.testBit_and,Nat.zero_testBit,qK (by omega),Nat.testBit_two_pow];by_cases hdi:d=i
   ·subst hdi;have:(maskP (L.take j)).testBit d=false:=by
     cases hb:(maskP (L.take j)).testBit d with
     | false=>rfl
     | true =>
      obtain⟨q,hq,e⟩:=(eO S.cs hg _ hft d).1 hb;obtain⟨k,hk,rfl⟩:=List.mem_iff_getElem.1 hq;have hkj:k<j:=by simp at hk; omega
      rw[List.getElem_take]at e;have hp:=(List.pairwise_iff_getElem.1 hnt) k j (by simp; omega) (by simpa using hlt) hkj;simp only[List.getElem_map]at hp;exact absurd (e.trans e1.symm) hp
    rw[this]; simp
   ·simp[hdi]
  rw[hno,show decide ((0:Nat)≠0)=false from rfl];refine aa ?_;refine ao (v:=.int .i64 d) hb11 (by simp[Part.cells,e1]) ?_;refine ab (nY (maskP (L.take j)) (d:Int) (by omega) (by omega) (by omega) w20) ?_;rintro v w24 ⟨rfl,rfl⟩;refine aY (by omega) (by omega) ?_;rw[a7];refine hJ _ _ _ _ hlt ⟨rfl,?_,rfl,hm.trans m11⟩;rw[hsn,e1]
 ·have:j=L.length:=by omega
  subst this;rw[List.take_length];unfold zB;refine ac ?_;refine az rfl ?_;unfold zA;refine ab (qO (hs.same hm) hn) ?_;rintro v w31 ⟨ho,h31,hf31⟩;refine ab (kV ho (by omega)) ?_;rintro v2 w33 ⟨L',g1,g2,g3,g4⟩;exact⟨v,L',rfl,g1,g2,g3,(hm.trans h31).trans' (g4.mono fun k _ e=>.inr (by have:=hf31 k e; have:=hm.size; omega)),fun k e=>by have:=hf31 k e; have:=hm.size; omega⟩
def pushC (T:e8) (L:List Part):e8:=⟨T.rows,fun c=>T.col c++L.filter fun q=>decide (q.comp=(c:Int))⟩
theorem vJ (T:e8):pushC T []=T:=by simp[pushC]
theorem N2:appT Tryz.prog 261 2 16=true:=by kernel_rfl
theorem z8:∃e,Tryz.prog.underlying 261=some (.slice e):=dI (by kernel_rfl)
theorem e9.col {o:dd} {w:World} {b i:Nat} {comps:List Nat} {wd pc:Nat→Nat} {T:e8} (h:e9 o w b i comps wd pc T) {c:Nat} (hc:c∈comps):dF o w (pc c) i c (wd c) (T.col c):=by
 obtain⟨_,_,_,_,_,_,_,_,hC⟩:=h;exact hC c hc
theorem e9.ext {T T':e8} (h:e9 o w b i comps wd pc T) (hr:T'.rows=T.rows) (hc:∀c∈comps,T'.col c=T.col c):e9 o w b i comps wd pc T':=by
 obtain⟨h1,rv,bm,h2,h3,h4,h5,h6,hC⟩:=h;exact⟨h1,rv,bm,h2,hr▸h3,h4,h5,h6,fun c hcm=>by rw[hc c hcm]; exact hC c hcm⟩
theorem bF.ptab (h:bF o w b p S) {n:Nat} (hn:n<S.tabs.length):∃ta tc,p.tv=.slice ta S.tabs.length tc∧aZ w ta (List.range S.tabs.length).length 1 ((List.range S.tabs.length).map fun i=>ptrV (p.pt i)):=by
 obtain⟨ta,tn,tc,et,hts,htn⟩:=h.tabs.is;have htn:tn=S.tabs.length:=by simpa using htn rfl
 subst htn;exact⟨ta,tc,et,by simpa using hts⟩
theorem pj {S:SM} (hn:n<S.tabs.length) (X:e8) (h:n<(S.tabs.set n X).length):(S.tabs.set n X)[n]'h=X:=by simp
theorem bF.pushed {o o':dd} {w w':World} {b:Nat} {p:dJ} {S:SM} {n:Nat} (hn:n<S.tabs.length) {L:List Part} {q:Part} {c:Nat} (h:bF o w b p { S with tabs:=S.tabs.set n (pushC S.tabs[n] L) }) (hq:q.comp=(c:Int)) (hc:c∈bq S.masks n)
  (hl:bN w o o') (hm:aH (FP o (ju n c)) w w') (hC:dF o' w' (p.pc n c) n c (wdF S.cs c) ((pushC S.tabs[n] L).col c++[q])):bF o' w' b p { S with tabs:=S.tabs.set n (pushC S.tabs[n] (L++[q])) }:=by
 have hn':n<(S.tabs.set n (pushC S.tabs[n] L)).length:=by simpa using hn
 have hT:=h.tab n hn';have e:({ S with tabs:=S.tabs.set n (pushC S.tabs[n] L) }:SM).tabs[n]=pushC S.tabs[n] L:=pj hn _ hn';rw[e]at hT;have hT':=(hT.setCol hc hl (fun _ h=>h) hm hC).ext (T':=pushC S.tabs[n] (L++[q])) rfl (fun d hd=>by
  unfold pushC;show S.tabs[n].col d++(L++[q]).filter _=lm (pushC S.tabs[n] L).col c _ d;rw[List.filter_append];by_cases hdc:d=c
  ·subst hdc;rw[gJ];simp[pushC,hq]
  ·rw[jZ _ hdc];have:¬(c:Int)=(d:Int):=by omega
   simp[pushC,hq,this])
 have:=h.setTab hn' hl (hm.mono fun k _ hk=>FP.mono (fun t ht=>.inr (.inr (.inr ⟨c,ht⟩))) hk) hT';simpa using this
def fk (S:SM) (n:Nat) (i:Nat) (g:Int) (L:List Part) (hn:n<S.tabs.length):SM :=
 { S with tabs:=S.tabs.set n ⟨S.tabs[n].rows++[((i:Int),g)],(pushC S.tabs[n] L).col⟩,spots:=S.spots.set i (n,S.tabs[n].rows.length) }
theorem qP {o:dd} {w:World} {b:Nat} {p:dJ} {S:SM} (h:bF o w b p S) {n:Nat} (hn:n<S.tabs.length) {i:Nat} (hi:i<S.spots.length) (g:Int) {L:List Part} {a:Option Addr} {c:Nat} (hs:aZ w a L.length 6 (L.flatMap Part.cells))
  (hLb:∀k f,a=some ⟨k,f,none⟩→o k=none) (hn16:L.length≤64) (hf:∀q∈L,d7 S.cs q) (hin:∀q∈L,∃c:Nat,q.comp=(c:Int)∧c∈bq S.masks n) (hcol:∀c∈bq S.masks n,(S.tabs[n].col c).length+L.length<1000000) (hrows:S.tabs[n].rows.length<1000000) :
  af Tryz.prog 117 #[ptrV b,entV i g,natV n,.slice a L.length c] w fun v w'=>v=.nilIface∧c7 o w b (fk S n i g L hn) w':=by
 refine DK ?_;unfold NM;refine ar fun w2 hm2 hs2 hb2=>?_;have hb2:aX w2 w.heap.size=some (.cells #[.int .i64 i,.int .i64 g] 157):=hb2;have hP2:=h.cut hm2;have hs2':=hs.same hm2;have hLb2:∀k f,a=some ⟨k,f,none⟩→dm o w.heap.size k=none:=fun k f e=>by
  unfold dm; split
  ·exact hLb k f e
  ·rfl
 generalize ho0:dm o w.heap.size=o0 at *;have ho0n:∀k,w.heap.size≤k→o0 k=none:=fun k hk=>by rw[←ho0]; exact eM hk
 obtain⟨ta,tc,et,hts⟩:=hP2.ptab hn;have hb2b:=hP2.here;rw[et]at hb2b;rw[ptrV];refine aq ?_;refine aa ?_;refine aj hb2b rfl ?_;rw[natV];have ele:(List.range S.tabs.length).length=S.tabs.length:=List.length_range;refine cF (F:=fun i=>ptrV (p.pt i)) (c:=tc) (l:=List.range S.tabs.length) hts (show n<(List.range S.tabs.length).length by omega) rfl ?_ |>fun h=>by rw[ele]at h; exact h
 rw[List.getElem_range];refine aK ?_;refine cA L.length (fun j x wr=>x=.int .i64 j∧∃o',bN w2 o0 o'∧bF o' wr b p { S with tabs:=S.tabs.set n (pushC S.tabs[n] (L.take j)) }∧aH (FP o0 (gz n)) w2 wr) ⟨c8 ⟨rfl,o0,bN.refl _ _,?_,aH.refl _ _⟩,fun x wr hx=>?_⟩
 ·rw[List.take_zero,vJ,List.set_getElem_self]; exact hP2
 obtain⟨j,hj,⟨rfl,o',hl',hP',hm'⟩,hJ⟩:=bK hx;have hsL:aZ wr a L.length 6 (L.flatMap Part.cells):=hs2'.mod hm' fun k f e ⟨t,e1,_⟩=>by rw[hLb2 k f e]at e1; cases e1
 have hn':n<(S.tabs.set n (pushC S.tabs[n] (L.take j))).length:=by simpa using hn
 unfold zw;refine aM ?_;refine ac ?_;refine am (fun hlt=>?_) (fun hge=>?_)
 ·have hlt:j<L.length:=by omega
  obtain⟨d,hd1,hd2⟩:=hin _ (List.getElem_mem hlt);obtain⟨d',hf1,hf2,hf3⟩:=hf _ (List.getElem_mem hlt);obtain rfl:d'=d:=by omega
  have hLj:L.take (j+1)=L.take j++[L[j]]:=by rw[List.take_add_one,List.getElem?_eq_getElem hlt]; rfl
  unfold zu;refine cK (F:=Part.cells) (sz:=6) (fun _=>rfl) (by omega) hsL hlt rfl ?_;refine ar fun w13 h13 hs13 hb13=>?_;refine aQ (vs:=(L[j]).cells) hb13 rfl rfl rfl (by simp) (by simp[Part.cells]) fun w14 h14 hs14 hb14=>?_;have hb14:aX w14 wr.heap.size=some (.cells (L[j]).cells.toArray 95):=hb14;have m14:Same wr w14:=h13.trans' (h14.mono fun k _ e=>.inr (by omega));have m14:=m14.drew;have hb14:aX w14.drew wr.heap.size=_:=hb14;have hsz14:w14.drew.heap.size=wr.heap.size+1:=by show w14.heap.size=_; omega
  generalize w14.drew=wa at *;have hPa:=hP'.frame m14 (fun _ _ _ h=>h) (bN.cut wr o');have hT:=hPa.tab n hn';rw[show({ S with tabs:=S.tabs.set n (pushC S.tabs[n] (L.take j)) }:SM).tabs[n]=pushC S.tabs[n] (L.take j)from pj hn _ hn']at hT;have hCol:=hT.col hd2;obtain⟨q1,rv,bm,q2,q3,q4,q5,q6,q7⟩:=id hT;rw[ptrV];refine aq ?_;refine aa ?_;refine aj q2 rfl ?_;refine ah rfl ?_;refine aa ?_;refine ao (v:=.int .i64 d') hb14 (by simp[Part.cells,hd1]) ?_;refine ah rfl ?_;refine lW Tryz.underlying262 Tryz.underlying3 Kk q6 (r:=some (_,_)) (by rw[mn,if_pos hd2]) ?_;refine ah rfl ?_;refine au hb14 rfl (by omega) ?_;refine ah rfl ?_;have hlenc:((pushC S.tabs[n] (L.take j)).col d').length<1000000:=by
   have h1:=hcol d' hd2;have h2:=List.length_filter_le (fun q:Part=>decide (q.comp=(d':Int))) (L.take j);have h3:(L.take j).length≤L.length:=by rw[List.length_take]; omega
   show(S.tabs[n].col d'++(L.take j).filter _).length<1000000;rw[List.length_append];omega
  refine ab (sj hCol (L[j]) ⟨hd1,hf3⟩ hlenc) ?_;rintro v w23 ⟨rfl,o2,hl2,hC2,hm23⟩;refine ak rfl ?_;refine ak rfl ?_;rw[aV bU];refine ac ?_;refine az rfl ?_;refine aY (by omega) (by omega) ?_;rw[a7];have hPn:=hPa.pushed hn hd1 hd2 hl2 hm23 hC2;rw[←hLj]at hPn;refine hJ _ _ hlt ⟨rfl,o2,fun k hk=>?_,hPn,?_⟩
  ·have h1:=hm'.size;rw[hl2 k (by omega)];unfold dm;rw[if_pos (by omega)];exact hl' k hk
  ·refine hm'.trans' ((aH.of_same m14).trans (hm23.mono fun k _ hk=>?_));obtain⟨⟨t,e1,e2⟩,e3⟩:=hk.cut;rcases Nat.lt_or_ge k w2.heap.size with hk2 | hk2
   ·left;exact⟨t,by rw[←hl' k hk2]; exact e1,.inr (.inr (.inr ⟨d',e2⟩))⟩
   ·exact .inr hk2
 ·have:j=L.length:=by omega
  subst this;rw[List.take_length]at hP' hn';clear hJ hx;unfold zv;have m3:=(aH.refl (fun _=>False) wr).drew;have hPa:=hP'.frame m3 (fun _ _ _ h=>h) (bN.cut wr o');have hbe:aX wr.drew w.heap.size=some (.cells #[.int .i64 i,.int .i64 g] 157):=hm'.get hb2 fun⟨t,e1,_⟩=>by rw[ho0n _ (Nat.le_refl _)]at e1; cases e1
  have hszr:w2.heap.size≤wr.drew.heap.size:=hm'.size;have hm3:aH (FP o0 (gz n)) w2 wr.drew:=hm'.drew;have hlab3:bN w2 o0 (dm o' wr.heap.size):=fun k hk=>by
   have:=hm'.size;unfold dm;rw[if_pos (by omega)];exact hl' k hk
  have hcut3:∀k,wr.drew.heap.size≤k→dm o' wr.heap.size k=none:=fun k hk=>eM hk;generalize hoc:dm o' wr.heap.size=oc at *;generalize wr.drew=wa at *;have hba:=hPa.here;have hT:=hPa.tab n hn';rw[show({ S with tabs:=S.tabs.set n (pushC S.tabs[n] L) }:SM).tabs[n]=pushC S.tabs[n] L from pj hn _ hn']at hT;obtain⟨q1,rv,bm,q2,q3,q4,q5,q6,q7⟩:=id hT;obtain⟨ra,rn,rc,rfl,hrs,_⟩:=q3.is;have hrn:rn=S.tabs[n].rows.length:=by
   have:=hrs.1;rw[flat_len vD 2 (fun _=>rfl)]at this;show rn=(pushC S.tabs[n] L).rows.length;omega
  subst hrn;obtain⟨bs,csc,arr,t,es,hbs,s1,s2,s3⟩:=hPa.spots.viewF (F:=spotC) (sz:=2) (fun _=>rfl) (by omega) (show 0<S.spots.length by omega);have hspl:=hPa.spotsl bs (by rw[es]; exact⟨_,_,_,rfl⟩);have hsp0:=hPa.spots;rw[es]at hba hsp0;rw[ptrV];have nbt:bs≠p.pt n:=fun e=>by rw[e,q1]at hspl; cases hspl
  have nbb:b≠p.pt n:=fun e=>by
   have:=hPa.lab;rw[e,q1]at this; cases this
  have lbs:=aC hbs;have lpt:=aC q2;have he0:oc w.heap.size=none:=by rw[hlab3 _ (by omega)]; exact ho0n _ (Nat.le_refl _)
  have neb:bs≠w.heap.size:=fun e=>by rw[e,he0]at hspl; cases hspl
  have net:p.pt n≠w.heap.size:=fun e=>by rw[e,he0]at q1; cases q1
  refine aq ?_;refine aa ?_;refine aj hba rfl ?_;refine ah rfl ?_;refine aa ?_;refine aj hbe rfl ?_;refine ah rfl ?_;refine aq ?_;refine aa ?_;refine aj q2 rfl ?_;refine ah rfl ?_;refine aK ?_;refine aW (cs:=[.int .i64 n,.int .i64 S.tabs[n].rows.length]) rfl ?_;rw[ce];refine ah (by simp; omega) ?_;rw[add_mk,Nat.zero_add,Int.toNat_natCast];have hsl:=(dY _ _ _ _ (s3 i hi)).1;rw[Array.length_toList]at hsl;refine aQ (vs:=spotC (n,S.tabs[n].rows.length)) hbs rfl rfl rfl hsl (by simp[spotC]) fun w40 h40 hs40 hb40=>?_;have hb40:aX w40.drew bs=_:=hb40;have h40:aH (fun k=>k=bs) wa w40.drew:=h40.drew;have hbe40:=h40.get hbe neb.symm;have q240:=h40.get q2 nbt.symm;have hrv40:bV w40.drew (.slice ra S.tabs[n].rows.length rc) 2 (S.tabs[n].rows.flatMap vD):=q3.mod h40 fun k hk e=>by
   subst e;rw[q4 _ hk]at hspl; cases hspl
  have hs40':w40.drew.heap.size=wa.heap.size:=hs40;generalize w40.drew=wb at *;refine aq ?_;refine aa ?_;refine aj q240 rfl ?_;refine ah rfl ?_;refine au hbe40 rfl (by omega) ?_;refine ah rfl ?_;refine aR (cs:=[.int .i64 i,.int .i64 g]) rfl fun w45 h45 hs45 hb45=>?_;have q245:=h45.get q240 (fun h=>h);refine ah (aj q245 rfl ⟨rfl,rfl⟩) ?_;refine be N2 (by omega) (hrv40.same h45) (Src.ofSlIs (hk:=z8.choose_spec) 1 (aZ.blk hb45 rfl) rfl) (by rw[flat_len vD 2 (fun _=>rfl)]; simp; omega) (by rw[flat_len vD 2 (fun _=>rfl)]; simp; omega) ?_;intro v' w47 ho47 hm47 hf47;have q247:=hm47.get q245 (fun e=>by have:=q4 _ e; rw[q1]at this; cases this);obtain⟨a',n',c',rfl,_⟩:=ho47.is;refine aq ?_;refine aa ?_;refine bJ q247 rfl rfl (by simp) fun w49 h49 hs49 hb49=>?_;simp only[List.setIfInBounds_toArray,List.set_cons_succ,List.set_cons_zero]at hb49;have hall:aH (fun k=>k=bs∨k=p.pt n∨bf (.slice ra S.tabs[n].rows.length rc) k) wa w49:=(h40.mono fun k _ e=>.inl e).trans ((aH.of_same h45).trans ((hm47.mono fun k _ e=>.inr (.inr e)).trans (h49.mono fun k _ e=>.inr (.inl e))));have hFP:aH (FP oc fun t=>gz n t∨t=.spots) wa w49:=hall.mono fun k _ e=>by
   rcases e with rfl | rfl | e
   ·exact⟨_,hspl,.inr rfl⟩
   ·exact⟨_,q1,.inl (.inl rfl)⟩
   ·exact⟨_,q4 k e,.inl (.inr (.inl rfl))⟩
  have hlx:bN wa oc (ext oc wa.heap.size (.trows n)):=bN.ext _ _ _;have hTn:e9 (ext oc wa.heap.size (.trows n)) w49 (p.pt n) n (bq S.masks n) (wdF S.cs) (p.pc n) ⟨S.tabs[n].rows++[((i:Int),g)],(pushC S.tabs[n] L).col⟩:=by
   refine⟨by unfold ext; rw[if_pos lpt]; exact q1,_,bm,hb49,?_,?_,by unfold ext; rw[if_pos (aC q6)]; exact q5,q6.mod hall ?_,fun d hd=>(q7 d hd).frame hall (fun k t e et ek=>?_) hlx⟩
   ·show bV w49 _ 2 ((S.tabs[n].rows++[((i:Int),g)]).flatMap vD);rw[List.flatMap_append];exact ho47.mod h49 fun k hk e=>by
     subst e;rcases hf47 _ hk with h | h
     ·have:=q4 _ h; rw[q1]at this; cases this
     ·omega
   ·intro k hk;unfold ext;rcases hf47 k hk with h | h
    ·have:=q3.vblk_lt h;rw[if_pos this]; exact q4 k h
    ·rw[if_neg (by have:=h45.size; omega)]
   ·rintro(e | e | e)
    ·rw[e,hspl]at q5; cases q5
    ·rw[e,q1]at q5; cases q5
    ·have:=q4 _ e; rw[q5]at this; cases this
   ·rcases ek with rfl | rfl | ek
    ·rw[hspl]at e; cases e; rcases et with h | h | h<;>cases h
    ·rw[q1]at e; cases e; rcases et with h | h | h<;>cases h
    ·rw[q4 k ek]at e; cases e; rcases et with h | h | h<;>cases h
  have hspn:bV w49 p.sv 2 ((S.spots.set i (n,S.tabs[n].rows.length)).flatMap spotC):=by
   rw[es];refine bV.setF (F:=spotC) (fun _=>rfl) hsp0 hbs (x:=(n,S.tabs[n].rows.length)) (i:=i) ?_ hi;exact h49.get (hm47.get (h45.get hb40 (fun h=>h)) (fun e=>by have:=q4 _ e; rw[hspl]at this; cases this)) nbt
  have hPn:=hPa.setTS hn' hlx hFP hspn (by simp) hTn;have hSn:({ ({ S with tabs:=S.tabs.set n (pushC S.tabs[n] L) }:SM)with tabs:=(S.tabs.set n (pushC S.tabs[n] L)).set n ⟨S.tabs[n].rows++[((i:Int),g)],(pushC S.tabs[n] L).col⟩,spots:=S.spots.set i (n,S.tabs[n].rows.length) }:SM)=fk S n i g L hn:=by
   unfold fk;simp
  rw[hSn]at hPn;refine⟨rfl,?_⟩;subst ho0;refine c7.of (T:=fun t=>True) hm2 (fun k hk=>?_) hPn (hm3.mono (fun k _ hk=>FP.mono (fun _ _=>trivial) hk) |>.trans' (hFP.mono fun k hk e=>?_)) (aH.refl _ _)
  ·unfold ext;rw[if_pos (by omega)];exact hlab3 k hk
  ·rcases Nat.lt_or_ge k w2.heap.size with hk2 | hk2
   ·left;obtain⟨t,e1,_⟩:=e;exact⟨t,by rw[←hlab3 k hk2]; exact e1,trivial⟩
   ·exact .inr hk2
theorem fV (h1:i4 t) (h2:dW t):False:=by
 rcases h1 with rfl | rfl | rfl<;>rcases h2 with h | h | h | ⟨i,h⟩<;>cases h
theorem pk (h1:i4 t) (h2:gz i t):False:=by
 rcases h1 with rfl | rfl | rfl<;>rcases h2 with h | h | h | ⟨c,h | h | h⟩<;>cases h
theorem nz (h1:dW t) (h2:gz i t):False:=by
 rcases h1 with rfl | rfl | rfl | ⟨j,rfl⟩<;>rcases h2 with h | h | h | ⟨c,h | h | h⟩<;>cases h
theorem fH {o:dd} {T:kU→Prop} (e:o k=some t) (h:¬T t):¬FP o T k:=fun⟨t',e1,e2⟩=>by
 rw[e]at e1; cases e1; exact h e2
theorem bF.setRoll (h:bF o w b p S) {gens:List (Int×Bool)} {free:List Nat} (hl:bN w o o') (hm:aH (FP o i4) w w') (hR:fh o' w' p.bR gens free) :
  bF o' w' b p { S with gens:=gens,free:=free } where
 lab:=by rw[hl b (aC h.here)]; exact h.lab
 good:=h.good
 tle:=h.tle
 mle:=h.mle
 sle:=h.sle
 here:=hm.get h.here (fH h.lab (by rintro(h | h | h)<;>cases h))
 roll:=hR
 atlas:=h.atlas.frame hm (fun k t e et=>fH e fun h=>fV h et) hl
 sch:=h.sch.mod hm fun k f e=>fH (h.schl k f e).1 (by rintro(h | h | h)<;>cases h)
 schl k f e:=⟨by rw[hl k (h.schl k f e).2]; exact(h.schl k f e).1,Nat.lt_of_lt_of_le (h.schl k f e).2 hm.size⟩
 tabs:=h.tabs.mod hm fun k e=>fH (h.tabsl k e) (by rintro(h | h | h)<;>cases h)
 tabsl k e:=by rw[hl k (h.tabs.vblk_lt e)]; exact h.tabsl k e
 spots:=h.spots.mod hm fun k e=>fH (h.spotsl k e) (by rintro(h | h | h)<;>cases h)
 spotsl k e:=by rw[hl k (h.spots.vblk_lt e)]; exact h.spotsl k e
 tab i hi:=(h.tab i hi).frame hm (fun k t e et=>fH e fun h=>pk h et) hl
theorem gq {ms:List Nat} (hi:i<ms.length):bq (de ms m) i=bq ms i:=by
 have e:(de ms m)[i]?=ms[i]?:=by
  unfold de;split
  ·rfl
  ·rw[List.getElem?_append_left hi]
 unfold bq;rw[e]
theorem bF.setAtlas (h:bF o w b p S) {m:Nat} (hlen:S.masks.length<90000) (hl:bN w o o') (hm:aH (FP o dW) w w') (hA:fz o' w' p.bA S.cs.length (de S.masks m)) :
  bF o' w' b p { S with masks:=de S.masks m } where
 lab:=by rw[hl b (aC h.here)]; exact h.lab
 good:=h.good
 tle:=by
  have:=h.tle;show S.tabs.length≤(de S.masks m).length;unfold de; split
  ·exact this
  ·simp; omega
 mle:=by
  show(de S.masks m).length≤90000;unfold de; split
  ·omega
  ·simp; omega
 sle:=h.sle
 here:=hm.get h.here (fH h.lab (by rintro(h | h | h | ⟨i,h⟩)<;>cases h))
 roll:=h.roll.frame hm (fun k t e et=>fH e fun h=>fV et h) hl
 atlas:=hA
 sch:=h.sch.mod hm fun k f e=>fH (h.schl k f e).1 (by rintro(h | h | h | ⟨i,h⟩)<;>cases h)
 schl k f e:=⟨by rw[hl k (h.schl k f e).2]; exact(h.schl k f e).1,Nat.lt_of_lt_of_le (h.schl k f e).2 hm.size⟩
 tabs:=h.tabs.mod hm fun k e=>fH (h.tabsl k e) (by rintro(h | h | h | ⟨i,h⟩)<;>cases h)
 tabsl k e:=by rw[hl k (h.tabs.vblk_lt e)]; exact h.tabsl k e
 spots:=h.spots.mod hm fun k e=>fH (h.spotsl k e) (by rintro(h | h | h | ⟨i,h⟩)<;>cases h)
 spotsl k e:=by rw[hl k (h.spots.vblk_lt e)]; exact h.spotsl k e
 tab i hi:=by
  have hi':i<S.masks.length:=Nat.lt_of_lt_of_le hi h.tle;have:=(h.tab i hi).frame hm (fun k t e et=>fH e fun h=>nz h et) hl;show e9 o' w' (p.pt i) i (bq (de S.masks m) i) _ _ _;rw[gq hi'];exact this
theorem fD (ms:List Nat) (m:Nat):(de ms m).idxOf m<(de ms m).length:=List.idxOf_lt_length_of_mem (zf ms m)
theorem qQ (ms:List Nat) (m:Nat):(de ms m)[(de ms m).idxOf m]?=some m:=by
 rw[List.getElem?_eq_getElem (fD ms m),List.getElem_idxOf (fD ms m)]
def laidS (S:SM) (m:Nat):SM:=layS { S with masks:=de S.masks m } ((de S.masks m).length-S.tabs.length)
theorem i6 {S:SM} (h:S.tabs.length≤S.masks.length) (m:Nat):(laidS S m).tabs.length=(de S.masks m).length:=by
 have:S.masks.length≤(de S.masks m).length:=by unfold de; split<;>simp
 simp[laidS,layS]; omega
def gK (S:SM) (gens:List (Int×Bool)) (free:List Nat):SM:={ S with gens:=gens,free:=free }
def mB (S:SM) (m i:Nat) (g:Int) (L:List Part) (h:S.tabs.length≤S.masks.length) (gens:List (Int×Bool)) (free:List Nat):SM :=
 fk (laidS (gK S gens free) m) ((de S.masks m).idxOf m) i g L (by
  have:=i6 (S:=gK S gens free) h m;rw[this]; exact fD _ _)
def Kq (S:SM):Prop:=∀n T,S.tabs[n]?=some T→T.rows.length≤999000∧∀c∈bq S.masks n,(T.col c).length≤999000
theorem Kq.laid (h:Kq S) (ht:S.tabs.length≤S.masks.length) (m:Nat):Kq (laidS S m):=by
 intro n T hT;have hT:(S.tabs++List.replicate ((de S.masks m).length-S.tabs.length) e8.empty)[n]?=some T:=hT;rcases Nat.lt_or_ge n S.tabs.length with hn | hn
 ·rw[List.getElem?_append_left hn]at hT;obtain⟨h1,h2⟩:=h n T hT;refine⟨h1,fun c hc=>h2 c ?_⟩;rw[←gq (m:=m) (by omega)]; exact hc
 ·rw[List.getElem?_append_right hn]at hT;obtain⟨h1,h2⟩:=List.getElem?_eq_some_iff.1 hT;rw[List.getElem_replicate]at h2;subst h2;exact⟨by decide,fun c _=>by show([]:List Part).length≤_; decide⟩
theorem qR {o:dd} (hD:fM w) {b:Nat} {p:dJ} {S:SM} (h:bF o w b p S) (hDo:o 19=none) {K:Nat} (hK:K+1=S.free.length) {i:Nat} (hi:S.free[K]'(by omega)=i) (hlt:i<S.gens.length) (hg:0≤(S.gens[i]).1∧(S.gens[i]).1≤1000000) (hisp:i<S.spots.length) (hml:S.masks.length<80000) (hB:Kq S)
  {L:List Part} {a:Option Addr} {c:Nat} (hs:aZ w a L.length 6 (L.flatMap Part.cells)) (hLb:∀k f,a=some ⟨k,f,none⟩→o k=none) (hn16:L.length≤64) (hf:∀q∈L,d7 S.cs q) (hnt:fa L) :
  af Tryz.prog 72 #[ptrV b,.slice a L.length c] w fun v w'=>v=.tuple #[entV i ((S.gens[i]).1+1),.nilIface]∧∃L':List Part,L'.Perm L∧L'.Pairwise (fun x y=>x.comp≤y.comp) ∧
   c7 o w b (mB S (maskP L) i ((S.gens[i]).1+1) L' h.tle (S.gens.set i ((S.gens[i]).1+1,true)) (S.free.take K)) w':=by
 have hg16:=h.good.1;have hmlt:=qN S.cs hg16 L hf;have hp16:2^S.cs.length≤2^16:=Nat.pow_le_pow_right (by omega) hg16;refine JO ?_;unfold RP;refine ar fun w2 hm2 hs2 hb2=>?_;have hP2:=h.cut hm2;have hcutn:∀k,w.heap.size≤k→dm o w.heap.size k=none:=fun k hk=>eM hk;have hDo0:dm o w.heap.size 19=none:=by
  unfold dm; split
  ·exact hDo
  ·rfl
 rw[ptrV];rw[aJ t7];refine ac ?_;refine az rfl ?_;unfold Gq;refine ab (mA hP2 (hs.same hm2) (by omega) hf hnt) ?_;rintro v w12 ⟨sv,L',rfl,hL1,hL2,hL3,h12,hf12⟩;have m12:=hm2.trans h12;have hP12:=hP2.same h12;have hb12:=h12.get hb2 (fun h=>h);refine ak rfl ?_;refine ak rfl ?_;refine ak rfl ?_;rw[aV bU];refine ac ?_;refine az rfl ?_;unfold Gp;have hh12:=hP12.here;rw[ptrV]at hh12;refine aq ?_;refine aa ?_;refine aj hh12 rfl ?_;refine ab (sk hP12.roll hK hi hlt hg) ?_;rintro v w24 ⟨rfl,hR24,hm24⟩;have hP24:=hP12.setRoll (bN.refl _ _) hm24 hR24;have hb24:=hm24.get hb12 (fun e=>by have:=e.cut.2; omega);have hsz12:w.heap.size+1≤w12.heap.size:=by have:=h12.size; omega
 refine ak rfl ?_;refine ak rfl ?_;refine ar fun w28 h28 hs28 hb28=>?_;refine aQ (vs:=[.int .i64 i,.int .i64 ((S.gens[i]).1+1)]) hb28 rfl rfl rfl (by simp) (by simp) fun w29 h29 hs29 hb29=>?_;have hb29:aX w29 w24.heap.size=some (.cells #[.int .i64 i,.int .i64 ((S.gens[i]).1+1)] 157):=hb29;have m29:Same w24 w29:=h28.trans' (h29.mono fun k _ e=>.inr (by omega));rw[aV bU];refine ac ?_;refine az rfl ?_;unfold Gn;have hP29:=hP24.same m29;have hh29:=hP29.here;rw[ptrV]at hh29;have hc29:dm o w.heap.size w24.heap.size=none:=hcutn _ (by have:=hm24.size; omega);refine aq ?_;refine aa ?_;refine aj hh29 rfl ?_;refine ab (DH hP29.atlas (maskP L) hmlt (by show S.masks.length<100000; omega)) ?_;rintro v w40 ⟨rfl,o3,hl3,hA3,hm40⟩;have hP40:=hP29.setAtlas (m:=maskP L) (by show S.masks.length<90000; omega) hl3 hm40 hA3;have hb40:=hm40.get (m29.get hb24 (fun h=>h)) (fun e=>by have:=e.cut.2; omega);have he40:=hm40.get hb29 (fun e=>by obtain⟨t,e1,_⟩:=e; rw[hc29]at e1; cases e1);refine ak rfl ?_;refine ak rfl ?_;rw[aV bU];refine ac ?_;refine az rfl ?_;unfold Gm;have hsz24:=hm24.size;have hsz29:=m29.size;have hsz40:=hm40.size;have hP40c:=hP40.frame (aH.refl (fun _=>False) _) (fun _ _ _ h=>h) (bN.cut w40 o3);have hD40:fM w40:=by
  have d12:=hD.same m12;have d24:=d12.mod hm24 fun⟨t,e1,_⟩=>by rw[hDo0]at e1; cases e1
  exact(d24.same m29).mod hm40 fun⟨t,e1,_⟩=>by rw[hDo0]at e1; cases e1
 have hDlt:=hD.lt;have hDo3:dm o3 w40.heap.size 19=none:=by
  unfold dm;rw[if_pos (by have:=hm2.size; omega),hl3 _ (by have:=hm2.size; omega)];exact hDo0
 refine ab (n9 hD40 hP40c hDo3) ?_;rintro v w51 ⟨rfl,o4,p4,hl4,hP51,hm51,hc51⟩;rw[aV bU];refine ac ?_;refine az rfl ?_;generalize hn:(de S.masks (maskP L)).idxOf (maskP L)=n at *;have hnl:n<(laidS (gK S (S.gens.set i ((S.gens[i]).1+1,true)) (S.free.take K)) (maskP L)).tabs.length:=by
  have e:=i6 (S:=gK S (S.gens.set i ((S.gens[i]).1+1,true)) (S.free.take K)) h.tle (maskP L);rw[e,←hn]; exact fD _ _
 have hP51:bF o4 w51 b p4 (laidS (gK S (S.gens.set i ((S.gens[i]).1+1,true)) (S.free.take K)) (maskP L)):=hP51;have hsz51:=hm51.size;have hsz2:=hm2.size;have hunl:∀k,w.heap.size≤k→k<w29.heap.size→dm o w.heap.size k=none∧dm o3 w40.heap.size k=none∧o4 k=none:=fun k h1 h2=>by
  have e1:=hcutn k h1;have e2:dm o3 w40.heap.size k=none:=by
   unfold dm;rw[if_pos (by omega),hl3 k h2];exact e1
  exact⟨e1,e2,by rw[hl4 k (by omega)]; exact e2⟩
 have he51:=hm51.get he40 (fun⟨t,e1,_⟩=>by rw[(hunl _ (by omega) (by omega)).2.1]at e1; cases e1);have hr51:=hm51.get hb40 (fun⟨t,e1,_⟩=>by rw[(hunl _ (by omega) (by omega)).2.1]at e1; cases e1);have hsv51:bV w51 sv 6 (L'.flatMap Part.cells):=by
  have hvl:∀k,bf sv k→k<w12.heap.size:=fun k hk=>hL3.vblk_lt hk;have g1:=hL3.mod hm24 fun k hk ⟨t,e1,_⟩=>by rw[hcutn k (by have:=hf12 k hk; omega)]at e1; cases e1
  have g2:=(g1.same m29).mod hm40 fun k hk ⟨t,e1,_⟩=>by rw[hcutn k (by have:=hf12 k hk; omega)]at e1; cases e1
  exact g2.mod hm51 fun k hk ⟨t,e1,_⟩=>by rw[(hunl k (by have:=hf12 k hk; omega) (by have:=hvl k hk; omega)).2.1]at e1; cases e1
 have hvl:∀k,bf sv k→k<w12.heap.size:=fun k hk=>hL3.vblk_lt hk;obtain⟨sa,sn,sc,rfl,hsl,_⟩:=hsv51.is;have hsn:sn=L'.length:=by
  have:=hsl.1;rw[flat_len Part.cells 6 (fun _=>rfl)]at this;omega
 subst hsn;have hLl:L'.length=L.length:=hL1.length_eq;unfold Gl;refine au he51 rfl (by omega) ?_;refine ah rfl ?_;refine au he51 rfl (by omega) ?_;refine ah rfl ?_;refine ab (qP (hP51.same (aH.refl (fun _=>False) _).drew) hnl (show i<S.spots.length from hisp) ((S.gens[i]).1+1) (hsl.same (aH.refl (fun _=>False) _).drew) (fun k f e=>(hunl k (by have:=hf12 k ⟨f,L'.length,sc,by rw[e]⟩; omega) (by have:=hvl k ⟨f,L'.length,sc,by rw[e]⟩; omega)).2.2) (by omega) (fun q hq=>hf q (hL1.mem_iff.1 hq)) ?_ ?_ ?_) ?_
 ·intro q hq;have hq:=hL1.mem_iff.1 hq;obtain⟨d,e1,e2,_⟩:=hf q hq;refine⟨d,e1,?_⟩;show d∈bq (de S.masks (maskP L)) n;unfold bq;rw[←hn,qQ];exact fQ.2 ⟨by omega,(eO S.cs hg16 L hf d).2 ⟨q,hq,e1⟩⟩
 ·intro d hd;have:=((Kq.laid (S:=gK S (S.gens.set i ((S.gens[i]).1+1,true)) (S.free.take K)) hB h.tle (maskP L)) n _ (List.getElem?_eq_getElem hnl)).2 d hd;omega
 ·have:=((Kq.laid (S:=gK S (S.gens.set i ((S.gens[i]).1+1,true)) (S.free.take K)) hB h.tle (maskP L)) n _ (List.getElem?_eq_getElem hnl)).1;omega
 rintro v w60 ⟨rfl,h60⟩;obtain⟨o5,p5,hl5,hP5,hm5,hc5⟩:=id h60;have ms:Same w51 w51.drew:=(aH.refl (fun _=>False) _).drew;have he60:=hm5.get (ms.get he51 (fun h=>h)) (fun⟨t,e1,_⟩=>by rw[(hunl _ (by omega) (by omega)).2.2]at e1; cases e1);have hr60:=hm5.get (ms.get hr51 (fun h=>h)) (fun⟨t,e1,_⟩=>by rw[(hunl _ (by omega) (by omega)).2.2]at e1; cases e1);refine ah (au he60 rfl (by omega) ⟨rfl,rfl⟩) ?_;refine aQ (vs:=[.int .i64 i,.int .i64 ((S.gens[i]).1+1)]) hr60 rfl rfl rfl (by simp) (by simp) fun w61 h61 hs61 hb61=>?_;have hb61:aX w61 w.heap.size=some (.cells #[.int .i64 i,.int .i64 ((S.gens[i]).1+1)] 157):=hb61;refine au hb61 rfl (by omega) ?_;refine⟨rfl,L',hL1,hL2,?_⟩;refine c7.wrap hm2 ?_ (h61.mono fun k _ e=>by subst e; omega);refine c7.seq (o1:=dm o w.heap.size) (w1:=w24) (bN.refl _ _) ((aH.of_same h12).trans (hm24.mono fun k _ hk=>FP.mono (fun _ _=>trivial) hk)) m29 ?_;refine c7.seq (o1:=dm o3 w40.heap.size) (w1:=w40) (hl3.trans (bN.cut _ _) hm40.size) (hm40.mono fun k _ hk=>FP.mono (fun _ _=>trivial) hk) (aH.refl _ _) ?_;refine c7.seq (o1:=o4) (w1:=w51) hl4 (hm51.mono fun k _ hk=>FP.mono (fun _ _=>trivial) hk) ms ?_;have h60:c7 o4 w51.drew b _ w60:=h60;unfold mB;simp only[hn];exact h60
theorem D2:appT Tryz.prog 90 6 48=true:=by kernel_rfl
def partAt (T:e8) (r c:Nat):Part:=((T.col c)[r]?).getD ⟨0,0,0,0,0,0⟩
def seenL (comps seen:List Nat):List Nat:=seen.map fun i=>comps.getD i 0
theorem sE (comps seen:List Nat) (i:Nat) (h:i<comps.length):seenL comps (seen++[i])=seenL comps seen++[comps[i]]:=by
 simp[seenL,List.getElem?_eq_getElem h]
theorem sF {comps seen:List Nat} (hn:seen.Nodup) (hs:∀i∈seen,i<comps.length) (ha:∀i,i<comps.length→i∈seen):(seenL comps seen).Perm comps:=by
 have hp:seen.Perm (List.range comps.length):=(List.perm_ext_iff_of_nodup hn List.nodup_range).2 fun a=>⟨fun h=>by simpa using hs a h,fun h=>ha a (by simpa using h)⟩
 have h2:=hp.map (fun i=>comps.getD i 0);have e:(List.range comps.length).map (fun i=>comps.getD i 0)=comps:=by
  apply List.ext_getElem
  ·simp
  ·intro i h1 h2;simp[List.getElem?_eq_getElem h2]
 rw[e]at h2;exact h2
theorem j0 (m:Nat):(listF m).Pairwise (fun a b=>a<b):=List.Pairwise.filter _ List.pairwise_lt_range
theorem jj (ms:List Nat) (n:Nat):(bq ms n).Pairwise (fun a b=>a<b):=by
 unfold bq;split
 ·exact j0 _
 ·exact .nil
theorem po (ms:List Nat) (n:Nat):(bq ms n).Nodup:=(jj ms n).imp (fun h=>by omega)
theorem qS {comps:List Nat} (hc:comps.Pairwise (fun a b=>a<b)) {f:Nat→Part} (hf:∀c∈comps,(f c).comp=(c:Int)) {L l:List Part} (hl:l.Perm (comps.map f)) (hL:L.Perm l) (hs:L.Pairwise (fun x y=>x.comp≤y.comp)):L=comps.map f:=by
 refine List.Perm.eq_of_pairwise (le:=fun x y:Part=>x.comp≤y.comp) ?_ hs ?_ (hL.trans hl)
 ·intro a b ha hb h1 h2;have ha:=(hL.trans hl).mem_iff.1 ha;obtain⟨c,hcm,rfl⟩:=List.mem_map.1 ha;obtain⟨d,hdm,rfl⟩:=List.mem_map.1 hb;have e1:=hf c hcm;have e2:=hf d hdm;have:c=d:=by omega
  rw[this]
 ·rw[List.pairwise_map];refine hc.imp_of_mem fun ha hb h=>?_;have e1:=hf _ ha;have e2:=hf _ hb;omega
theorem gL {args:List Value} {K Q:Value→World→Prop} (h:af P f (args.toArray++caps) w Q) (hk:∀v w',Q v w'→K v w'):aI P (.func (.func f) #[] caps) args w K:=by
 have:af P f (#[]++args.toArray++caps) w K:=by simpa using h.mono hk
 unfold aI;exact this
theorem Kr:eP Tryz.prog 95=some (.agg #[.int .i64 0,.int .i64 0,.int .i64 0,.int .i64 0,.int .i64 0,.int .i64 0]):=by kernel_rfl
theorem elPart:Tryz.prog.underlying 90=some (.slice 95):=by kernel_rfl
end
section
structure sG (S:SM) (ex:Nat→Prop):Prop where
 gs:S.gens.length=S.spots.length
 live:∀i g,S.gens[i]?=some (g,true)→¬ex i→∃n r T,S.spots[i]?=some (n,r)∧S.tabs[n]?=some T∧T.rows[r]?=some ((i:Int),g)
 rows:∀n T r e,S.tabs[n]?=some T→T.rows[r]?=some e→∃i:Nat,e.1=(i:Int)∧¬ex i∧S.gens[i]?=some (e.2,true)∧S.spots[i]?=some (n,r)
 cols:∀n T c,S.tabs[n]?=some T→c∈bq S.masks n→(T.col c).length=T.rows.length
def WF (S:SM):Prop:=sG S fun _=>False
def partsOf (S:SM) (i:Nat):List Part:=match S.spots[i]? with
 | some (n,r)=>match S.tabs[n]? with
  | some T=>(bq S.masks n).map (partAt T r)
  | none=>[]
 | none=>[]
theorem cT {S:SM} {i n r:Nat} {T:e8} (h:S.spots[i]?=some (n,r)) (hT:S.tabs[n]?=some T):partsOf S i=(bq S.masks n).map (partAt T r):=by
 unfold partsOf; simp[h,hT]
theorem sG.rows_le {S:SM} {ex:Nat→Prop} (h:sG S ex) {n:Nat} {T:e8} (hT:S.tabs[n]?=some T):T.rows.length≤S.spots.length:=by
 have hnd:((List.range T.rows.length).map fun r=>((T.rows[r]?).getD (0,0)).1.toNat).Nodup:=by
  unfold List.Nodup;rw[List.pairwise_map];refine List.nodup_range.imp_of_mem fun {a b} ha hb hab e=>?_;have ha:a<T.rows.length:=by simpa using ha
  have hb:b<T.rows.length:=by simpa using hb
  obtain⟨i,e1,_,_,s1⟩:=h.rows n T a _ hT (List.getElem?_eq_getElem ha);obtain⟨j,e2,_,_,s2⟩:=h.rows n T b _ hT (List.getElem?_eq_getElem hb);simp only[List.getElem?_eq_getElem ha,List.getElem?_eq_getElem hb,Option.getD_some,e1,e2,Int.toNat_natCast]at e;subst e;rw[s1]at s2;cases s2;exact hab rfl
 have:=List.Nodup.length_le_of_subset hnd (l₂:=List.range S.spots.length) (fun x hx=>by
  obtain⟨r,hr,rfl⟩:=List.mem_map.1 hx;have hr:r<T.rows.length:=by simpa using hr
  obtain⟨i,e1,_,_,s1⟩:=h.rows n T r _ hT (List.getElem?_eq_getElem hr);simp only[List.getElem?_eq_getElem hr,Option.getD_some,e1,Int.toNat_natCast];simpa using (List.getElem?_eq_some_iff.1 s1).1)
 simpa using this
end
end Go.Proofs.YtcmijampbjcbgaaGreatDoor
