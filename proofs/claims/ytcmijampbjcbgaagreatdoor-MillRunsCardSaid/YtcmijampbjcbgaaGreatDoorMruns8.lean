/-
Lemmas for the statements of this seat: no statement of the seat is proved in this part (8 of 8); the conditions stand in each theorem.
-/
import Derived.Test.YtcmijampbjcbgaaGreatDoorMruns7
import Derived.Test.YtcmijampbjcbgaaGreatDoorChecked
set_option autoImplicit true
set_option relaxedAutoImplicit true
set_option linter.unusedSimpArgs false
set_option linter.unusedVariables false
set_option maxRecDepth 100000
namespace Go.Proofs.YtcmijampbjcbgaaGreatDoor
open Go Go.Ev
section
attribute [local irreducible] kO kB bG bH kN kG aA ai aw aB bj knew bB aP ay aE bk aD aU bC bD a8 kbool kint kstr keq kun ksl bz cQ kta kmk kmm ksem ksemU bd aI aL ae kL
theorem uU {σ:Type} {W:WM σ} {s:σ} {x:IN} (hn:¬du x.op):(bW W h).rd s x=none:=by
 unfold du at hn;show(if x.op=1 then _ else _)=_;iterate 7 rw[if_neg (by omega)]
theorem wO {σ:Type} (H:dE σ) (m:MS σ) {x:IN} (a:List Int) (h:x.op=0∨x.op=3∨x.op=35∨x.op=21∨x.op=20):(ko H m x a).h=m.h∧(ko H m x a).st=m.st:=by
 unfold ko;iterate 6 rw[if_neg (by omega)]
 refine aG (P:=fun z:MS σ=>z.h=m.h∧z.st=m.st) (fun _=>⟨rfl,rfl⟩) (fun n0=>?_);refine aG (P:=fun z:MS σ=>z.h=m.h∧z.st=m.st) (fun _=>⟨rfl,rfl⟩) (fun n3=>?_);refine aG (P:=fun z:MS σ=>z.h=m.h∧z.st=m.st) (fun _=>⟨rfl,rfl⟩) (fun n35=>?_);refine aG (P:=fun z:MS σ=>z.h=m.h∧z.st=m.st) (fun _=>aG (P:=fun z:MS σ=>z.h=m.h∧z.st=m.st) (fun _=>⟨rfl,rfl⟩) (fun _=>⟨rfl,rfl⟩)) (fun n21=>?_);rw[if_pos (by omega)];exact⟨rfl,rfl⟩
def eC (c:RC) (many:Nat) (fr nx:Int) (U Uu:Nat→Prop) (w:World) (m z:MS LS):PQ:=fun v w' =>
 ∃U' Uu' da dc,∃ns:List Int,v=.slice da ns.length dc∧aZ w' da ns.length 1 (ns.map nV)∧(∀k f,da=some ⟨k,f,none⟩→w.heap.size≤k∧¬U' k∧¬Uu' k)∧fJ c.og many fr nx c.bv c.bu U' Uu' w' z.h∧z.st=m.st++ns∧ns.length≤3 ∧
  (∀k,U' k→U k∨w.heap.size≤k)∧(∀k,Uu' k→Uu k∨w.heap.size≤k)∧aH (fun k=>k=c.bv∨k=c.bu) w w'
section
variable {c:RC} {many:Nat} {fr nx:Int} {U Uu U' Uu':Nat→Prop} {w w8 w10:World} {m z:MS LS} {x:IN}
theorem eC.lay {ns:List Int} (hI:fJ c.og many fr nx c.bv c.bu U' Uu' w8 z.h) (hU:∀k,U' k→U k∨w.heap.size≤k) (hUu:∀k,Uu' k→Uu k∨w.heap.size≤k) (m8:aH (fun k=>k=c.bv∨k=c.bu) w w8) (h10:Same w8 w10) (hb:aX w10 w8.heap.size=some (.cells (ns.map nV).toArray 3)) (hst:z.st=m.st++ns) (hl:ns.length≤3) :
  eC c many fr nx U Uu w m z (.slice (some ⟨w8.heap.size,0,none⟩) ns.length ns.length) w10:=by
 have hz:=m8.size;refine⟨U',Uu',_,_,ns,rfl,aZ.blk hb (by simp),fun k f e=>?_,hI.same h10,hst,hl,hU,hUu,m8.trans (aH.of_same h10)⟩;cases e;exact⟨hz,fun hk=>Nat.lt_irrefl _ (hI.lv _ hk),fun hk=>Nat.lt_irrefl _ (hI.lu _ hk)⟩
theorem eC.nil (hI:fJ c.og many fr nx c.bv c.bu U' Uu' w8 z.h) (hU:∀k,U' k→U k∨w.heap.size≤k) (hUu:∀k,Uu' k→Uu k∨w.heap.size≤k) (m8:aH (fun k=>k=c.bv∨k=c.bu) w w8) (hst:z.st=m.st) :
  eC c many fr nx U Uu w m z (.slice none 0 0) w8 :=
 ⟨U',Uu',none,0,[],rfl,aZ.nil _ _ _,fun k f e=>(by cases e),hI,by rw[hst,List.append_nil],by simp,hU,hUu,m8⟩
theorem Md (hr:Mv c w) (h:fJ c.og many fr nx c.bv c.bu U Uu w m.h) (hc:cI m.h.2≤5000) {hh:HC} (eh:hh.who=c.who∧hh.i0=c.i0∧hh.i1=c.i1) (hwho:bZ c.who) (hx:okIN x) (hop:0≤x.op∧x.op<36) {X Y:Int} (hX:bZ X) (hY:bZ Y) {a:List Int} (h1:takesF x.op=1→cS a 0=X) (h2':takesF x.op=2→cS a 0=Y∧cS a 1=X)
  (hz:iy (bW (cV c.wd c.og plainC.length many fr c.who) hh) m x a=z) :
  af Tryz.prog 53 #[.pointer (some ⟨c.bn,0,none⟩),.agg x.cells.toArray,nV Y,nV X] w (eC c many fr nx U Uu w m z):=by
 obtain⟨eh1,eh2,eh3⟩:=eh;have hrd:∀v,(bW (cV c.wd c.og plainC.length many fr c.who) hh).rd m.h x=some v→z=m.lays [v]:=fun v e=>by
  rw[←hz]; unfold iy; rw[e]
 have hdn:¬du x.op→z=ko (bW (cV c.wd c.og plainC.length many fr c.who) hh) m x a:=fun e=>by
  rw[←hz]; unfold iy; rw[uU e]
 have er:(bW (cV c.wd c.og plainC.length many fr c.who) hh).rd m.h x=if x.op=1 then some x.a else if x.op=22 then some (iW ((cV c.wd c.og plainC.length many fr c.who).get m.h x.a) x.b) else if x.op=24 then some (fe ((cV c.wd c.og plainC.length many fr c.who).get m.h x.a).isSome) else if x.op=25 then some (nG hh x.a) else if x.op=26 then some (((cV c.wd c.og plainC.length many fr c.who).res m.h x.a).getD 0) else if x.op=29 then some hh.who else if x.op=30 then some ((cV c.wd c.og plainC.length many fr c.who).fr m.h) else none:=rfl
 rw[er]at hrd;clear er hz;have hbvl:=h.lv _ h.v.own;have hbul:=h.lu _ h.u.own;refine LT ?_;unfold Su;refine ar fun w2 h2 hs2 hb2=>?_;have hb2:aX w2 w.heap.size=some (.cells x.cells.toArray 80):=hb2;have hI2:=h.same h2;have hr2:=hr.same h2;have m2:aH (fun k=>k=c.bv∨k=c.bu) w w2:=aH.of_same h2;have hz2:=h2.size;have lay:∀{w8 w10:World} {ns:List Int},Same w w8→Same w8 w10→aX w10 w8.heap.size=some (.cells (ns.map nV).toArray 3)→ns.length≤3→z=m.lays ns→eC c many fr nx U Uu w m z (.slice (some ⟨w8.heap.size,0,none⟩) ns.length ns.length) w10:=by
  intro w8 w10 ns s8 s10 hb hl ez;subst ez;exact eC.lay (h.same s8) (fun k hk=>.inl hk) (fun k hk=>.inl hk) (aH.of_same s8) s10 hb rfl hl
 have after:∀{w8:World},aX w8 w.heap.size=some (.cells x.cells.toArray 80)→(x.op<6∨18<x.op∨x.op=11)→eC c many fr nx U Uu w m z (.slice none 0 0) w8→fL (nV Y) (nV X) (.pointer (some ⟨w.heap.size,0,none⟩)) (eC c many fr nx U Uu w m z) w8:=by
  intro w8 hb8 ho hQ;have f3:oA (nV Y) (nV X) (.pointer (some ⟨w.heap.size,0,none⟩)) (.bool false) (eC c many fr nx U Uu w m z) w8:=by
   unfold oA;refine ac ?_;refine az rfl ?_;unfold H5;exact hQ
  unfold fL;refine aa ?_;refine ao (v:=.int .i64 x.op) hb8 rfl ?_;refine bI ?_;refine ac ?_;refine am (fun h6=>?_) (fun h6=>f3);refine aa ?_;refine ao (v:=.int .i64 x.op) hb8 rfl ?_;refine db ?_;refine ac ?_;refine am (fun h18=>?_) (fun h18=>f3);refine aa ?_;refine ao (v:=.int .i64 x.op) hb8 rfl ?_;refine cu ?_;rw[bT (by omega)];exact f3
 have none2:(x.op<6∨18<x.op∨x.op=11)→z.h=m.h→z.st=m.st→fL (nV Y) (nV X) (.pointer (some ⟨w.heap.size,0,none⟩)) (eC c many fr nx U Uu w m z) w2:=fun ho e1 e2 =>
  after hb2 ho (eC.nil (U':=U) (Uu':=Uu) (by rw[e1]; exact hI2) (fun k hk=>.inl hk) (fun k hk=>.inl hk) m2 e2)
 have wrote:∀{wd w6:World} {U' Uu':Nat→Prop},Same w wd→aX wd w.heap.size=some (.cells x.cells.toArray 80)→fJ c.og many fr nx c.bv c.bu U' Uu' w6 z.h→(∀k,U' k→cX wd w6 U k)→(∀k,Uu' k→cX wd w6 Uu k)→aH (fun k=>k=c.bv∨k=c.bu) wd w6→z.st=m.st→18<x.op→fL (nV Y) (nV X) (.pointer (some ⟨w.heap.size,0,none⟩)) (eC c many fr nx U Uu w m z) w6:=by
  intro wd w6 U' Uu' sd hbx hI hU hUu hm e2 ho;have hzd:=sd.size;refine after (hm.get hbx (by omega)) (.inr (.inl ho)) (eC.nil hI (fun k hk=>(hU k hk).imp id fun e=>by omega) (fun k hk=>(hUu k hk).imp id fun e=>by omega) ((aH.of_same sd).trans hm) e2)
 have ewr:∀n,(bW (cV c.wd c.og plainC.length many fr c.who) hh).wr m.h x n=if x.op=23 then(cV c.wd c.og plainC.length many fr c.who).set m.h x.a x.b n else if x.op=27 then(cV c.wd c.og plainC.length many fr c.who).asg m.h x.a n else(m.h.1,cJ c.og plainC.length many m.h.2 (eu hh x)):=fun _=>rfl
 have hmd:∀{wd w6:World},aH (fun k=>k=c.bv) wd w6→aH (fun k=>k=c.bv∨k=c.bu) wd w6:=fun hm=>hm.mono fun k _ e=>.inl e;have hokO:(eu hh x).ok:=pM (by rw[eh1]; exact hwho) hx;refine aa ?_;refine ao (v:=.int .i64 x.op) hb2 rfl ?_;refine aF ?_;refine ac ?_;refine am (fun ho=>?_) (fun n1=>?_)
 ·refine aa ?_;refine ao (v:=nV x.a) hb2 rfl ?_;refine aR (cs:=[nV x.a]) rfl fun w9 h9 hs9 hb9=>?_;exact lay (ns:=[x.a]) h2 h9 hb9 (by simp) (hrd _ (by rw[if_pos ho]))
 refine aF ?_;refine ac ?_;refine am (fun ho=>?_) (fun n2=>?_)
 ·have ez:z=m.lays [X,X]:=by
   rw[hdn (by unfold du; omega)]; unfold ko; rw[if_pos ho,h1 (by rw[ho]; rfl)]
  refine aR (cs:=[nV X,nV X]) rfl fun w9 h9 hs9 hb9=>?_;exact lay (ns:=[X,X]) h2 h9 hb9 (by simp) ez
 refine aF ?_;refine ac ?_;refine am (fun ho=>?_) (fun n4=>?_)
 ·obtain⟨e1,e2⟩:=h2' (by rw[ho]; rfl);have ez:z=m.lays [X,Y]:=by
   rw[hdn (by unfold du; omega)]; unfold ko; rw[if_neg n2,if_pos ho,e1,e2]
  refine aR (cs:=[nV X,nV Y]) rfl fun w9 h9 hs9 hb9=>?_;exact lay (ns:=[X,Y]) h2 h9 hb9 (by simp) ez
 refine aF ?_;refine ac ?_;refine am (fun ho=>?_) (fun n5=>?_)
 ·obtain⟨e1,e2⟩:=h2' (by rw[ho]; rfl);have ez:z=m.lays [Y,X,Y]:=by
   rw[hdn (by unfold du; omega)]; unfold ko; rw[if_neg n2,if_neg n4,if_pos ho,e1,e2]
  refine aR (cs:=[nV Y,nV X,nV Y]) rfl fun w9 h9 hs9 hb9=>?_;exact lay (ns:=[Y,X,Y]) h2 h9 hb9 (by simp) ez
 refine aF ?_;refine ac ?_;refine am (fun ho=>?_) (fun n11=>?_)
 ·have ez:z=m.lays [IntKind.i64.wrap (0-X)]:=by
   rw[hdn (by unfold du; omega)]; unfold ko; rw[if_neg n2,if_neg n4,if_neg n5,if_pos ho,h1 (by rw[ho]; rfl)]
  unfold nV;rw[jJ];refine aR (cs:=[nV (IntKind.i64.wrap (0-X))]) rfl fun w9 h9 hs9 hb9=>?_;exact lay (ns:=[IntKind.i64.wrap (0-X)]) h2 h9 hb9 (by simp) ez
 refine aF ?_;refine ac ?_;refine am (fun ho=>?_) (fun n19=>?_)
 ·have ez:z=m.lays [fe (decide (X=0))]:=by
   rw[hdn (by unfold du; omega)]; unfold ko; rw[if_neg n2,if_neg n4,if_neg n5,if_neg n11,if_pos ho,h1 (by rw[ho]; rfl)]
  unfold nV;refine aF ?_;refine ab (uS _ w2) ?_;rintro v w6 ⟨rfl,rfl⟩;refine aR (cs:=[nV (fe (decide (X=0)))]) rfl fun w9 h9 hs9 hb9=>?_;exact lay (ns:=[fe (decide (X=0))]) h2 h9 hb9 (by simp) ez
 refine aF ?_;refine ac ?_;refine am (fun ho=>?_) (fun n22=>?_)
 ·rw[if_neg n1,if_pos ho]at hrd;have ez:=hrd _ rfl;refine aa ?_;refine ao (v:=nV x.a) hb2 rfl ?_;refine ab (It (n:=plainC.length) (most:=many) hr2 hI2 x.a) ?_;rintro v w6 ⟨⟨q,rfl,hq⟩,h6⟩;refine ak rfl ?_;refine ak rfl ?_;refine ar fun w7 h7 hs7 hb7=>?_;refine aQ (vs:=q.cells) hb7 rfl rfl rfl (by simp) (by simp[Part.cells]) fun w8 h8 hs8 hb8=>?_;have hb8:aX w8 w6.heap.size=some (.cells q.cells.toArray 95):=hb8;have m28:Same w2 w8:=h6.trans (h7.trans' (h8.mono fun k _ e=>.inr (by omega)));have m8:=h2.trans m28;have hbx8:=m28.get hb2 (fun h=>h);have zero:∀{ww:World},Same w ww→iW ((cV c.wd c.og plainC.length many fr c.who).get m.h x.a) x.b=0→oz (.pointer (some ⟨w.heap.size,0,none⟩)) (.pointer (some ⟨w6.heap.size,0,none⟩)) (.bool true) (eC c many fr nx U Uu w m z) ww:=by
   intro ww hw e0;rw[e0]at ez;unfold oz;refine ac ?_;refine aN rfl ?_;refine aR (cs:=[nV 0]) rfl fun w9 h9 hs9 hb9=>?_;exact lay (ns:=[0]) hw h9 hb9 (by simp) ez
  refine bP ?_;refine ac ?_;have md:Same w8 w8.drew:=(aH.refl (fun _=>False) _).drew;rcases hq with hq | hq
  ·rw[hq];refine aN rfl ?_;have hwd:c.wd=true:=by
    cases hb:c.wd with
    | true=>rfl
    | false=>rw[hb]at hq; cases hq
   have hg:ge m.h.1 c.who x.a=some q:=by rw[hwd]at hq; exact hq
   have el:iW ((cV c.wd c.og plainC.length many fr c.who).get m.h x.a) x.b=if x.b<0∨4≤x.b then 0 else jl q x.b:=by rw[hq]; rfl
   obtain⟨y,hy,hqy⟩:=Option.bind_eq_some_iff.1 hg;have hqc:q.comp=x.a:=ja hqy;obtain⟨k,hk,hkl,hcl⟩:=h.ft y (fS hy).1 q (List.mem_of_find?_eq_some hqy);have hka:x.a=(k:Int):=by omega
   obtain⟨hw,hw4⟩:=Cs ed hkl;have m8d:=m8.trans md;have hb8d:=md.get hb8 (fun h=>h);have hbxd:=md.get hbx8 (fun h=>h);generalize w8.drew=wd at *;obtain⟨lv,pl,sv,fu,ov,hbm⟩:=hr.same m8d;obtain⟨va,cp,rv,la,lc,ga,gc,ll,hbv,⟨g2,_⟩,_⟩:=(h.same m8d).v.ex;refine aa ?_;refine ao (v:=.int .i64 x.b) hbxd rfl ?_;refine ah rfl ?_;refine aM ?_;refine ac ?_;refine cz (fun h0=>?_) (fun h0=>zero m8d (by rw[el,if_pos (.inl h0)]));refine aa ?_;refine ao (v:=.int .i64 x.b) hbxd rfl ?_;refine ah rfl ?_;refine aq ?_;refine aa ?_;refine aj (v:=.pointer (some ⟨c.bv,0,none⟩)) hbm (by show some c.wp=_; unfold RC.wp; rw[hwd]; rfl) ?_;refine ah rfl ?_;refine aq ?_;refine aa ?_;refine aa ?_;refine aj hbv rfl ?_;refine ah rfl ?_;refine aa ?_;refine ao (v:=.int .i64 x.a) hbxd rfl ?_;refine ah rfl ?_;rw[hka];refine bL (F:=Comp.cells) (sz:=7) (fun _=>rfl) (j:=1) g2 hkl rfl rfl ?_;refine ah rfl ?_;rw[hw];refine bI ?_;by_cases hge:(wdF plainC k:Int)≤x.b
   ·rw[co hge];exact zero m8d (by rw[el]; exact rH hkl hcl h0 hge)
   rw[bT hge];rw[if_neg (by omega)]at el;rw[el]at ez;unfold oz;refine ac ?_;refine az rfl ?_;unfold H4;refine aa ?_;refine ao (v:=.int .i64 x.b) hbxd rfl ?_;refine aa ?_;rw[dy];refine ah (by omega) ?_;have fin:ay [.int .i64 0] 1 [(0,1,nV (jl q x.b))] 3 wd (fun v65 w66=>eC c many fr nx U Uu w m z v65 w66):=by
    refine aR (cs:=[nV (jl q x.b)]) rfl fun w9 h9 hs9 hb9=>?_;exact lay (ns:=[jl q x.b]) m8d h9 hb9 (by simp) ez
   have hi4:x.b=0∨x.b=1∨x.b=2∨x.b=3:=by omega
   unfold jl at fin;rcases hi4 with e | e | e | e<;>rw[e]at fin ⊢<;>exact aj hb8d rfl fin
  ·rw[hq];refine az rfl ?_;exact zero (m8.trans md) (by rw[hq]; rfl)
 refine aF ?_;refine ac ?_;refine am (fun ho=>?_) (fun n23=>?_)
 ·have ez:z=m.hosts ((cV c.wd c.og plainC.length many fr c.who).set m.h x.a x.b X):=by
   rw[hdn (by unfold du; omega)]; unfold ko; iterate 11 rw[if_neg (by omega)]
   rw[if_pos ho,h1 (by rw[ho]; rfl),ewr,if_pos ho]
  obtain⟨lv,pl,sv,fu,ov,hb⟩:=hr2;refine aq ?_;refine aa ?_;refine aj (v:=c.wp) hb rfl ?_;unfold RC.wp;rw[eU nk];refine ac ?_;by_cases hw:c.wd=true
  ·have ez:z=m.hosts (gf plainC fr m.h.1 c.who x.a x.b X,m.h.2):=by rw[ez,hw]; rfl
   subst ez;rw[hw];refine aN rfl ?_;have md:Same w2 w2.drew:=(aH.refl (fun _=>False) _).drew;have hbd:=md.get hb (fun h=>h);have hb2:=md.get hb2 (fun h=>h);have md2:=h2.trans md;have hId:=h.same md2;clear none2;generalize w2.drew=wd at *;refine aq ?_;refine aa ?_;refine aj (v:=.pointer (some ⟨c.bv,0,none⟩)) hbd (by show some c.wp=_; unfold RC.wp; rw[hw]; rfl) ?_;refine ah rfl ?_;refine aq ?_;refine aa ?_;refine aj (v:=.int .i64 c.who) hbd rfl ?_;refine ah rfl ?_;refine aa ?_;refine ao (v:=.int .i64 x.a) hb2 rfl ?_;refine ah rfl ?_;refine aa ?_;refine ao (v:=.int .i64 x.b) hb2 rfl ?_;refine ah rfl ?_;refine ab (QY hId c.who x.a x.b X) ?_;rintro v w6 ⟨hI6,hm6⟩;exact wrote md2 hb2 hI6 (fun k hk=>hk) (fun k hk=>.inl hk) (hmd hm6) rfl (by omega)
  ·have hw:c.wd=false:=by simpa using hw
   have ez:z=m:=by rw[ez,hw]; rfl
   subst ez;rw[hw];refine az rfl ?_;exact none2 (by omega) rfl rfl
 refine aF ?_;refine ac ?_;refine am (fun ho=>?_) (fun n24=>?_)
 ·rw[if_neg n1,if_neg n22,if_pos ho]at hrd;have ez:=hrd _ rfl;refine aa ?_;refine ao (v:=nV x.a) hb2 rfl ?_;refine ab (It (n:=plainC.length) (most:=many) hr2 hI2 x.a) ?_;rintro v w6 ⟨⟨q,rfl,hq⟩,h6⟩;refine ak rfl ?_;refine ak rfl ?_;refine ar fun w7 h7 hs7 hb7=>?_;refine aQ (vs:=q.cells) hb7 rfl rfl rfl (by simp) (by simp[Part.cells]) fun w8 h8 hs8 hb8=>?_;have m28:Same w2 w8:=h6.trans (h7.trans' (h8.mono fun k _ e=>.inr (by omega)));have m8:=h2.trans m28;refine ab (uS _ w8) ?_;rintro v w6 ⟨rfl,rfl⟩;refine aR (cs:=[nV _]) rfl fun w9 h9 hs9 hb9=>?_;exact lay (ns:=[_]) m8 h9 hb9 (by simp) ez
 refine aF ?_;refine ac ?_;refine am (fun ho=>?_) (fun n25=>?_)
 ·rw[if_neg n1,if_neg n22,if_neg n24,if_pos ho]at hrd;have ez:=hrd _ rfl;unfold nG at ez;rw[eh2,eh3]at ez;have zero:x.a<0∨2≤x.a→rB (.pointer (some ⟨c.bn,0,none⟩)) (.pointer (some ⟨w.heap.size,0,none⟩)) (.bool true) (eC c many fr nx U Uu w m z) w2:=by
   intro e0;rw[if_pos e0]at ez;unfold rB;refine ac ?_;refine aN rfl ?_;refine aR (cs:=[nV 0]) rfl fun w9 h9 hs9 hb9=>?_;exact lay (ns:=[0]) h2 h9 hb9 (by simp) ez
  refine aa ?_;refine ao (v:=.int .i64 x.a) hb2 rfl ?_;refine aM ?_;refine ac ?_;refine cz (fun h0=>?_) (fun h0=>zero (.inl h0));refine aa ?_;refine ao (v:=.int .i64 x.a) hb2 rfl ?_;refine bO ?_;by_cases h1':x.a>1
  ·rw[co h1']; exact zero (.inr (by omega))
  rw[bT h1'];rw[if_neg (by omega)]at ez;unfold rB;refine ac ?_;refine az rfl ?_;have md:Same w2 w2.drew:=(aH.refl (fun _=>False) _).drew;have md2:=h2.trans md;obtain⟨lv,pl,sv,fu,ov,hb⟩:=hr2.same md;have hb2d:=md.get hb2 (fun h=>h);unfold H6;clear none2;generalize w2.drew=wd at *;refine aa ?_;refine ao (v:=.int .i64 x.a) hb2d rfl ?_;refine ah rfl ?_;refine aq ?_;refine aa ?_;rw[dy];refine ah (by omega) ?_;have fin:∀n:Int,z=m.lays [n]→kG (wd=wd) (ay [.int .i64 0] 1 [(0,1,nV n)] 3 wd (fun v65 w66=>eC c many fr nx U Uu w m z v65 w66)):=by
   intro n ez;refine ah rfl ?_;refine aR (cs:=[nV n]) rfl fun w9 h9 hs9 hb9=>?_;exact lay (ns:=[n]) md2 h9 hb9 (by simp) ez
  have hi2:x.a=0∨x.a=1:=by omega
  rcases hi2 with e | e
  ·rw[if_pos e]at ez;rw[e];exact aj hb rfl (fin _ ez)
  ·rw[if_neg (by omega)]at ez;rw[e];exact aj hb rfl (fin _ ez)
 refine aF ?_;refine ac ?_;refine am (fun ho=>?_) (fun n26=>?_)
 ·rw[if_neg n1,if_neg n22,if_neg n24,if_neg n25,if_pos ho]at hrd;have ez:=hrd _ rfl;have md:Same w2 w2.drew:=(aH.refl (fun _=>False) _).drew;have md2:=h2.trans md;obtain⟨lv,pl,sv,fu,ov,hb⟩:=hr2.same md;have hb2d:=md.get hb2 (fun h=>h);clear none2;generalize w2.drew=wd at *;have hId:=h.same md2;have zero:((cV c.wd c.og plainC.length many fr c.who).res m.h x.a).getD 0=0→oB (.pointer (some ⟨c.bn,0,none⟩)) (.pointer (some ⟨w.heap.size,0,none⟩)) (.bool true) (eC c many fr nx U Uu w m z) wd:=by
   intro e0;rw[e0]at ez;unfold oB;refine ac ?_;refine aN rfl ?_;refine aR (cs:=[nV 0]) rfl fun w9 h9 hs9 hb9=>?_;exact lay (ns:=[0]) md2 h9 hb9 (by simp) ez
  refine aq ?_;refine aa ?_;refine aj (v:=c.wp) hb rfl ?_;refine ah rfl ?_;unfold RC.wp;rw[aJ nk];refine ah rfl ?_;refine ac ?_;by_cases hw:c.wd=true
  ·rw[hw]at zero ez ⊢;refine aN rfl ?_;have eres:(cV true c.og plainC.length many fr c.who).res m.h x.a=if x.a<0∨(m.h.2.R.length:Int)≤x.a then none else m.h.2.R[x.a.toNat]?:=rfl
   rw[eres]at zero ez;obtain⟨va,cp,rv,la,lc,ga,gc,ll,hbv,⟨_,_,_,g5⟩,_⟩:=hId.v.ex;refine aa ?_;refine ao (v:=.int .i64 x.a) hb2d rfl ?_;refine ah rfl ?_;refine aM ?_;refine ac ?_;refine cz (fun h0=>?_) (fun h0=>zero (by rw[if_pos (.inl h0)]; rfl));refine aa ?_;refine ao (v:=.int .i64 x.a) hb2d rfl ?_;refine ah rfl ?_;refine aq ?_;refine aa ?_;refine aj (v:=.pointer (some ⟨c.bv,0,none⟩)) hb (by show some c.wp=_; unfold RC.wp; rw[hw]; rfl) ?_;refine ah rfl ?_;refine aq ?_;refine aa ?_;refine aj hbv rfl ?_;refine ah rfl ?_;refine aK ?_;refine bI ?_;by_cases hge:(m.h.2.R.length:Int)≤x.a
   ·rw[co hge]; exact zero (by rw[if_pos (.inr hge)]; rfl)
   rw[bT hge];rw[if_neg (by omega)]at ez;obtain⟨k,hk⟩:∃k:Nat,x.a=(k:Int):=⟨x.a.toNat,by omega⟩
   have hkl:k<m.h.2.R.length:=by omega
   rw[hk,Int.toNat_natCast,List.getElem?_eq_getElem hkl]at ez;have ez:z=m.lays [m.h.2.R[k]]:=ez;unfold oB;refine ac ?_;refine az rfl ?_;unfold H7;have md':Same wd wd.drew:=(aH.refl (fun _=>False) _).drew;have hb:=md'.get hb (fun h=>h);have hb2d:=md'.get hb2d (fun h=>h);have hbv:=md'.get hbv (fun h=>h);have g5:=g5.same md';have md3:=md2.trans md';clear hId zero;generalize wd.drew=we at *;refine aq ?_;refine aa ?_;refine aj (v:=.pointer (some ⟨c.bv,0,none⟩)) hb (by show some c.wp=_; unfold RC.wp; rw[hw]; rfl) ?_;refine ah rfl ?_;refine aq ?_;refine aa ?_;refine aj hbv rfl ?_;refine ah rfl ?_;refine aa ?_;refine ao (v:=.int .i64 x.a) hb2d rfl ?_;refine ah rfl ?_;rw[hk];refine cF (F:=nV) g5 hkl rfl ?_;refine ah rfl ?_;refine aR (cs:=[nV m.h.2.R[k]]) rfl fun w9 h9 hs9 hb9=>?_;exact lay (ns:=[m.h.2.R[k]]) md3 h9 hb9 (by simp) ez
  ·have hw:c.wd=false:=by simpa using hw
   rw[hw]at zero ⊢;refine az rfl ?_;exact zero rfl
 refine aF ?_;refine ac ?_;refine am (fun ho=>?_) (fun n27=>?_)
 ·have ez:z=m.hosts ((cV c.wd c.og plainC.length many fr c.who).asg m.h x.a X):=by
   rw[hdn (by unfold du; omega)]; unfold ko; iterate 12 rw[if_neg (by omega)]
   rw[if_pos ho,h1 (by rw[ho]; rfl),ewr,if_neg (by omega),if_pos ho]
  obtain⟨lv,pl,sv,fu,ov,hb⟩:=hr2;refine aq ?_;refine aa ?_;refine aj (v:=c.wp) hb rfl ?_;unfold RC.wp;rw[eU nk];refine ac ?_;by_cases hw:c.wd=true
  ·have ez:z=m.hosts (m.h.1,{ m.h.2 with R:=gO m.h.2.R x.a X }):=by rw[ez,hw]; rfl
   subst ez;rw[hw];refine aN rfl ?_;have md:Same w2 w2.drew:=(aH.refl (fun _=>False) _).drew;have hbd:=md.get hb (fun h=>h);have hb2:=md.get hb2 (fun h=>h);have md2:=h2.trans md;have hId:=h.same md2;clear none2;generalize w2.drew=wd at *;refine aq ?_;refine aa ?_;refine aj (v:=.pointer (some ⟨c.bv,0,none⟩)) hbd (by show some c.wp=_; unfold RC.wp; rw[hw]; rfl) ?_;refine ah rfl ?_;refine aa ?_;refine ao (v:=nV x.a) hb2 rfl ?_;refine ah rfl ?_;refine ab (QZ hId x.a X) ?_;rintro v w6 ⟨hI6,hm6⟩;exact wrote md2 hb2 hI6 (fun k hk=>hk) (fun k hk=>.inl hk) (hmd hm6) rfl (by omega)
  ·have hw:c.wd=false:=by simpa using hw
   have ez:z=m:=by rw[ez,hw]; rfl
   subst ez;rw[hw];refine az rfl ?_;exact none2 (by omega) rfl rfl
 refine aF ?_;refine ac ?_;refine am (fun ho=>?_) (fun n28=>?_)
 ·have ez:z=(m.hosts ((cV c.wd c.og plainC.length many fr c.who).dr m.h X).1).lays [((cV c.wd c.og plainC.length many fr c.who).dr m.h X).2]:=by
   rw[hdn (by unfold du; omega)]; unfold ko; iterate 5 rw[if_neg (by omega)]
   rw[if_pos ho,h1 (by rw[ho]; rfl)]; rfl
  obtain⟨lv,pl,sv,fu,ov,hb⟩:=hr2;refine aq ?_;refine aa ?_;refine aj (v:=c.wp) hb rfl ?_;unfold RC.wp;rw[aJ nk];refine ac ?_;by_cases hw:c.wd=true
  ·have ez:z=(m.hosts (m.h.1,{ m.h.2 with seed:=(d9 m.h.2.seed X).1 })).lays [(d9 m.h.2.seed X).2]:=by rw[ez,hw]; rfl
   rw[hw];refine az rfl ?_;unfold H8;refine aq ?_;refine aa ?_;refine aj (v:=.pointer (some ⟨c.bv,0,none⟩)) hb (by show some c.wp=_; unfold RC.wp; rw[hw]; rfl) ?_;refine ab (PX hI2 X hX) ?_;rintro v w6 ⟨rfl,hI6,hm6⟩;refine aR (cs:=[nV (d9 m.h.2.seed X).2]) rfl fun w9 h9 hs9 hb9=>?_;subst ez;exact eC.lay (ns:=[_]) hI6 (fun k hk=>hk.imp id fun e=>by omega) (fun k hk=>.inl hk) ((aH.of_same h2).trans (hmd hm6)) h9 hb9 rfl (by simp)
  ·have hw:c.wd=false:=by simpa using hw
   have ez:z=m.lays [0]:=by rw[ez,hw]; rfl
   rw[hw];refine aN rfl ?_;refine aR (cs:=[nV 0]) rfl fun w9 h9 hs9 hb9=>?_;exact lay (ns:=[0]) h2 h9 hb9 (by simp) ez
 refine aF ?_;refine ac ?_;refine am (fun ho=>?_) (fun n29=>?_)
 ·rw[if_neg n1,if_neg n22,if_neg n24,if_neg n25,if_neg n26,if_pos ho,eh1]at hrd;have ez:=hrd _ rfl;obtain⟨lv,pl,sv,fu,ov,hb⟩:=hr2;refine aq ?_;refine aa ?_;refine aj (v:=nV c.who) hb rfl ?_;refine aR (cs:=[nV c.who]) rfl fun w9 h9 hs9 hb9=>?_;exact lay (ns:=[c.who]) h2 h9 hb9 (by simp) ez
 refine aF ?_;refine ac ?_;refine am (fun ho=>?_) (fun n30=>?_)
 ·rw[if_neg n1,if_neg n22,if_neg n24,if_neg n25,if_neg n26,if_neg n29,if_pos ho]at hrd;have ez:=hrd _ rfl;obtain⟨lv,pl,sv,fu,ov,hb⟩:=hr2;refine aq ?_;refine aa ?_;refine aj (v:=c.wp) hb rfl ?_;unfold RC.wp;rw[aJ nk];refine ac ?_;by_cases hw:c.wd=true
  ·have ez:z=m.lays [fr]:=by rw[ez,hw]; rfl
   rw[hw];refine az rfl ?_;obtain⟨va,cp,rv,la,lc,ga,gc,ll,hbv,_⟩:=hI2.v.ex;unfold B9;refine aq ?_;refine aa ?_;refine aj (v:=.pointer (some ⟨c.bv,0,none⟩)) hb (by show some c.wp=_; unfold RC.wp; rw[hw]; rfl) ?_;refine aq ?_;refine aa ?_;refine aj (v:=nV fr) hbv rfl ?_;refine aR (cs:=[nV fr]) rfl fun w9 h9 hs9 hb9=>?_;exact lay (ns:=[fr]) h2 h9 hb9 (by simp) ez
  ·have hw:c.wd=false:=by simpa using hw
   have ez:z=m.lays [0]:=by rw[ez,hw]; rfl
   rw[hw];refine aN rfl ?_;refine aR (cs:=[nV 0]) rfl fun w9 h9 hs9 hb9=>?_;exact lay (ns:=[0]) h2 h9 hb9 (by simp) ez
 have adds:∀{wd:World},Same w wd→aX wd w.heap.size=some (.cells x.cells.toArray 80)→(x.op=31∨x.op=32∨x.op=33∨x.op=34)→ae Tryz.prog 95 #[.pointer (some ⟨c.bn,0,none⟩),(eu hh x).val] wd (fun v w'=>fL (nV Y) (nV X) (.pointer (some ⟨w.heap.size,0,none⟩)) (eC c many fr nx U Uu w m z) w'):=by
  intro wd sd hbx ho;have ez:z=m.hosts (m.h.1,cJ c.og plainC.length many m.h.2 (eu hh x)):=by
   rw[hdn (by unfold du; omega)]; unfold ko; iterate 13 rw[if_neg (by omega)]
   have e0:=ewr 0;rw[if_neg (by omega),if_neg (by omega)]at e0;rw[e0];rcases ho with ho | ho | ho | ho
   ·rw[if_pos ho]
   ·rw[if_neg (by omega),if_pos ho]
   ·rw[if_neg (by omega),if_neg (by omega),if_pos ho]
   ·rw[if_neg (by omega),if_neg (by omega),if_neg (by omega),if_pos ho]
  refine ab (Q0 (hr.same sd) (h.same sd) hc hokO) ?_;rintro v w6 ⟨hI6,hm6⟩;subst ez;exact wrote sd hbx hI6 (fun k hk=>.inl hk) (fun k hk=>hk) (hm6.mono fun k _ e=>.inr e) rfl (by omega)
 refine aF ?_;refine ac ?_;refine am (fun ho=>?_) (fun n31=>?_)
 ·have em:(.int .u32 (IntKind.u32.wrap x.a):Value)=msk (IntKind.u32.wrap x.a).toNat:=by
   have hp:0≤IntKind.u32.wrap x.a:=by show 0≤x.a%4294967296; omega
   unfold msk;rw[Int.toNat_of_nonneg hp]
  have eo:eu hh x=⟨1,0,(IntKind.u32.wrap x.a).toNat,0⟩:=by unfold eu; rw[if_pos ho]
  refine aa ?_;refine ao (v:=.int .i64 x.a) hb2 rfl ?_;rw[cD,em];refine aW (cs:=(eu hh x).cells) (by rw[eo]; rfl) ?_;exact adds h2 hb2 (.inl ho)
 refine aF ?_;refine ac ?_;refine am (fun ho=>?_) (fun n32=>?_)
 ·have eo:eu hh x=⟨2,c.who,0,0⟩:=by unfold eu; rw[if_neg n31,if_pos ho,eh1]
  obtain⟨lv,pl,sv,fu,ov,hb⟩:=hr2;refine aq ?_;refine aa ?_;refine aj (v:=nV c.who) hb rfl ?_;refine aW (cs:=(eu hh x).cells) (by rw[eo]; rfl) ?_;exact adds h2 hb2 (.inr (.inl ho))
 have two:∀n:Int,(x.op=33∧n=3∨x.op=34∧n=4)→∀{wd:World},Same w wd→aX wd w.heap.size=some (.cells x.cells.toArray 80)→(kN (.pointer (some ⟨c.bn,0,none⟩))<|ai 4 (.pointer (some ⟨c.bn,0,none⟩)) fun v225=>aw v225 wd fun v226=>kG (wd=wd)<|ai 1 (.pointer (some ⟨w.heap.size,0,none⟩)) fun v227=>aw v227 wd fun v228=>kG (wd=wd)<|aP [.int .i64 0,.int .i64 0,.int .u32 0,.int .i64 0] [(0,1,(.int .i64 n)),(1,1,v226),(3,1,v228)] fun v229=>ae Tryz.prog 95 #[.pointer (some ⟨c.bn,0,none⟩),v229] wd fun v230 w231=>fL (nV Y) (nV X) (.pointer (some ⟨w.heap.size,0,none⟩)) (eC c many fr nx U Uu w m z) w231):=by
  intro n hn wd sd hbx;have eo:eu hh x=⟨n,c.who,0,x.a⟩:=by
   unfold eu;rw[if_neg n31,if_neg n32,eh1];rcases hn with⟨h,rfl⟩ | ⟨h,rfl⟩
   ·rw[if_pos h]
   ·rw[if_neg (by omega)]
  obtain⟨lv,pl,sv,fu,ov,hb⟩:=hr.same sd;refine aq ?_;refine aa ?_;refine aj (v:=nV c.who) hb rfl ?_;refine ah rfl ?_;refine aa ?_;refine ao (v:=nV x.a) hbx rfl ?_;refine ah rfl ?_;refine aW (cs:=(eu hh x).cells) (by rw[eo]; rfl) ?_;exact adds sd hbx (by omega)
 have md:Same w2 w2.drew:=(aH.refl (fun _=>False) _).drew;refine aF ?_;refine ac ?_;refine am (fun ho=>two 3 (.inl ⟨ho,rfl⟩) (h2.trans md) (md.get hb2 fun h=>h)) (fun n33=>?_);refine aF ?_;refine ac ?_;refine am (fun ho=>two 4 (.inr ⟨ho,rfl⟩) (h2.trans md) (md.get hb2 fun h=>h)) (fun n34=>?_);by_cases hc2:6≤x.op∧x.op≤18
 ·have ez:z=m.lays [im x.op Y X]:=by
   have hall:∀n:Nat,n<36→takesF n=2∨n=0∨n=1∨n=2∨n=3∨n=11∨19≤n:=by decide
   have ht:takesF x.op=2:=by
    obtain⟨n,hn⟩:∃n:Nat,x.op=(n:Int):=⟨x.op.toNat,by omega⟩
    rcases hall n (by omega)with hh | hh
    ·rw[hn]; exact hh
    ·omega
   obtain⟨e1,e2⟩:=h2' ht;rw[hdn (by unfold du; omega)]; unfold ko; iterate 17 rw[if_neg (by omega)]
   rw[e1,e2]
  unfold fL;refine aa ?_;refine ao (v:=.int .i64 x.op) hb2 rfl ?_;refine bI ?_;refine ac ?_;refine aN (co hc2.1) ?_;refine aa ?_;refine ao (v:=.int .i64 x.op) hb2 rfl ?_;refine db ?_;refine ac ?_;refine aN (co hc2.2) ?_;refine aa ?_;refine ao (v:=.int .i64 x.op) hb2 rfl ?_;refine cu ?_;rw[co n11];unfold oA;refine ac ?_;refine aN rfl ?_;refine aa ?_;refine ao (v:=.int .i64 x.op) hb2 rfl ?_;refine ab (PU hY X w2) ?_;rintro v w6 ⟨rfl,rfl⟩;refine aR (cs:=[nV (im x.op Y X)]) rfl fun w9 h9 hs9 hb9=>?_;exact lay (ns:=[im x.op Y X]) h2 h9 hb9 (by simp) ez
 ·have hno:¬du x.op:=by unfold du; omega
  have hz:=hdn hno;obtain⟨e1,e2⟩:=wO (bW (cV c.wd c.og plainC.length many fr c.who) hh) m a (show x.op=0∨x.op=3∨x.op=35∨x.op=21∨x.op=20 by omega);exact none2 (by omega) (by rw[hz]; exact e1) (by rw[hz]; exact e2)
end
end
section
attribute [local irreducible] kO kB bG bH kN kG aA ai aw aB bj knew bB aP ay aE bk aD aU bC bD a8 kbool kint kstr keq kun ksl bz cQ kta kmk kmm ksem ksemU bd aI aL ae kL
def pW (m:Nat) (q:Part):Bool:=decide (m&&&bitF q.comp≠0)
theorem rJ {c:WC} (h:aX w c.bw=some (.cells c.cells 109)) (hr:c.rolled<4294967296) {b1:Nat} (hb:aX w b1=some (.cells #[.pointer (some ⟨c.bw,0,none⟩)] 40)) (q:Part) (hq:bZ q.comp) :
  af Tryz.prog 40 #[.agg q.cells.toArray,.pointer (some ⟨b1,0,none⟩)] w fun v w'=>v=.bool (!pW c.rolled q)∧Same w w':=by
 refine K8 ?_;unfold R8;refine ar fun w2 h2 hs2 hb2=>?_;have hb2:aX w2 w.heap.size=some (.cells q.cells.toArray 95):=hb2;have md:Same w2 w2.drew:=(aH.refl (fun _=>False) _).drew;have m2:=h2.trans md;have hbd:=md.get hb2 (fun h=>h);generalize w2.drew=wd at *;refine ao (v:=.pointer (some ⟨c.bw,0,none⟩)) (m2.get hb (fun h=>h)) rfl ?_;refine ah rfl ?_;refine aq ?_;refine aa ?_;refine ao (v:=msk c.rolled) (m2.get h (fun h=>h)) rfl ?_;refine ah rfl ?_;refine aa ?_;refine ao (v:=.int .i64 q.comp) hbd (by simp[Part.cells]) ?_;refine ah rfl ?_;refine ab (my c.rolled q.comp hr hq.1 hq.2 _) ?_;rintro v w9 ⟨rfl,rfl⟩;refine bP ?_;exact⟨rfl,m2⟩
structure nl where
 frame:Int
 next:Nat
 seed:Int
 xa:Option Addr
 xc:Nat
 bl:List BeV
 ra:Option Addr
 rc:Nat
 R:List Int
def nl.cells (s:nl):List Value:=[.int .i64 s.frame,natV s.next,.int .i64 s.seed,.slice s.xa s.bl.length s.xc,.slice s.ra s.R.length s.rc]
def nl.val (s:nl):Value:=.agg s.cells.toArray
structure wX where
 frame:Int
 next:Nat
 seed:Int
 beings:List (Nat×List Part)
 R:List Int
def nl.m (s:nl):wX:=⟨s.frame,s.next,s.seed,s.bl.map BeV.key,s.R⟩
def CK (m:Nat) (V:List (Nat×List Part)):List (Nat×List Part):=V.map fun y=>(y.1,y.2.filter (pW m))
def PZ (c:WC) (V:List (Nat×List Part)) (nx:Nat):wX:=⟨c.frame,nx,c.seed,CK c.rolled V,c.R⟩
structure lq (lo:Nat) (w:World) (s:nl):Prop where
 xs:aZ w s.xa s.bl.length 2 (s.bl.flatMap BeV.cells)
 ps:∀b∈s.bl,aZ w b.pa b.parts.length 6 (b.parts.flatMap Part.cells)
 rs:aZ w s.ra s.R.length 1 (s.R.map (Value.int .i64))
 xlo:∀k f,s.xa=some ⟨k,f,none⟩→lo≤k
 plo:∀b∈s.bl,∀k f,b.pa=some ⟨k,f,none⟩→lo≤k
 rlo:∀k f,s.ra=some ⟨k,f,none⟩→lo≤k
theorem lq.mod {fp:Nat→Prop} (h:lq lo w s) (m:aH fp w w') (hf:∀k,lo≤k→¬fp k):lq lo w' s :=
 ⟨h.xs.mod m fun k f e=>hf k (h.xlo k f e),fun b hb=>(h.ps b hb).mod m fun k f e=>hf k (h.plo b hb k f e),h.rs.mod m fun k f e=>hf k (h.rlo k f e),h.xlo,h.plo,h.rlo⟩
theorem lq.same (h:lq lo w s) (m:Same w w'):lq lo w' s:=h.mod m fun _ _ h=>h
theorem CB {α:Type} (f:α→α) (V:List α) (i:Nat) (hi:i<V.length):((V.take i).map f++V.drop i).set i (f V[i])=(V.take (i+1)).map f++V.drop (i+1):=by
 have hl:((V.take i).map f).length=i:=by rw[List.length_map,List.length_take]; omega
 rw[List.set_append_right _ _ (by omega),hl,Nat.sub_self,List.drop_eq_getElem_cons hi,List.set_cons_zero,List.take_succ_eq_append_getElem hi,List.map_append];simp
theorem np (h:bV w (.slice a n c) sz vs):aZ w a n sz vs:=by
 obtain⟨a',n',c',e,h,_⟩:=h.is;cases e;exact h
theorem uV:∀(l:List BeV) (i:Nat) (hi:i<l.length) (b:BeV),(l[i]).id=b.id→(l.flatMap BeV.cells).set (i*2+1) (.slice b.pa b.parts.length b.pc)=(l.set i b).flatMap BeV.cells
 | y::l,0,hi,b,e=>by
  have e:y.id=b.id:=e;show natV y.id::Value.slice b.pa b.parts.length b.pc::l.flatMap BeV.cells=natV b.id::Value.slice b.pa b.parts.length b.pc::l.flatMap BeV.cells;rw[e]
 | y::l,i+1,hi,b,e=>by
  have ih:=uV l i (by simpa using hi) b e;rw[show(i+1)*2+1=(i*2+1)+2 by omega];show natV y.id::Value.slice y.pa y.parts.length y.pc::(l.flatMap BeV.cells).set (i*2+1) _=natV y.id::Value.slice y.pa y.parts.length y.pc::(l.set i b).flatMap BeV.cells;rw[ih]
theorem Me (h:cB c w0 fx w S t B) (hle:B.l.length≤64) (hR:c.R.length≤1000000) :
  af Tryz.prog 12 #[.pointer (some ⟨c.bw,0,none⟩)] w fun v w'=>∃s:nl,v=s.val∧lq w.heap.size w' s∧s.m=PZ c (bX S B) B.nx∧Same w w':=by
 have hvl:=fR S B;have hfits:∀y∈bX S B,∀q∈y.2,0≤q.comp∧q.comp<16:=by
  intro y hy q hq;obtain⟨x,hx,rfl⟩:=List.mem_map.1 hy;obtain⟨i,hi,hg⟩:=h.link.live x hx;obtain⟨o,p,U,C,_⟩:=h.A;obtain⟨n,r,_,_,_,_,_,_,_,hf,_⟩:=fE C.sp C.gs hg;have hq:q∈partsOf S x.2.i.toNat:=hq;rw[hi,Int.toNat_natCast]at hq;obtain⟨cc,h1,h2,_⟩:=hf q hq;have h3:=h.good.len;rw[h.cs]at h2;omega
 have hlen:∀y∈bX S B,y.2.length≤1000:=by
  intro y hy;obtain⟨x,hx,rfl⟩:=List.mem_map.1 hy;obtain⟨i,hi,hg⟩:=h.link.live x hx;obtain⟨o,p,U,C,_⟩:=h.A;obtain⟨n,r,_,_,_,_,_,_,hm,_⟩:=fE C.sp C.gs hg;have e:=congrArg List.length hm;rw[List.length_map,List.length_map]at e;have:=gG S.masks[n];show(partsOf S x.2.i.toNat).length≤1000;rw[hi,Int.toNat_natCast];omega
 refine K7 ?_;unfold R7;refine ar fun w2 h2 hs2 hb2=>?_;have hb2:aX w2 w.heap.size=some (.cells #[.pointer (some ⟨c.bw,0,none⟩)] 40):=hb2;refine ar fun w4 h4 hs4 hb4=>?_;have hb4:aX w4 w2.heap.size=some (.cells #[.int .i64 0,.int .i64 0,.int .i64 0,.slice none 0 0,.slice none 0 0] 51):=hb4;have m4:=h2.trans h4;have hb24:=h4.get hb2 (fun h=>h);refine ao (v:=.pointer (some ⟨c.bw,0,none⟩)) hb24 rfl ?_;rw[aJ fK];refine ac ?_;refine az rfl ?_;unfold Hj;refine ao (v:=.pointer (some ⟨c.bw,0,none⟩)) hb24 rfl ?_;refine ab (OU (h.loc m4) hle) ?_;rintro v w13 ⟨bl0,hB0,hk0,h13⟩;obtain⟨xa,xn,xc,rfl,hxs,_⟩:=hB0.own.is;have hfb:=flat_len BeV.cells 2 (fun _=>rfl) bl0;have hbl0:bl0.length=(bX S B).length:=by have:=congrArg List.length hk0; rw[List.length_map]at this; exact this
 have hxn:xn=(bX S B).length:=by have h1:=hxs.1; omega
 subst hxn;have m13:=m4.trans h13;have hbwl:=aC h.here;have hz4:=m4.size;refine aK ?_;refine cA (bX S B).length (fun i y wr=>y=.int .i64 i∧∃bl,bl.length=(bX S B).length∧wm w4.heap.size wr (.slice xa (bX S B).length xc) bl∧bl.map BeV.key=((bX S B).take i).map (fun y=>(y.1,y.2.filter (pW c.rolled)))++(bX S B).drop i∧aH (fun k=>w4.heap.size≤k) w13 wr) ⟨c8 ⟨rfl,bl0,hbl0,hB0,by simpa using hk0,aH.refl _ _⟩,fun y wr hx=>?_⟩;obtain⟨i,hi,⟨rfl,bl,hbl,hB,hkk,hmr⟩,hJ⟩:=bK hx;have s0r:Same w4 wr:=h13.trans' (hmr.mono fun k _ e=>.inr e);have swr:Same w wr:=m4.trans s0r;unfold Hi;refine aM ?_;refine ac ?_;refine am (fun hlt=>?_) (fun hge=>?_)
 ·have hlt:i<(bX S B).length:=by omega
  have hib:i<bl.length:=by omega
  have hVi:(bl[i]).key=(bX S B)[i]:=by
   have e:=congrArg (fun l:List (Nat×List Part)=>l[i]?) hkk;have hl:(((bX S B).take i).map (fun y=>(y.1,y.2.filter (pW c.rolled)))).length=i:=by rw[List.length_map,List.length_take]; omega
   simp only[List.getElem?_map,List.getElem?_eq_getElem hib,Option.map_some]at e;rw[List.getElem?_append_right (by omega),hl,Nat.sub_self,List.getElem?_drop,Nat.add_zero,List.getElem?_eq_getElem hlt]at e;exact Option.some.inj e
  have hmemV:=List.getElem_mem hlt;have hbm:=List.getElem_mem hib;obtain⟨bx,cp,arr,tt,e0,hbx,s1,s2,s3⟩:=hB.own.viewF (F:=BeV.cells) (sz:=2) (fun _=>rfl) (by omega) (show 0<bl.length by omega);rw[hbl]at e0 s1 s2;cases e0;have hsi:=s3 i hib;have hfits':=hfits _ hmemV;have hlen':=hlen _ hmemV;rw[←hVi]at hfits' hlen';have hupd:=CB (fun y:Nat×List Part=>(y.1,y.2.filter (pW c.rolled))) (bX S B) i hlt;rw[←hVi,←hkk]at hupd;have hset:bl.set i bl[i]=bl:=List.set_getElem_self hib;generalize hbi:bl[i]=b at *;have hOb:=hB.parts b hbm;have hne:=hB.ne b hbm;have hplo:=hB.plo b hbm;unfold Hg;rw[ce];refine ah (by omega) ?_;rw[add_mk,Nat.zero_add,Int.toNat_natCast];refine aq ?_;refine aa ?_;have hsg:=dY _ _ _ _ hsi;rw[Array.length_toList]at hsg;have hcell:arr[i*2+1]?=some (.slice b.pa b.parts.length b.pc):=by
   have:=congrArg (fun l:List Value=>l[1]?) hsg.2;rw[←Array.getElem?_toList];simpa [List.getElem?_take,List.getElem?_drop,BeV.cells] using this
  refine ao (v:=.slice b.pa b.parts.length b.pc) hbx hcell ?_;have hTells:A8 (.slice b.pa b.parts.length b.pc) wr 40 #[.pointer (some ⟨w.heap.size,0,none⟩)] b.parts (fun q=>!pW c.rolled q):=by
   intro q hq w1 m1;have keep:∀k,k<w4.heap.size→¬bf (.slice b.pa b.parts.length b.pc) k:=fun k hk hv=>by have:=hplo k hv; omega
   have hq':=hfits' q hq;exact rJ (m1.get (swr.get h.here (fun h=>h)) (keep _ (by omega))) h.rl (m1.get (s0r.get hb24 (fun h=>h)) (keep _ (by omega))) q (by unfold bZ; omega)
  refine ab (pG hOb hTells (by have:b.parts.length≤1000:=hlen'; omega)) ?_;rintro v' w21 ⟨hO21,m21,hv21⟩;have hfe:(b.parts.filter fun q=>!(!pW c.rolled q))=b.parts.filter (pW c.rolled):=by
   congr 1; funext q; rw[Bool.not_not]
  rw[hfe]at hO21;obtain⟨pa,pn,pc,rfl,hps,_⟩:=hO21.is;have hflp:=flat_len Part.cells 6 (fun _=>rfl) (b.parts.filter (pW c.rolled));have hpn:pn=(b.parts.filter (pW c.rolled)).length:=by have h1:=hps.1; omega
  subst hpn;have hxv:bf (.slice (some ⟨bx,0,none⟩) (bX S B).length xc) bx:=⟨0,_,_,rfl⟩
  have hbx21:=m21.get hbx (fun hk=>hne _ hk hxv);refine aq ?_;refine aa ?_;refine bJ hbx21 rfl rfl (by omega) fun w23 h23 hs23 hb23=>?_;unfold Hf;refine aY (by omega) (by omega) ?_;rw[a7];have hxlo:=hB.xlo bx hxv;have m2123:aH (fun k=>w4.heap.size≤k) wr w23:=(m21.mono fun k _ hk=>hplo k hk).trans (h23.mono fun k _ e=>by omega);have key:∀b'∈bl.set i (⟨b.id,pa,pc,b.parts.filter (pW c.rolled)⟩:BeV),b'=⟨b.id,pa,pc,b.parts.filter (pW c.rolled)⟩∨(b'∈bl∧∀k,bf b'.pv k→¬bf b.pv k):=fun b' hb'=>by
   obtain⟨j,hj,e⟩:=List.mem_iff_getElem.1 hb';rw[List.length_set]at hj;rw[List.getElem_set]at e;by_cases hij:i=j
   ·rw[if_pos hij]at e; exact .inl e.symm
   ·rw[if_neg hij]at e;refine .inr ⟨e▸List.getElem_mem hj,fun k hk hk'=>?_⟩;have hap:=List.pairwise_iff_getElem.1 hB.apart;rcases Nat.lt_or_ge i j with h | h
    ·have:=hap i j hib hj h;rw[hbi,e]at this;exact this k hk' hk
    ·have:=hap j i hj hib (by omega);rw[hbi,e]at this;exact this k hk hk'
  have hpv:∀k,bf (⟨b.id,pa,pc,b.parts.filter (pW c.rolled)⟩:BeV).pv k→bf b.pv k:=hv21;refine hJ _ _ hlt ⟨rfl,bl.set i ⟨b.id,pa,pc,b.parts.filter (pW c.rolled)⟩,by rw[List.length_set,hbl],⟨?_,fun b' hb'=>?_,hB.xlo,fun b' hb' k hk=>?_,fun b' hb' k hk=>?_,?_⟩,?_,hmr.trans m2123⟩
  ·have hO:bV w21 (.slice (some ⟨bx,0,none⟩) (bX S B).length xc) 2 (bl.flatMap BeV.cells):=hB.own.mod m21 fun k hx hk=>hne k hk hx;have h1:=bV.set1 hO hbx21 hb23 (j:=i*2+1) (by rw[flat_len BeV.cells 2 (fun _=>rfl)]; omega);have e1:=uV bl i hib ⟨b.id,pa,pc,b.parts.filter (pW c.rolled)⟩ (by rw[hbi]);rw[←e1]; exact h1
  ·rcases key b' hb' with rfl | ⟨hb',hap⟩
   ·exact hO21.mod h23 fun k hk e=>by rw[e]at hk; exact hne _ (hv21 _ hk) hxv
   ·exact((hB.parts b' hb').mod m21 fun k hk hk'=>hap k hk hk').mod h23 fun k hk e=>by rw[e]at hk; exact hB.ne b' hb' _ hk hxv
  ·rcases key b' hb' with rfl | ⟨hb',hap⟩
   ·exact hplo k (hpv k hk)
   ·exact hB.plo b' hb' k hk
  ·rcases key b' hb' with rfl | ⟨hb',hap⟩
   ·exact hne k (hpv k hk)
   ·exact hB.ne b' hb' k hk
  ·rw[List.pairwise_iff_getElem];intro p q hp hq hpq k hk hk';rw[List.length_set]at hp hq;have hap:=List.pairwise_iff_getElem.1 hB.apart p q hp hq hpq;rw[List.getElem_set]at hk hk';by_cases h1:i=p
   ·rw[if_pos h1]at hk;rw[if_neg (by omega)]at hk';subst h1;rw[hbi]at hap;exact hap k (hpv k hk) hk'
   ·rw[if_neg h1]at hk;by_cases h2:i=q
    ·rw[if_pos h2]at hk';subst h2;rw[hbi]at hap;exact hap k hk (hpv k hk')
    ·rw[if_neg h2]at hk';exact hap k hk hk'
  ·rw[List.map_set]; exact hupd
 ·have:i=(bX S B).length:=by omega
  subst this;rw[List.take_length,List.drop_length,List.append_nil]at hkk;unfold Hh;have md:Same wr wr.drew:=(aH.refl (fun _=>False) _).drew;have hW:=h.loc (swr.trans md);have hBd:=hB.same md;have hb1:=(s0r.trans md).get hb24 (fun h=>h);have hb4d:=(s0r.trans md).get hb4 (fun h=>h);have swd:=swr.trans md;have hzd:=(s0r.trans md).size;generalize wr.drew=wd at *;have kx:∀{w1:World},Same wd w1→aX w1 w.heap.size=some (.cells #[.pointer (some ⟨c.bw,0,none⟩)] 40):=fun m=>m.get hb1 (fun h=>h);have kw:∀{w1:World},Same wd w1→aX w1 c.bw=some (.cells c.cells 109):=fun m=>m.get hW.here (fun h=>h);have m0:Same wd wd:=aH.refl _ _;refine ao (v:=.pointer (some ⟨c.bw,0,none⟩)) hb1 rfl ?_;refine ah rfl ?_;refine aq ?_;refine aa ?_;refine ao (v:=.int .i64 c.frame) hW.here rfl ?_;refine ah rfl ?_;refine ao (v:=.pointer (some ⟨c.bw,0,none⟩)) hb1 rfl ?_;refine ah rfl ?_;refine aq ?_;refine aa ?_;refine ao (v:=.pointer (some ⟨c.bb,0,none⟩)) hW.here rfl ?_;refine ah rfl ?_;obtain⟨o,p,U,C,hb,hU,hfx⟩:=id hW.A;refine ab (AF hb) ?_;rintro v w32 ⟨rfl,rfl⟩;refine ah (ao (v:=.int .i64 c.frame) hW.here rfl ⟨rfl,rfl⟩) ?_;refine ah (ao (v:=.pointer (some ⟨c.bw,0,none⟩)) hb1 rfl ⟨rfl,rfl⟩) ?_;refine ao (v:=.pointer (some ⟨c.bw,0,none⟩)) hb1 rfl ?_;refine ah rfl ?_;refine ah (ao (v:=.pointer (some ⟨c.bw,0,none⟩)) hb1 rfl ⟨rfl,rfl⟩) ?_;refine aq ?_;refine aa ?_;refine ao (v:=.int .i64 c.seed) hW.here rfl ?_;refine ah rfl ?_;refine ah (ao (v:=.int .i64 c.seed) hW.here rfl ⟨rfl,rfl⟩) ?_;refine ao (v:=.pointer (some ⟨c.bw,0,none⟩)) hb1 rfl ?_;refine ah rfl ?_;refine ah (ao (v:=.pointer (some ⟨c.bw,0,none⟩)) hb1 rfl ⟨rfl,rfl⟩) ?_;refine aq ?_;refine aa ?_;refine ao (v:=.pointer (some ⟨c.bg,0,none⟩)) hW.here rfl ?_;refine ah rfl ?_;refine ah (ao (v:=.pointer (some ⟨c.bg,0,none⟩)) hW.here rfl ⟨rfl,rfl⟩) ?_;refine ab (QD hW.gh hW.go hR) ?_;rintro v w40 ⟨hO40,hk40,h40⟩;refine ah (ao (v:=.int .i64 c.seed) (kw h40) rfl ⟨rfl,rfl⟩) ?_;refine ah (ao (v:=.pointer (some ⟨c.bw,0,none⟩)) (kx h40) rfl ⟨rfl,rfl⟩) ?_;refine ah (ao (v:=.int .i64 c.frame) (kw h40) rfl ⟨rfl,rfl⟩) ?_;refine ah (ao (v:=.pointer (some ⟨c.bw,0,none⟩)) (kx h40) rfl ⟨rfl,rfl⟩) ?_;obtain⟨ra,rn,rc,rfl,hrs,_⟩:=hO40.is;have hrn:rn=c.R.length:=by have h1:=hrs.1; rw[List.length_map]at h1; omega
  subst hrn;refine aW (cs:=[.int .i64 c.frame,natV B.nx,.int .i64 c.seed,.slice xa (bX S B).length xc,.slice ra c.R.length rc]) rfl ?_;refine aQ (vs:=[.int .i64 c.frame,natV B.nx,.int .i64 c.seed,.slice xa (bX S B).length xc,.slice ra c.R.length rc]) (h40.get hb4d (fun h=>h)) rfl rfl rfl (by simp) (by simp) fun w42 h42 hs42 hb42=>?_;have hb42:aX w42 w2.heap.size=some (.cells #[.int .i64 c.frame,natV B.nx,.int .i64 c.seed,.slice xa (bX S B).length xc,.slice ra c.R.length rc] 51):=hb42;refine au (cs:=[.int .i64 c.frame,natV B.nx,.int .i64 c.seed,.slice xa (bX S B).length xc,.slice ra c.R.length rc]) hb42 rfl (by omega) ?_;have hz2:=h2.size;have hlt2:=aC hb4;have nw:∀k,w4.heap.size≤k→¬k=w2.heap.size:=fun k hk e=>by omega
  refine⟨⟨c.frame,B.nx,c.seed,xa,xc,bl,ra,rc,c.R⟩,?_,⟨?_,fun b hb=>?_,?_,fun k f e=>?_,fun b hb k f e=>?_,fun k f e=>?_⟩,?_,?_⟩
  ·unfold nl.val nl.cells;rw[hbl]
  ·have h1:=np ((hBd.own.same h40).mod h42 fun k hk e=>nw k (hB.xlo k hk) e);rw[←hbl]at h1;exact h1
  ·exact np (((hBd.parts b hb).same h40).mod h42 fun k hk e=>nw k (hB.plo b hb k hk) e)
  ·exact np (hO40.mod h42 fun k hk e=>by have:=hk40 k hk; omega)
  ·have:=hB.xlo k ⟨f,_,_,by rw[show xa=some ⟨k,f,none⟩from e]⟩; omega
  ·have:=hB.plo b hb k ⟨f,b.parts.length,b.pc,by unfold BeV.pv; rw[e]⟩; omega
  ·have:=hk40 k ⟨f,c.R.length,rc,by rw[show ra=some ⟨k,f,none⟩from e]⟩; omega
  ·unfold nl.m PZ CK;show wX.mk c.frame B.nx c.seed (bl.map BeV.key) c.R=_;rw[hkk]
  ·exact(swd.trans h40).trans' (h42.mono fun k _ e=>.inr (by omega))
end
section
deriving instance DecidableEq for wX
def nl.ok (s:nl):Prop:=s.bl.length≤1073741824∧s.R.length≤1073741824∧∀b∈s.bl,(∀q∈b.parts,q.ok)∧b.parts.length≤1073741824
end
section
theorem cB.few (h:cB c w0 fx w S t B):∀y∈bX S B,y.2.length≤32:=by
 intro y hy;obtain⟨x,hx,rfl⟩:=List.mem_map.1 hy;obtain⟨i,hi,hg⟩:=h.link.live x hx;obtain⟨o,p,U,C,_⟩:=h.A;obtain⟨n,r,_,_,_,_,_,_,hm,_⟩:=fE C.sp C.gs hg;have e:=congrArg List.length hm;rw[List.length_map,List.length_map]at e;have:=gG S.masks[n];show(partsOf S x.2.i.toNat).length≤32;rw[hi,Int.toNat_natCast];omega
theorem Mf {s:nl} (hm:s.m=PZ c V nx) (hV:V.length≤64) (hok:nr V) (hf:∀y∈V,y.2.length≤32) (hR:c.R.length≤1000000):s.ok:=by
 unfold nl.m PZ at hm;rw[wX.mk.injEq]at hm;obtain⟨_,_,_,h4,h5⟩:=hm;refine⟨?_,by rw[h5]; omega,fun b hb=>?_⟩
 ·have:=congrArg List.length h4;unfold CK at this;rw[List.length_map,List.length_map]at this;omega
 ·have:b.key∈CK c.rolled V:=h4▸List.mem_map.2 ⟨b,hb,rfl⟩;obtain⟨y,hy,e⟩:=List.mem_map.1 this;have e2:y.2.filter (pW c.rolled)=b.parts:=congrArg Prod.snd e;refine⟨fun q hq=>?_,?_⟩
  ·rw[←e2]at hq;exact hok y hy q (List.mem_filter.1 hq).1
  ·rw[←e2];have:=List.length_filter_le (pW c.rolled) y.2;have:=hf y hy;omega
theorem Mg (h:c9 c w0 o X w S t B l gv dr) (hok:nr (bX S B)) (hR:c.R.length≤1000000) :
  af Tryz.prog 12 #[.pointer (some ⟨c.bw,0,none⟩)] w fun v w'=>∃s:nl,v=s.val∧lq w.heap.size w' s∧s.m=PZ c (bX S B) B.nx∧s.ok∧Same w w':=by
 obtain⟨⟨fx,U,hW,hO,hU,hX⟩,h0⟩:=h;refine(Me hW hW.le hR).mono ?_;rintro v w' ⟨s,rfl,hs,hm,h'⟩;exact⟨s,rfl,hs,hm,Mf hm (by rw[fR]; exact hW.le) hok hW.few hR,h'⟩
end
section
attribute [local irreducible] kO kB bG bH kN kG aA ai aw aB bj knew bB aP ay aE bk aD aU bC bD a8 kbool kint kstr keq kun ksl bz cQ kta kmk kmm ksem ksemU bd aI aL ae kL
theorem Mh:dM Tryz.prog 29=true:=by kernel_rfl
section
variable {w:World} {p:Nat→Prop} {Sa:Nat→Addr}
end
end
section
attribute [local irreducible] kO kB bG bH kN kG aA ai aw aB bj knew bB aP ay aE bk aD aU bC bD a8 kbool kint kstr keq kun ksl bz cQ kta kmk kmm ksem ksemU bd aI aL ae kL
section
variable {σ:Type} {H:dE σ} {ha hb:HC} {w0:World} {ca cb:σ→Nat} {Ia Ib:(Nat→Prop)→World→σ→Prop} {p:Nat→Prop} {Sa:Nat→Addr} {l:List IN} {w1 w2:World} {Xa Xb:Nat→Prop} {bha bhb:Nat} {s:σ}
end
end
section
attribute [local irreducible] kO kB bG bH kN kG aA ai aw aB bj knew bB aP ay aE bk aD aU bC bD a8 kbool kint kstr keq kun ksl bz cQ kta kmk kmm ksem ksemU bd aI aL ae kL
section
variable {w w':World} {M:List Nat} {i0 i1 who seed:Int} {wd og:Bool} {many bh:Nat} {c:WC} {o:OC} {X:Nat→Prop}
theorem HX.state (h:HX c w0 o nx X w s):af Tryz.prog 12 #[.pointer (some ⟨c.bw,0,none⟩)] w fun v w'=>∃z:nl,v=z.val∧lq w.heap.size w' z∧z.m=⟨c.frame,nx,s.2.seed,CK c.rolled s.1,s.2.R⟩∧z.ok∧Same w w':=by
 obtain⟨gn,S,t,B,hP,hv,hnx⟩:=h.pr;have:=Mg hP (by rw[hv]; exact h.ok) (by show s.2.R.length≤_; have:=h.rl; omega);refine af.mono (show af _ _ #[.pointer (some ⟨c.bw,0,none⟩)] _ _ from this) ?_;rintro v w' ⟨z,rfl,h1,h2,h3,h4⟩;refine⟨z,rfl,h1,?_,h3,h4⟩;rw[h2,hv,hnx]; rfl
end
section
variable {w:World} {p:Nat→Prop} {Sa:Nat→Addr}
end
end
section
attribute [local irreducible] kO kB bG bH kN kG aA ai aw aB bj knew bB aP ay aE bk aD aU bC bD a8 kbool kint kstr keq kun ksl bz cQ kta kmk kmm ksem ksemU bd aI aL ae kL
theorem Fm (h:aZ w a n sz vs) (hn:0<n) {k f:Nat} (e:a=some ⟨k,f,none⟩):k<w.heap.size:=by
 rcases h.2 with h0 | ⟨b,o,c,t,f',rfl,hb,_⟩
 ·omega
 ·cases e; exact aC hb
theorem kM {fp:Nat→Prop} (h:aZ w a n sz vs) (hm:aH fp w w') (hf:∀k f,a=some ⟨k,f,none⟩→0<n→¬fp k):aZ w' a n sz vs:=by
 by_cases h0:n=0
 ·exact⟨h.1,.inl h0⟩
 ·exact h.mod hm fun k f e=>hf k f e (by omega)
structure lh (c:RC) (many:Nat) (fr nx:Int) (l:List IN) (lo:Nat) (E:Nat→Prop) (w:World) (m:MS LS):Prop where
 ex:∃U Uu la lc sv,(aX w c.bn=some (.cells (c.cells (.slice la l.length lc) (natV m.place) sv (natV m.fuel) (.bool m.over)) 58)∧aZ w la l.length 3 (l.flatMap IN.cells)∧bV w sv 1 (m.st.map nV)∧fJ c.og many fr nx c.bv c.bu U Uu w m.h) ∧
  (∀k f,la=some ⟨k,f,none⟩→0<l.length→k<lo)∧(∀k,bf sv k→(E k∧lo≤k)∧k≠c.bn∧¬U k∧¬Uu k)∧(∀k,U k→(E k∧lo≤k)∧k≠c.bn)∧(∀k,Uu k→(E k∧lo≤k)∧k≠c.bn)
 own:E c.bn∧lo≤c.bn
section
variable {c:RC} {many:Nat} {fr nx:Int} {l:List IN} {lo:Nat} {E:Nat→Prop} {w w':World} {m:MS LS}
theorem lh.mod (h:lh c many fr nx l lo E w m) {fp:Nat→Prop} (mm:aH fp w w') (hf:∀k,fp k→lo≤k∧¬E k):lh c many fr nx l lo E w' m:=by
 obtain⟨⟨U,Uu,la,lc,sv,⟨h1,h2,h3,h4⟩,h5,h6,h7,h8⟩,h9⟩:=h;exact⟨⟨U,Uu,la,lc,sv,⟨mm.get h1 (fun e=>(hf _ e).2 h9.1),kM h2 mm (fun k f e h0 hk=>by have:=h5 k f e h0; have:=(hf k hk).1; omega),h3.mod mm (fun k hk e=>(hf k e).2 (h6 k hk).1.1),h4.mod mm (fun k hk e=>(hf k e).2 (h7 k hk).1.1) (fun k hk e=>(hf k e).2 (h8 k hk).1.1)⟩,h5,h6,h7,h8⟩,h9⟩
theorem lh.same (h:lh c many fr nx l lo E w m) (mm:Same w w'):lh c many fr nx l lo E w' m:=h.mod mm fun _ e=>e.elim
theorem lh.weak {E':Nat→Prop} (h:lh c many fr nx l lo E w m) (hs:∀k,E k→E' k):lh c many fr nx l lo E' w m:=by
 obtain⟨⟨U,Uu,la,lc,sv,h1,h5,h6,h7,h8⟩,h9⟩:=h;exact⟨⟨U,Uu,la,lc,sv,h1,h5,fun k hk=>⟨⟨hs k (h6 k hk).1.1,(h6 k hk).1.2⟩,(h6 k hk).2⟩,fun k hk=>⟨⟨hs k (h7 k hk).1.1,(h7 k hk).1.2⟩,(h7 k hk).2⟩,fun k hk=>⟨⟨hs k (h8 k hk).1.1,(h8 k hk).1.2⟩,(h8 k hk).2⟩⟩,hs _ h9.1,h9.2⟩
theorem lh.fp (h:lh c many fr nx l lo E w m):∀k,(k=c.bn∨k=c.bv∨k=c.bu)→E k∧lo≤k:=by
 obtain⟨⟨U,Uu,la,lc,sv,⟨h1,h2,h3,h4⟩,h5,h6,h7,h8⟩,h9⟩:=h;rintro k (rfl | rfl | rfl)
 ·exact h9
 ·exact(h7 _ h4.v.own).1
 ·exact(h8 _ h4.u.own).1
def ke {σ:Type} (m:MS σ) (x:IN) (a:List Int) (z:MS σ):Prop:=z.fuel=m.fuel∧((x.op=20∨x.op=21∧cS a 0=0)→z.place=x.a.toNat)∧(¬(x.op=20∨x.op=21∧cS a 0=0)→z.place=m.place)∧(x.op=35→z.over=true)∧(x.op≠35→z.over=m.over)
theorem ke.plain {σ:Type} {m z:MS σ} {x:IN} (h:x.op≠20∧x.op≠21∧x.op≠35) (e1:z.fuel=m.fuel) (e2:z.place=m.place) (e3:z.over=m.over):ke m x a z:=⟨e1,fun hh=>by omega,fun _=>e2,fun hh=>absurd hh h.2.2,fun _=>e3⟩
theorem Fn {σ:Type} (H:dE σ) (m:MS σ) (x:IN) (a:List Int):ke m x a (ko H m x a):=by
 unfold ko;refine aG (P:=ke m x a) (fun h=>ke.plain (by omega) rfl rfl rfl) (fun h2=>?_);refine aG (P:=ke m x a) (fun h=>ke.plain (by omega) rfl rfl rfl) (fun h4=>?_);refine aG (P:=ke m x a) (fun h=>ke.plain (by omega) rfl rfl rfl) (fun h5=>?_);refine aG (P:=ke m x a) (fun h=>ke.plain (by omega) rfl rfl rfl) (fun h11=>?_);refine aG (P:=ke m x a) (fun h=>ke.plain (by omega) rfl rfl rfl) (fun h19=>?_);refine aG (P:=ke m x a) (fun h=>ke.plain (by omega) rfl rfl rfl) (fun h28=>?_);refine aG (P:=ke m x a) (fun h=>ke.plain (by omega) rfl rfl rfl) (fun h0=>?_);refine aG (P:=ke m x a) (fun h=>ke.plain (by omega) rfl rfl rfl) (fun h3=>?_);refine aG (P:=ke m x a) (fun h=>⟨rfl,fun hh=>by omega,fun _=>rfl,fun _=>rfl,fun hh=>absurd h hh⟩) (fun h35=>?_);refine aG (P:=ke m x a) (fun h=>aG (P:=ke m x a) (fun hn=>⟨rfl,fun hh=>by omega,fun _=>rfl,fun hh=>absurd hh h35,fun _=>rfl⟩) (fun hn=>⟨rfl,fun _=>rfl,fun hh=>by omega,fun hh=>absurd hh h35,fun _=>rfl⟩)) (fun h21=>?_);refine aG (P:=ke m x a) (fun h=>⟨rfl,fun _=>rfl,fun hh=>by omega,fun hh=>absurd hh h35,fun _=>rfl⟩) (fun h20=>?_);iterate 6 refine aG (P:=ke m x a) (fun h=>ke.plain (by omega) rfl rfl rfl) (fun _=>?_)
 exact ke.plain (by omega) rfl rfl rfl
theorem Fo {σ:Type} (H:dE σ) (hrd:∀s x,H.rd s x≠none→du x.op) (m:MS σ) (x:IN) (a:List Int):ke m x a (iy H m x a):=by
 have hrd:=hrd m.h x;unfold iy;cases hr:H.rd m.h x with
 | some v =>
  have:=hrd (by rw[hr]; exact fun h=>by cases h);unfold du at this;exact ke.plain (by omega) rfl rfl rfl
 | none=>exact Fn H m x a
theorem nq {σ:Type} {W:WM σ}:∀s x,(bW W h).rd s x≠none→du x.op:=by
 intro s x hn;by_cases hr:du x.op
 ·exact hr
 ·exact absurd (uU hr) hn
theorem P0 (h:lh c many fr nx l lo E w m):af Tryz.prog 16 #[.pointer (some ⟨c.bn,0,none⟩)] w fun v w'=>v=.bool (eZ l.length m)∧Same w w':=by
 refine LP ?_;unfold Sr;have md:Same w w.drew:=(aH.refl _ w).drew;obtain⟨⟨U,Uu,la,lc,sv,⟨hb,_⟩,_⟩,_⟩:=h.same md;generalize w.drew=wd at *;refine aq ?_;refine aa ?_;refine aj (v:=.bool m.over) hb rfl ?_;refine ah rfl ?_;refine ac ?_;unfold eZ;cases ho:m.over with
 | true=>exact az rfl ⟨rfl,md⟩
 | false =>
  refine aN rfl ?_;refine aq ?_;refine aa ?_;refine aj (v:=natV m.place) hb rfl ?_;refine ah rfl ?_;refine aq ?_;refine aa ?_;refine aj (v:=.slice la l.length lc) hb rfl ?_;refine ah rfl ?_;refine aK ?_;refine aF ?_;exact⟨by rw[Bool.false_or],md⟩
end
end
section
attribute [local irreducible] kO kB bG bH kN kG aA ai aw aB bj knew bB aP ay aE bk aD aU bC bD a8 kbool kint kstr keq kun ksl bz cQ kta kmk kmm ksem ksemU bd aI aL ae kL
section
variable {c:RC} {many:Nat} {fr nx:Int} {l:List IN} {lo:Nat} {E:Nat→Prop} {w w':World} {m:MS LS}
theorem P1 (hz:ke p x a z) (h1:takesF x.op=1→cS a 0=X) (hov:p.over=false) (hj:(x.op=20∨x.op=21)→0≤x.a)
  (hb:aX wz c.bn=some (.cells (c.cells (.slice la l.length lc) (natV p.place) sv (natV z.fuel) (.bool false)) 58)) (hx:aX wz bx=some (.cells x.cells.toArray 80)) (hne:bx≠c.bn) {Q:PQ}
  (hQ:∀w',aX w' c.bn=some (.cells (c.cells (.slice la l.length lc) (natV z.place) sv (natV z.fuel) (.bool z.over)) 58)→aH (fun k=>k=c.bn) wz w'→Q (.tuple #[.bool true,.int .i64 0]) w') {b:Bool} (hbj:b=true↔(x.op=20∨x.op=21∧X=0)) :
  oC (.pointer (some ⟨c.bn,0,none⟩)) (.pointer (some ⟨bx,0,none⟩)) (.bool b) Q wz:=by
 obtain⟨z1,z2,z3,z4,z5⟩:=hz;have e21:x.op=21→cS a 0=X:=fun h=>h1 (by rw[h]; rfl);have f6:∀w6,aH (fun k=>k=c.bn) wz w6→aX w6 c.bn=some (.cells (c.cells (.slice la l.length lc) (natV z.place) sv (natV z.fuel) (.bool false)) 58)→uK (.pointer (some ⟨c.bn,0,none⟩)) (.pointer (some ⟨bx,0,none⟩)) Q w6:=by
  intro w6 m6 hb6;have hx6:=m6.get hx hne;unfold uK;refine aa ?_;refine ao (v:=.int .i64 x.op) hx6 rfl ?_;refine aF ?_;refine ac ?_;refine am (fun h35=>?_) (fun h35=>?_)
  ·refine aq ?_;refine aa ?_;refine bJ hb6 rfl rfl (by show 9<10; omega) fun w8 h8 hs8 hb8=>?_;unfold uJ;exact hQ _ (by rw[z4 h35]; exact hb8) (m6.trans h8)
  ·unfold uJ;exact hQ _ (by rw[z5 h35,hov]; exact hb6) m6
 unfold oC;refine ac ?_;refine dh (fun ht=>?_) (fun ht=>?_)
 ·have hjj:=hbj.1 ht;have hp:=z2 (hjj.imp id fun hh=>⟨hh.1,by rw[e21 hh.1]; exact hh.2⟩);refine aa ?_;refine ao (v:=.int .i64 x.a) hx rfl ?_;refine aq ?_;refine aa ?_;refine bJ hb rfl rfl (by show 6<10; omega) fun w8 h8 hs8 hb8=>?_;have ea:(.int .i64 x.a:Value)=natV z.place:=by
   have:=hj (hjj.imp id fun hh=>hh.1);unfold natV;rw[hp,Int.toNat_of_nonneg this]
  rw[ea]at hb8;exact f6 _ h8 hb8
 ·have hjj:¬(x.op=20∨x.op=21∧X=0):=fun hh=>by rw[hbj.2 hh]at ht; cases ht
  have hp:=z3 fun hh=>hjj (hh.imp id fun hh=>⟨hh.1,by rw[←e21 hh.1]; exact hh.2⟩);exact f6 _ (aH.refl _ _) (by rw[hp]; exact hb)
end
end
section
attribute [local irreducible] kO kB bG bH kN kG aA ai aw aB bj knew bB aP ay aE bk aD aU bC bD a8 kbool kint kstr keq kun ksl bz cQ kta kmk kmm ksem ksemU bd aI aL ae kL
section
variable {c:RC} {many:Nat} {fr nx:Int} {l:List IN} {lo:Nat} {E:Nat→Prop} {w w':World} {m:MS LS}
theorem kP {st:List Int} (hk:k≤st.length) (hi:i<k) (hj:st.length-k+i<st.length):cS (st.drop (st.length-k)) i=st[st.length-k+i]:=by
 rw[←pI (by rw[List.length_drop]; omega),List.getElem_drop]
theorem Q1 (I:lh c many fr nx l lo E w m) (hg:m.st.length≤16∧m.fuel≤4096) (hp:m.place<1000000) (hc:cI m.h.2≤5000) (hnum:di m.st) (hwho:bZ c.who) {hh:HC} (eh:hh.who=c.who∧hh.i0=c.i0∧hh.i1=c.i1) {x:IN} (hok:okIN x) (hov:m.over=false) (hck:dK l.length m x=0) {bx br:Nat}
  (hx:aX w bx=some (.cells x.cells.toArray 80)) (hr:aX w br=some (.cells (row16 (dx x.op)).toArray 122)) (hbx:bx≠c.bn∧bx≠c.bv∧bx≠c.bu) (hbr:br≠c.bn) {Q:PQ}
  (hQ:∀w',lh c many fr nx l lo (cX w w' E) w' (iy (bW (cV c.wd c.og plainC.length many fr c.who) hh) (eD m x) x (m.st.drop (m.st.length-takesF x.op)))→aH (fun k=>k=c.bn∨k=c.bv∨k=c.bu) w w'→Q (.tuple #[.bool true,.int .i64 0]) w') :
  uN (.pointer (some ⟨c.bn,0,none⟩)) (.pointer (some ⟨bx,0,none⟩)) (.pointer (some ⟨br,0,none⟩)) (.int .i64 m.st.length) Q w:=by
 obtain⟨c1,c2,c3,c4,c5⟩:=o8 hck;have hfp:=I.fp;obtain⟨⟨U,Uu,la,lc,sv,⟨hb,hli,hst,hD⟩,hla,hsv,hU,hUu⟩,hE,hEl⟩:=I;obtain⟨sa,n,sc,rfl,hlen,hnc,hcm,hbk⟩:=id hst;have hn:n=m.st.length:=by simpa using hlen.symm
 subst hn;have q1:(if sc=(gZ none).toNat then sa else sa.map fun x=>x.add ((gZ none).toNat*1))=sa:=by
  split
  ·rfl
  ·rcases hbk with⟨rfl,_⟩ | ⟨b,arr,t,rfl,_⟩
   ·rfl
   ·simp
 clear hbk;have hsl:=np hst;have hbn:=aC hb;have etk:(dx x.op).2.2.1=((takesF x.op:Nat):Int):=by have:=gH x.op; unfold takesF; omega
 have f4:∀X Y:Int,bZ X→bZ Y→(takesF x.op=1→cS (m.st.drop (m.st.length-takesF x.op)) 0=X)→(takesF x.op=2→cS (m.st.drop (m.st.length-takesF x.op)) 0=Y∧cS (m.st.drop (m.st.length-takesF x.op)) 1=X)→uL (.pointer (some ⟨c.bn,0,none⟩)) (.pointer (some ⟨bx,0,none⟩)) (.pointer (some ⟨br,0,none⟩)) (.int .i64 m.st.length) (nV X) (nV Y) Q w:=by
  intro X Y hX hY e1 e2;have hctl:=Fo (bW (cV c.wd c.og plainC.length many fr c.who) hh) nq (eD m x) x (m.st.drop (m.st.length-takesF x.op));generalize hzz:iy (bW (cV c.wd c.og plainC.length many fr c.who) hh) (eD m x) x (m.st.drop (m.st.length-takesF x.op))=z at *;have z1:z.fuel=m.fuel-1:=hctl.1;unfold uL;refine aq ?_;refine aa ?_;refine aj (v:=natV m.fuel) hb rfl ?_;unfold natV;refine cM (by omega) (by omega) ?_;rw[show((m.fuel:Int)-1)=((m.fuel-1:Nat):Int) by omega];refine aq ?_;refine aa ?_;refine bJ hb rfl rfl (by show 8<10; omega) fun w47 h47 hs47 hb47=>?_;have hb47:aX w47.drew c.bn=some (.cells (c.cells (.slice la l.length lc) (natV m.place) (.slice sa m.st.length sc) (natV (m.fuel-1)) (.bool m.over)) 58):=hb47;have m47:aH (fun k=>k=c.bn) w w47.drew:=h47.drew;have hx47:=m47.get hx hbx.1;have hr47:=m47.get hr hbr;have hO47:=hst.mod m47 (fun k hk=>(hsv k hk).2.1);have hD47:=hD.mod m47 (fun k hk=>(hU k hk).2) (fun k hk=>(hUu k hk).2);generalize w47.drew=wf at *;refine aR (cs:=[]) rfl fun w49 h49 hs49 hb49=>?_;refine aq ?_;refine aa ?_;refine aj (v:=.slice sa m.st.length sc) (h49.get hb47 (fun h=>h)) rfl ?_;refine ah rfl ?_;refine ah (aj (v:=.slice sa m.st.length sc) hb47 rfl ⟨rfl,rfl⟩) ?_;refine aa ?_;refine ao (v:=.int .i64 (dx x.op).2.2.1) (h49.get hr47 (fun h=>h)) rfl ?_;refine ah rfl ?_;refine ah (ao (v:=.int .i64 (dx x.op).2.2.1) hr47 rfl ⟨rfl,rfl⟩) ?_;rw[etk];refine cM (by omega) (by omega) ?_;rw[show((m.st.length:Int)-(takesF x.op:Int))=((m.st.length-takesF x.op:Nat):Int) by omega];rw[ff rfl rfl];refine ah (by simp only[loV_none,hiV_int]; omega) ?_;have q2:((rN m.st.length (some (Value.int .i64 ((m.st.length-takesF x.op:Nat):Int)))).toNat-(gZ none).toNat)=m.st.length-takesF x.op:=by simp
  have q3:sc-(gZ none).toNat=sc:=by simp
  rw[q1,q2,q3];have hOc:bV w49 (.slice sa (m.st.length-takesF x.op) sc) 1 ((m.st.take (m.st.length-takesF x.op)).map nV):=by
   rw[List.map_take];exact(by have:=bV.cutN (sz:=1) hO47 (k:=m.st.length-takesF x.op) (by omega); rwa [Nat.mul_one]at this:bV wf _ 1 _).same h49
  refine be Bb (by omega) (bV.blk hb49 (n:=0) (by simp) (by simp[maxLen])) (Src.ofSlIs (hk:=(dI (P:=Tryz.prog) (t:=49) (by kernel_rfl)).choose_spec) sc (np hOc) (ones_ints _)) (by simp; omega) (by simp; omega) ?_;intro v56 w57 hO57 m57 hf57;have hO57:bV w57 v56 1 ((m.st.take (m.st.length-takesF x.op)).map nV):=by simpa using hO57
  have hv57:∀k,bf v56 k→wf.heap.size≤k:=fun k hk=>by
   rcases hf57 k hk with e | e
   ·rw[cg e]; exact Nat.le_refl _
   ·exact Nat.le_trans h49.size e
  have s57:Same wf w57:=h49.trans' (m57.mono fun k _ e=>.inr (by rw[cg e]; exact Nat.le_refl _));have z47:=m47.size;have z57:=s57.size;have hx57:=s57.get hx47 (fun h=>h);have hb57:=s57.get hb47 (fun h=>h);refine au (cs:=x.cells) hx57 rfl (by omega) ?_;refine ab (Md (m:=eD m x) (c:=c) ⟨_,_,_,_,_,hb57⟩ (hD47.same s57) hc eh hwho hok c2 hX hY e1 e2 hzz) ?_;rintro v w60 ⟨U',Uu',da,dc,ns,rfl,hsd,hdf,hI60,hzst,hnl,hU',hUu',m60⟩;have hvU:∀k,U k→k<wf.heap.size:=fun k hk=>hD47.lv k hk;have hvUu:∀k,Uu k→k<wf.heap.size:=fun k hk=>hD47.lu k hk;have hbv:=hvU _ hD.v.own;have hbu:=hvUu _ hD.u.own;have hO60:=hO57.mod m60 (fun k hk e=>by have:=hv57 k hk; omega);have z60:=m60.size;refine be Bb (by omega) hO60 (Src.ofSlIs (hk:=(dI (P:=Tryz.prog) (t:=49) (by kernel_rfl)).choose_spec) dc hsd (ones_ints ns)) (by simp; omega) (by simp; omega) ?_;intro v61 w62 hO62 m62 hf62;have hO62:bV w62 v61 1 (z.st.map nV):=by
   rw[hzst];show bV w62 v61 1 ((m.st.take (m.st.length-takesF x.op)++ns).map nV);rw[List.map_append]; exact hO62
  have hv62:∀k,bf v61 k→wf.heap.size≤k∧((wf.heap.size≤k∧k<w57.heap.size)∨w60.heap.size≤k):=fun k hk=>by
   rcases hf62 k hk with e | e
   ·have h1:=hv57 k e;have h2:=hO57.vblk_lt e;exact⟨h1,.inl ⟨h1,h2⟩⟩
   ·exact⟨by omega,.inr e⟩
  have hbnv:c.bn≠c.bv:=fun e=>(hU _ hD.v.own).2 e.symm;have hbnu:c.bn≠c.bu:=fun e=>(hUu _ hD.u.own).2 e.symm;have hb62:=m62.get (m60.get hb57 (fun e=>e.elim hbnv hbnu)) (fun e=>by have:=hv57 _ e; omega);have hx62:=m62.get (m60.get hx57 (fun e=>e.elim hbx.2.1 hbx.2.2)) (fun e=>by have:=hv57 _ e; have:=aC hx47; omega);obtain⟨a6,n6,c6,e6,_⟩:=hO62.is;subst e6;refine aq ?_;refine aa ?_;refine bJ hb62 rfl rfl (by show 7<10; omega) fun w64 h64 hs64 hb64=>?_;have hb64:aX w64 c.bn=some (.cells (c.cells (.slice la l.length lc) (natV m.place) (.slice a6 n6 c6) (natV (m.fuel-1)) (.bool m.over)) 58):=hb64;refine aq ?_;refine aa ?_;refine aj (v:=natV m.place) hb64 rfl ?_;unfold natV;refine aY (by omega) (by omega) ?_;rw[show((m.place:Int)+1)=((m.place+1:Nat):Int) by omega];refine aq ?_;refine aa ?_;refine bJ hb64 rfl rfl (by show 6<10; omega) fun w69 h69 hs69 hb69=>?_;have hb69:aX w69 c.bn=some (.cells (c.cells (.slice la l.length lc) (natV (eD m x).place) (.slice a6 n6 c6) (natV z.fuel) (.bool false)) 58):=by rw[hb69,z1,←hov]; rfl
  have m69:aH (fun k=>k=c.bn) w62 w69:=h64.trans h69;have hx69:=m69.get hx62 hbx.1;have hI62:=hI60.mod m62 (fun k hk e=>by
   have h1:=hv57 k e; have h2:=hO57.vblk_lt e;rcases hU' k hk with hk | hk
   ·have:=hvU k hk; omega
   ·omega) (fun k hk e=>by
   have h1:=hv57 k e; have h2:=hO57.vblk_lt e;rcases hUu' k hk with hk | hk
   ·have:=hvUu k hk; omega
   ·omega)
  have hUb:∀k,U' k→k≠c.bn:=fun k hk=>by
   rcases hU' k hk with hk | hk
   ·exact(hU k hk).2
   ·omega
  have hUub:∀k,Uu' k→k≠c.bn:=fun k hk=>by
   rcases hUu' k hk with hk | hk
   ·exact(hUu k hk).2
   ·omega
  have m62a:aH (fun k=>k=c.bn∨k=c.bv∨k=c.bu) w w62:=by
   have a1:aH (fun k=>k=c.bn∨k=c.bv∨k=c.bu) w wf:=m47.mono fun k _ e=>.inl e;have a2:aH (fun k=>k=c.bn∨k=c.bv∨k=c.bu) wf w60:=(aH.of_same s57).trans (m60.mono fun k _ e=>.inr e);exact(a1.trans a2).trans' (m62.mono fun k _ e=>.inr (by have:=hv57 k e; omega))
  have z62:=m62.size;have fin:∀w',aX w' c.bn=some (.cells (c.cells (.slice la l.length lc) (natV z.place) (.slice a6 n6 c6) (natV z.fuel) (.bool z.over)) 58)→aH (fun k=>k=c.bn) w69 w'→Q (.tuple #[.bool true,.int .i64 0]) w':=by
   intro w' hb' m';have mm:=m69.trans m';have mall:aH (fun k=>k=c.bn∨k=c.bv∨k=c.bu) w w':=m62a.trans (mm.mono fun k _ e=>.inl e);have z':=mm.size;refine hQ w' ⟨⟨U',Uu',la,lc,_,⟨hb',kM hli mall (fun k f e h0 hk=>by have:=hla k f e h0; have:=(hfp k hk).2; omega),hO62.mod mm (fun k hk e=>by have:=(hv62 k hk).1; omega),hI62.mod mm hUb hUub⟩,hla,fun k hk=>?_,fun k hk=>?_,fun k hk=>?_⟩,.inl hE,hEl⟩ mall
   ·obtain⟨h1,h2⟩:=hv62 k hk;have h3:=hO62.vblk_lt hk;refine⟨⟨.inr ⟨by omega,by omega⟩,by omega⟩,by omega,fun hu=>?_,fun hu=>?_⟩
    ·have:=hI60.lv k hu;rcases hU' k hu with hu | hu
     ·have:=hvU k hu; omega
     ·omega
    ·have:=hI60.lu k hu;rcases hUu' k hu with hu | hu
     ·have:=hvUu k hu; omega
     ·omega
   ·refine⟨?_,hUb k hk⟩;have:=hI60.lv k hk;rcases hU' k hk with hu | hu
    ·exact⟨.inl (hU k hu).1.1,(hU k hu).1.2⟩
    ·exact⟨.inr ⟨by omega,by omega⟩,by omega⟩
   ·refine⟨?_,hUub k hk⟩;have:=hI60.lu k hk;rcases hUu' k hk with hu | hu
    ·exact⟨.inl (hUu k hu).1.1,(hUu k hu).1.2⟩
    ·exact⟨.inr ⟨by omega,by omega⟩,by omega⟩
  have tail:∀b:Bool,(b=true↔(x.op=20∨x.op=21∧X=0))→oC (.pointer (some ⟨c.bn,0,none⟩)) (.pointer (some ⟨bx,0,none⟩)) (.bool b) Q w69:=fun b hb =>
   P1 hctl e1 hov (fun hj=>(c5 hj).1) hb69 hx69 hbx.1 fin hb
  refine aa ?_;refine ao (v:=.int .i64 x.op) hx69 rfl ?_;refine aF ?_;refine ac ?_;refine cz (fun h20=>?_) (fun h20=>tail true (by simp[h20]));refine aa ?_;refine ao (v:=.int .i64 x.op) hx69 rfl ?_;refine aF ?_;refine ac ?_;refine am (fun h21=>?_) (fun h21=>tail false (by simp[h20,h21]));unfold nV;refine aF ?_;exact tail _ (by simp[h20,h21])
 unfold uN;refine bO ?_;refine ac ?_;have hnk:∀k:Nat,k<m.st.length→(hk:k<m.st.length)→bZ (m.st[k]):=fun k _ hk=>hnum _ (List.getElem_mem hk);refine am (fun h0=>?_) (fun h0=>?_)
 ·refine aq ?_;refine aa ?_;refine aj (v:=.slice sa m.st.length sc) hb rfl ?_;refine cM (by omega) (by omega) ?_;rw[show((m.st.length:Int)-1)=((m.st.length-1:Nat):Int) by omega];refine cF (F:=nV) hsl (by omega) rfl ?_;have t1:takesF x.op=1→cS (m.st.drop (m.st.length-takesF x.op)) 0=m.st[m.st.length-1]'(by omega):=fun e=>by
   rw[kP c3 (by omega) (by omega)];simp only[show m.st.length-takesF x.op+0=m.st.length-1 by omega]
  unfold uM;refine bO ?_;refine ac ?_;refine am (fun h1=>?_) (fun h1=>?_)
  ·refine aq ?_;refine aa ?_;refine aj (v:=.slice sa m.st.length sc) hb rfl ?_;refine cM (by omega) (by omega) ?_;rw[show((m.st.length:Int)-2)=((m.st.length-2:Nat):Int) by omega];refine cF (F:=nV) hsl (by omega) rfl ?_;refine f4 _ _ (hnk _ (by omega) (by omega)) (hnk _ (by omega) (by omega)) t1 fun e=>⟨?_,?_⟩
   ·rw[kP c3 (by omega) (by omega)];simp only[show m.st.length-takesF x.op+0=m.st.length-2 by omega]
   ·rw[kP c3 (by omega) (by omega)];simp only[show m.st.length-takesF x.op+1=m.st.length-1 by omega]
  ·exact f4 _ 0 (hnk _ (by omega) (by omega)) eE t1 fun e=>by omega
 ·unfold uM;refine bO ?_;refine ac ?_;refine az (bT (by omega)) ?_;exact f4 0 0 eE eE (fun e=>by omega) fun e=>by omega
end
end
section
attribute [local irreducible] kO kB bG bH kN kG aA ai aw aB bj knew bB aP ay aE bk aD aU bC bD a8 kbool kint kstr keq kun ksl bz cQ kta kmk kmm ksem ksemU bd aI aL ae kL
section
variable {c:RC} {many:Nat} {fr nx:Int} {l:List IN} {lo:Nat} {E:Nat→Prop} {w w':World} {m:MS LS}
theorem P2 (h:lh c many fr nx l lo E w m) (hg:m.good l.length) (hl:l.length≤100000) (hok:∀x∈l,okIN x) (hc:cI m.h.2≤5000) (hnum:di m.st) (hwho:bZ c.who) {hh:HC} (eh:hh.who=c.who∧hh.i0=c.i0∧hh.i1=c.i1) :
  af Tryz.prog 22 #[.pointer (some ⟨c.bn,0,none⟩)] w fun v w'=>v=.tuple #[.bool (cE (bW (cV c.wd c.og plainC.length many fr c.who) hh) l m).2.1,natV (cE (bW (cV c.wd c.og plainC.length many fr c.who) hh) l m).2.2] ∧
   lh c many fr nx l lo (cX w w' E) w' (cE (bW (cV c.wd c.og plainC.length many fr c.who) hh) l m).1∧aH (fun k=>k=c.bn∨k=c.bv∨k=c.bu) w w':=by
 obtain⟨hg1,hg2,hg3⟩:=hg;refine LU ?_;unfold f22;refine ab (P0 h) ?_;rintro v w2 ⟨rfl,h2⟩;refine ac ?_;have h2d:Same w w2.drew:=h2.drew;refine dh (fun ho=>?_) (fun ho=>?_)
 ·rw[eF ho];exact⟨rfl,(h.same h2).weak (fun k hk=>.inl hk),aH.of_same h2⟩
 unfold H9;have I2:=h.same h2d;generalize w2.drew=wd at *;have hfp:=I2.fp;obtain⟨⟨U,Uu,la,lc,sv,⟨hb,hli,hst,hD⟩,hla,hsv,hU,hUu⟩,hE,hEl⟩:=id I2;have hp:m.place<l.length:=by
  unfold eZ at ho;rw[Bool.or_eq_false_iff]at ho;have:=of_decide_eq_false ho.2;omega
 have hov:m.over=false:=by
  unfold eZ at ho;rw[Bool.or_eq_false_iff]at ho;exact ho.1
 have ho:¬eZ l.length m=true:=by rw[ho]; decide
 have hx:l[m.place]?=some (l[m.place]):=List.getElem?_eq_getElem hp;rw[fT ho hx];have hxin:l[m.place]∈l:=List.getElem_mem hp;obtain⟨ba,o,cs,t,f,rfl,hbl,hle,hcs⟩:=hli.at hp (by omega);rw[d5 IN.cells 3 (fun _=>rfl) l m.place hp]at hcs;generalize l[m.place]=x at *;have hokx:=hok x hxin;have hbvl:=hD.lv _ hD.v.own;have hbul:=hD.lu _ hD.u.own;have hbnl:=aC hb;have hlv:∀k,U k→k<wd.heap.size:=hD.lv;have good:∀wz bx br,Same wd wz→aX wz bx=some (.cells x.cells.toArray 80)→aX wz br=some (.cells (row16 (dx x.op)).toArray 122)→wd.heap.size≤bx→wd.heap.size≤br→dK l.length m x=0→uN (.pointer (some ⟨c.bn,0,none⟩)) (.pointer (some ⟨bx,0,none⟩)) (.pointer (some ⟨br,0,none⟩)) (.int .i64 m.st.length) (fun v w'=>v=.tuple #[.bool (if dK l.length m x≠0 then(m.ends,false,dK l.length m x) else(iy (bW (cV c.wd c.og plainC.length many fr c.who) hh) (eD m x) x (m.st.drop (m.st.length-takesF x.op)),true,0)).2.1,natV (if dK l.length m x≠0 then(m.ends,false,dK l.length m x) else(iy (bW (cV c.wd c.og plainC.length many fr c.who) hh) (eD m x) x (m.st.drop (m.st.length-takesF x.op)),true,0)).2.2] ∧
   lh c many fr nx l lo (cX w w' E) w' (if dK l.length m x≠0 then(m.ends,false,dK l.length m x) else(iy (bW (cV c.wd c.og plainC.length many fr c.who) hh) (eD m x) x (m.st.drop (m.st.length-takesF x.op)),true,0)).1∧aH (fun k=>k=c.bn∨k=c.bv∨k=c.bu) w w') wz:=by
  intro wz bx br mz hxz hrz h1 h2 hck;refine Q1 (I2.same mz) ⟨hg2,hg3⟩ (by omega) hc hnum hwho eh hokx hov hck hxz hrz ⟨by omega,by omega,by omega⟩ (by omega) fun w' hI hm=>?_;rw[if_neg (fun hn=>hn hck)];have hz:=(h2d.trans mz).size;exact⟨rfl,hI.weak fun k hk=>hk.imp id fun hk=>⟨by omega,hk.2⟩,(aH.of_same (h2d.trans mz)).trans hm⟩
 have f1:∀(e:Nat) wz bx br,Same wd wz→aX wz bx=some (.cells x.cells.toArray 80)→aX wz br=some (.cells (row16 (dx x.op)).toArray 122)→wd.heap.size≤bx→wd.heap.size≤br→dK l.length m x=e→ld (.pointer (some ⟨c.bn,0,none⟩)) (.pointer (some ⟨bx,0,none⟩)) (.pointer (some ⟨br,0,none⟩)) (.int .i64 e) (.int .i64 m.st.length) (fun v w'=>v=.tuple #[.bool (if dK l.length m x≠0 then(m.ends,false,dK l.length m x) else(iy (bW (cV c.wd c.og plainC.length many fr c.who) hh) (eD m x) x (m.st.drop (m.st.length-takesF x.op)),true,0)).2.1,natV (if dK l.length m x≠0 then(m.ends,false,dK l.length m x) else(iy (bW (cV c.wd c.og plainC.length many fr c.who) hh) (eD m x) x (m.st.drop (m.st.length-takesF x.op)),true,0)).2.2] ∧
   lh c many fr nx l lo (cX w w' E) w' (if dK l.length m x≠0 then(m.ends,false,dK l.length m x) else(iy (bW (cV c.wd c.og plainC.length many fr c.who) hh) (eD m x) x (m.st.drop (m.st.length-takesF x.op)),true,0)).1∧aH (fun k=>k=c.bn∨k=c.bv∨k=c.bu) w w') wz:=by
  intro e wz bx br mz hxz hrz h1 h2 hck;have hgz:=good wz bx br mz hxz hrz h1 h2;unfold ld;refine cu ?_;refine ac ?_;refine am (fun hne=>?_) (fun he=>hgz (by omega));refine aq ?_;refine aa ?_;refine bJ (mz.get hb (fun h=>h)) rfl rfl (by show 9<10; omega) fun w30 h30 hs30 hb30=>?_;rw[if_pos (by omega),hck];have mwz:=h2d.trans mz;refine⟨rfl,?_,(aH.of_same mwz).trans (h30.mono fun k _ e=>.inl e)⟩;exact⟨⟨U,Uu,_,lc,sv,⟨hb30,kM (hli.same mz) h30 (fun k f e h0 hk=>by have:=hla k f e h0; omega),(hst.same mz).mod h30 (fun k hk=>(hsv k hk).2.1),(hD.same mz).mod h30 (fun k hk=>(hU k hk).2) (fun k hk=>(hUu k hk).2)⟩,hla,fun k hk=>⟨⟨.inl (hsv k hk).1.1,(hsv k hk).1.2⟩,(hsv k hk).2⟩,fun k hk=>⟨⟨.inl (hU k hk).1.1,(hU k hk).1.2⟩,(hU k hk).2⟩,fun k hk=>⟨⟨.inl (hUu k hk).1.1,(hUu k hk).1.2⟩,(hUu k hk).2⟩⟩,.inl hE,hEl⟩
 clear good;generalize hPQ:(fun v w'=>v=Value.tuple #[.bool (if dK l.length m x≠0 then(m.ends,false,dK l.length m x) else(iy (bW (cV c.wd c.og plainC.length many fr c.who) hh) (eD m x) x (m.st.drop (m.st.length-takesF x.op)),true,0)).2.1,natV (if dK l.length m x≠0 then(m.ends,false,dK l.length m x) else(iy (bW (cV c.wd c.og plainC.length many fr c.who) hh) (eD m x) x (m.st.drop (m.st.length-takesF x.op)),true,0)).2.2] ∧
   lh c many fr nx l lo (cX w w' E) w' (if dK l.length m x≠0 then(m.ends,false,dK l.length m x) else(iy (bW (cV c.wd c.og plainC.length many fr c.who) hh) (eD m x) x (m.st.drop (m.st.length-takesF x.op)),true,0)).1∧aH (fun k=>k=c.bn∨k=c.bv∨k=c.bu) w w')=PQ0 at f1 ⊢
 clear hPQ;refine aq ?_;refine aa ?_;refine aj (v:=.slice (some ⟨ba,o,none⟩) l.length lc) hb rfl ?_;refine ah rfl ?_;refine aq ?_;refine aa ?_;refine aj (v:=natV m.place) hb rfl ?_;refine ah rfl ?_;unfold natV;rw[ce];refine ah (by omega) ?_;rw[add_mk,Int.toNat_natCast];refine fy (cs:=x.cells) hbl (by omega) hcs (by omega) ?_;refine ah rfl ?_;refine ar fun w15 h15 hs15 hb15=>?_;have hb15':=h15.get hb (fun h=>h);refine ah ?_ ?_
 ·refine fy (cs:=x.cells) (h15.get hbl (fun h=>h)) (by omega) hcs (by omega) ?_;exact⟨rfl,rfl⟩
 refine ah ?_ ?_
 ·exact aj (v:=natV m.place) hb15' rfl ⟨rfl,rfl⟩
 refine ah ?_ ?_
 ·exact aj (v:=.slice (some ⟨ba,o,none⟩) l.length lc) hb15' rfl ⟨rfl,rfl⟩
 refine aQ (vs:=x.cells) hb15 rfl rfl rfl (by simp) (by simp[IN.cells]) fun w16 h16 hs16 hb16=>?_;have hb16:aX w16 wd.heap.size=some (.cells x.cells.toArray 80):=hb16;have h16':Same wd w16:=aH.after h15 h16 (fun b hb=>by omega);refine aa ?_;refine ao (v:=.int .i64 x.op) hb16 rfl ?_;refine ab (wN w16 x.op) ?_;rintro v w18 ⟨rfl,h18⟩;refine ak rfl ?_;refine ak rfl ?_;refine ar fun w19 h19 hs19 hb19=>?_;refine aQ (vs:=row16 (dx x.op)) hb19 rfl rfl rfl (by simp) (by simp[row16]) fun w20 h20 hs20 hb20=>?_;have hb20:aX w20 w18.heap.size=some (.cells (row16 (dx x.op)).toArray 122):=hb20;have s20:Same w18 w20:=aH.after h19 h20 (fun b hb=>by omega);have m20:Same wd w20:=h16'.trans (h18.trans s20);have hx20:=(h18.trans s20).get hb16 (fun h=>h);have hz1:wd.heap.size≤w18.heap.size:=(h16'.trans h18).size;have F1:∀(e:Nat) wz,Same w20 wz→dK l.length m x=e→ld (.pointer (some ⟨c.bn,0,none⟩)) (.pointer (some ⟨wd.heap.size,0,none⟩)) (.pointer (some ⟨w18.heap.size,0,none⟩)) (.int .i64 e) (.int .i64 m.st.length) PQ0 wz:=fun e wz mz hck =>
  f1 e wz _ _ (m20.trans mz) (mz.get hx20 (fun h=>h)) (mz.get hb20 (fun h=>h)) (Nat.le_refl _) hz1 hck
 clear f1;obtain⟨sa,n,sc,rfl,hlen,hnc,hcm,_⟩:=id hst;have hn:n=m.st.length:=by simpa using hlen.symm
 subst hn;have hbm:=m20.get hb (fun h=>h);refine aq ?_;refine aa ?_;refine aj (v:=.slice sa m.st.length sc) hbm rfl ?_;refine aK ?_;refine aq ?_;refine aa ?_;refine aj (v:=natV m.fuel) hbm rfl ?_;have hrb:=gH x.op;have hof:=@tT x.op;have hno:=@Cz x.op;have hnn:=@jW x.op;unfold dK at F1;have hr2:(row16 (dx x.op)).toArray[2]?=some (.int .i64 (dx x.op).2.2.1):=rfl;have hr3:(row16 (dx x.op)).toArray[3]?=some (.int .i64 (dx x.op).2.2.2):=rfl;generalize dx x.op=r at *;refine aF ?_;refine ac ?_;refine am (fun hf=>F1 15 _ (aH.refl _ _) (by rw[if_pos (by omega)])) (fun hf=>?_);rw[if_neg (show ¬m.fuel=0 by omega)]at F1;refine bP ?_;refine ac ?_;refine cz (fun hi=>F1 14 _ (aH.refl _ _) (by rw[hnn (by omega)]; rfl)) (fun hi=>?_);rw[if_neg (hno hi)]at F1;have f8:∀b:Bool,(b=true↔((m.st.length:Int)<r.2.2.1∨(m.st.length:Int)-r.2.2.1+r.2.2.2>16))→uO (.pointer (some ⟨c.bn,0,none⟩)) (.pointer (some ⟨wd.heap.size,0,none⟩)) (.pointer (some ⟨w18.heap.size,0,none⟩)) (.int .i64 0) (.int .i64 m.st.length) (.bool b) PQ0 w20:=by
  intro b hb2;unfold uO;refine ac ?_;refine dh (fun ht=>F1 12 _ (aH.refl _ _) (by rw[if_pos (hb2.1 ht)])) (fun ht=>?_);rw[if_neg (fun hh=>by rw[hb2.2 hh]at ht; cases ht)]at F1;have md:Same w20 w20.drew:=(aH.refl (fun _=>False) _).drew;have hxd:=md.get hx20 (fun h=>h);have hbd:=md.get hbm (fun h=>h);generalize w20.drew=wk at *;have f9:∀b:Bool,(b=true↔((x.op=20∨x.op=21)∧(x.a<0∨x.a>(l.length:Int))))→kc (.pointer (some ⟨c.bn,0,none⟩)) (.pointer (some ⟨wd.heap.size,0,none⟩)) (.pointer (some ⟨w18.heap.size,0,none⟩)) (.int .i64 0) (.int .i64 m.st.length) (.bool b) PQ0 wk:=by
   intro b hb9;unfold kc;refine ac ?_;refine dh (fun ht=>F1 13 _ md (by rw[if_pos (hb9.1 ht)])) (fun ht=>?_);exact F1 0 _ md (by rw[if_neg (fun hh=>by rw[hb9.2 hh]at ht; cases ht)])
  have fj:(x.op=20∨x.op=21)→(ai 1 (.pointer (some ⟨wd.heap.size,0,none⟩)) fun v115=>aw v115 wk fun v116=>kG (wk=wk)<|kint .i64 .lss v116 (.int .i64 0) fun v117=>kB v117 fun b118=>aA (!b118) (ai 1 (.pointer (some ⟨wd.heap.size,0,none⟩)) fun v119=>aw v119 wk fun v120=>kG (wk=wk)<|kN (.pointer (some ⟨c.bn,0,none⟩))<|ai 5 (.pointer (some ⟨c.bn,0,none⟩)) fun v121=>aw v121 wk fun v122=>kG (wk=wk)<|aU v122 fun v123=>kint .i64 .gtr v120 v123 fun v125=>kc (.pointer (some ⟨c.bn,0,none⟩)) (.pointer (some ⟨wd.heap.size,0,none⟩)) (.pointer (some ⟨w18.heap.size,0,none⟩)) (.int .i64 0) (.int .i64 m.st.length) v125 PQ0 wk) (kc (.pointer (some ⟨c.bn,0,none⟩)) (.pointer (some ⟨wd.heap.size,0,none⟩)) (.pointer (some ⟨w18.heap.size,0,none⟩)) (.int .i64 0) (.int .i64 m.st.length) (.bool true) PQ0 wk)):=by
   intro hj;refine aa ?_;refine ao (v:=.int .i64 x.a) hxd rfl ?_;refine ah rfl ?_;refine aM ?_;refine ac ?_;refine cz (fun h0=>?_) (fun h0=>f9 true (by simp[hj,h0]));refine aa ?_;refine ao (v:=.int .i64 x.a) hxd rfl ?_;refine ah rfl ?_;refine aq ?_;refine aa ?_;refine aj (v:=.slice (some ⟨ba,o,none⟩) l.length lc) hbd rfl ?_;refine ah rfl ?_;refine aK ?_;refine bO ?_;exact f9 _ (by simp only[decide_eq_true_eq]; exact⟨fun hh=>⟨hj,.inr hh⟩,fun hh=>by omega⟩)
  refine aa ?_;refine ao (v:=.int .i64 x.op) hxd rfl ?_;refine ah rfl ?_;refine aF ?_;refine ac ?_;refine cz (fun h20=>?_) (fun h20=>fj (.inl h20));refine aa ?_;refine ao (v:=.int .i64 x.op) hxd rfl ?_;refine ah rfl ?_;refine aF ?_;refine ac ?_;refine am (fun h21=>fj (.inr h21)) (fun h21=>f9 false (by simp[h20,h21]))
 refine aa ?_;refine ao (v:=.int .i64 r.2.2.1) hb20 hr2 ?_;refine aM ?_;refine ac ?_;refine cz (fun h0=>?_) (fun h0=>f8 true (by simp[h0]));refine aa ?_;refine ao (v:=.int .i64 r.2.2.1) hb20 hr2 ?_;refine cM (by omega) (by omega) ?_;refine aa ?_;refine ao (v:=.int .i64 r.2.2.2) hb20 hr3 ?_;refine aY (by omega) (by omega) ?_;refine bO ?_;exact f8 _ (by simp only[decide_eq_true_eq]; exact⟨.inr,fun hh=>hh.resolve_left h0⟩)
end
end
section
attribute [local irreducible] kO kB bG bH kN kG aA ai aw aB bj knew bB aP ay aE bk aD aU bC bD a8 kbool kint kstr keq kun ksl bz cQ kta kmk kmm ksem ksemU bd aI aL ae kL
section
variable {c:RC} {many:Nat} {fr nx:Int} {l:List IN} {lo:Nat} {E:Nat→Prop} {w w':World} {m:MS LS}
theorem CC {σ:Type} {H:dE σ} {P:σ→Prop} (hw:∀s n,bZ n→P s→P (H.wr s x n)) (hd:∀s n,P s→P (H.dr s n).1) {m:MS σ} {a:List Int} (ha:di a) (h:P m.h):P (ko H m x a).h:=by
 have n0:=mW ha 0;unfold ko;iterate 5 refine aG (P:=fun z:MS σ=>P z.h) (fun _=>h) (fun _=>?_)
 refine aG (P:=fun z:MS σ=>P z.h) (fun _=>hd _ _ h) (fun _=>?_);iterate 3 refine aG (P:=fun z:MS σ=>P z.h) (fun _=>h) (fun _=>?_)
 refine aG (P:=fun z:MS σ=>P z.h) (fun _=>aG (P:=fun z:MS σ=>P z.h) (fun _=>h) (fun _=>h)) (fun _=>?_);refine aG (P:=fun z:MS σ=>P z.h) (fun _=>h) (fun _=>?_);iterate 2 refine aG (P:=fun z:MS σ=>P z.h) (fun _=>hw _ _ n0 h) (fun _=>?_)
 iterate 4 refine aG (P:=fun z:MS σ=>P z.h) (fun _=>hw _ _ eE h) (fun _=>?_)
 exact h
theorem tC {σ:Type} {H:dE σ} {P:σ→Prop} (hw:∀x∈l,∀s n,bZ n→P s→P (H.wr s x n)) (hd:∀s n,P s→P (H.dr s n).1) {m:MS σ} (hn:di m.st) (h:P m.h):P (cE H l m).1.h:=by
 by_cases ho:eZ l.length m=true
 ·rw[eF ho]; exact h
 ·cases hx:l[m.place]? with
  | none=>rw[fU ho hx]; exact h
  | some x =>
   rw[fT ho hx];by_cases hc:dK l.length m x≠0
   ·rw[if_pos hc]; exact h
   ·rw[if_neg hc];show P (iy H (eD m x) x _).h;unfold iy;cases H.rd (eD m x).h x with
    | some v=>exact h
    | none=>exact CC (hw x (List.mem_of_getElem? hx)) hd (fun v hv=>hn v (List.mem_of_mem_drop hv)) h
def NumLS (s:LS):Prop:=nr s.1∧di s.2.R∧∀x∈s.2.l,x.ok
section
variable {wd og:Bool} {n most:Nat} {who:Int} {hh:HC}
theorem Fp (hf:bZ fr) (hi:bZ hh.who) {x:IN} (hx:okIN x) (s:LS) (v:Int) (hv:bZ v) (h:NumLS s):NumLS ((bW (cV wd og n most fr who) hh).wr s x v):=by
 show NumLS (if x.op=23 then _ else if x.op=27 then _ else _);refine aG (P:=NumLS) (fun _=>?_) (fun _=>aG (P:=NumLS) (fun _=>?_) (fun _=>?_))
 ·exact aG (P:=NumLS) (fun _=>⟨uE h.1 _ _ _ hv hf,h.2⟩) (fun _=>h)
 ·exact aG (P:=NumLS) (fun _=>⟨h.1,Bl h.2.1 _ hv,h.2.2⟩) (fun _=>h)
 ·obtain⟨e1,_⟩:=pS (og:=og) (n:=n) (most:=most) (s:=s.2) (x:=eu hh x);refine⟨h.1,by show di (cJ og n most s.2 (eu hh x)).R; rw[e1]; exact h.2.1,?_⟩;show ∀y∈(cJ og n most s.2 (eu hh x)).l,y.ok;unfold cJ;refine aG (P:=fun z:NB=>∀y∈z.l,y.ok) (fun _=>aG (P:=fun z:NB=>∀y∈z.l,y.ok) (fun _=>aG (P:=fun z:NB=>∀y∈z.l,y.ok) (fun _=>h.2.2) (fun _ y hy=>?_)) (fun _=>h.2.2)) (fun _=>h.2.2);rcases List.mem_append.1 hy with hy | hy
  ·exact h.2.2 y hy
  ·rw[List.mem_singleton.1 hy]; exact pM hi hx
theorem Fq (s:LS) (v:Int) (h:NumLS s):NumLS ((bW (cV wd og n most fr who) hh).dr s v).1 :=
 aG (P:=fun z:LS×Int=>NumLS z.1) (fun _=>h) (fun _=>h)
theorem Fr (hf:bZ fr) (hi:bZ hh.who∧bZ hh.i0∧bZ hh.i1) {x:IN} (hx:okIN x) {s:LS} (h:NumLS s) {v:Int} (hv:(bW (cV wd og n most fr who) hh).rd s x=some v):bZ v:=by
 have fin:∀{o:Option Int},o=some v→(∀u,o=some u→bZ u)→bZ v:=fun e g=>g v e;refine fin hv ?_;refine aG (P:=fun o=>∀u,o=some u→bZ u) (fun _ u e=>by cases e; exact hx) (fun _=>?_);refine aG (P:=fun o=>∀u,o=some u→bZ u) (fun _ u e=>by
  cases e;refine ut (fun q hq=>?_) _;have hq:(if wd=true then ge s.1 who x.a else none)=some q:=hq;split at hq
  ·exact uG h.1 hq
  ·cases hq) (fun _=>?_)
 refine aG (P:=fun o=>∀u,o=some u→bZ u) (fun _ u e=>by cases e; exact j8 _) (fun _=>?_);refine aG (P:=fun o=>∀u,o=some u→bZ u) (fun _ u e=>by cases e; exact aG (P:=bZ) (fun _=>eE) (fun _=>aG (P:=bZ) (fun _=>hi.2.1) (fun _=>hi.2.2))) (fun _=>?_);refine aG (P:=fun o=>∀u,o=some u→bZ u) (fun _ u e=>by
  cases e;show bZ ((if wd=true then iX s.2.R x.a else none).getD 0);refine aG (P:=fun o:Option Int=>bZ (o.getD 0)) (fun _=>?_) (fun _=>eE);cases hr:iX s.2.R x.a with
  | none=>exact eE
  | some r =>
   unfold iX at hr;split at hr
   ·cases hr
   ·exact h.2.1 r (List.mem_of_getElem? hr)) (fun _=>?_)
 refine aG (P:=fun o=>∀u,o=some u→bZ u) (fun _ u e=>by cases e; exact hi.1) (fun _=>?_);refine aG (P:=fun o=>∀u,o=some u→bZ u) (fun _ u e=>by cases e; exact aG (P:=bZ) (fun _=>hf) (fun _=>eE)) (fun _ u e=>by cases e)
end
theorem Q2 (bv bu:Nat) (wd og:Bool) (i0 i1 who fuel:Int) (l:List IN) (la:Option Addr) (lc:Nat) (w:World) :
  af Tryz.prog 7 #[.pointer (if wd=true then some ⟨bv,0,none⟩ else none),.pointer (if og=true then some ⟨bu,0,none⟩ else none),.agg #[.int .i64 i0,.int .i64 i1],.int .i64 who,.slice la l.length lc,.int .i64 fuel] w fun v w' =>
   v=.pointer (some ⟨w.heap.size+1,0,none⟩)∧Same w w'∧w'.heap.size=w.heap.size+2∧∀s:LS,aX w' (w.heap.size+1)=some (.cells ((⟨w.heap.size+1,bv,bu,wd,og,i0,i1,who⟩:RC).cells (.slice la l.length lc) (natV (MS.first fuel s).place) (.slice none 0 0) (natV (MS.first fuel s).fuel) (.bool (MS.first fuel s).over)) 58):=by
 refine Pv ?_;unfold f7;refine ar fun w2 h2 hs2 hb2=>?_;have hb2:aX w2 w.heap.size=some (.cells #[.int .i64 i0,.int .i64 i1] 24):=hb2;refine au (cs:=[.int .i64 i0,.int .i64 i1]) hb2 rfl (by omega) ?_;rw[jI,lr];have hfu:(.int .i64 (min (max fuel 0) 4096):Value)=natV (dv fuel):=by
  unfold natV dv;rw[Int.toNat_of_nonneg (by omega)]
 rw[hfu];refine aW (cs:=((⟨w.heap.size+1,bv,bu,wd,og,i0,i1,who⟩:RC).cells (.slice la l.length lc) (natV 0) (.slice none 0 0) (natV (dv fuel)) (.bool false)).toList) rfl ?_;refine ar fun w12 h12 hs12 hb12=>?_;rw[hs2]at hb12 ⊢;exact⟨rfl,h2.trans h12,by omega,fun s=>hb12⟩
theorem Q3 (h:lh c many fr nx l lo E w m) (hg:m.good l.length) (hl:l.length≤100000) (hok:∀x∈l,okIN x) (hc:cI m.h.2+m.fuel≤4999) (hnum:di m.st) (hwho:bZ c.who) {hh:HC} (eh:hh.who=c.who∧hh.i0=c.i0∧hh.i1=c.i1) (hi01:bZ c.i0∧bZ c.i1) (hfr:bZ fr) (hnl:NumLS m.h) :
  af Tryz.prog 9 #[.pointer (some ⟨c.bn,0,none⟩)] w fun v w'=>v=.tuple #[natV (fC (bW (cV c.wd c.og plainC.length many fr c.who) hh) l (m.fuel+1) m).1.fuel,natV (fC (bW (cV c.wd c.og plainC.length many fr c.who) hh) l (m.fuel+1) m).2] ∧
   lh c many fr nx l lo (cX w w' E) w' (fC (bW (cV c.wd c.og plainC.length many fr c.who) hh) l (m.fuel+1) m).1∧aH (fun k=>k=c.bn∨k=c.bv∨k=c.bu) w w':=by
 have hhi:bZ hh.who∧bZ hh.i0∧bZ hh.i1:=by rw[eh.1,eh.2.1,eh.2.2]; exact⟨hwho,hi01.1,hi01.2⟩
 have kw:∀x∈l,∀s n,bZ n→NumLS s→NumLS ((bW (cV c.wd c.og plainC.length many fr c.who) hh).wr s x n):=fun x hx s v hv h=>Fp hfr hhi.1 (hok x hx) s v hv h;have kd:=fun s v h=>Fq (fr:=fr) (wd:=c.wd) (og:=c.og) (n:=plainC.length) (most:=many) (who:=c.who) (hh:=hh) s v h;have kr:=fun {x:IN} (hx:okIN x) {s:LS} (h:NumLS s) {v:Int} hv=>Fr (wd:=c.wd) (og:=c.og) (n:=plainC.length) (most:=many) (who:=c.who) (hh:=hh) hfr hhi hx h (v:=v) hv;generalize hH:bW (cV c.wd c.og plainC.length many fr c.who) hh=H at *;have hrdo:∀s x,H.rd s x≠none→du x.op:=by rw[←hH]; exact nq
 have cw:∀s x n,cI (H.wr s x n).2≤cI s.2+1:=by
  intro s x n;rw[←hH];show cI (if x.op=23 then _ else if x.op=27 then _ else _:LS).2≤_;refine aG (P:=fun z:LS=>cI z.2≤cI s.2+1) (fun _=>?_) (fun _=>aG (P:=fun z:LS=>cI z.2≤cI s.2+1) (fun _=>?_) (fun _=>kb _ _ _ _ _))
  ·refine aG (P:=fun z:LS=>cI z.2≤cI s.2+1) (fun _=>Nat.le_succ _) (fun _=>Nat.le_succ _)
  ·refine aG (P:=fun z:LS=>cI z.2≤cI s.2+1) (fun _=>Nat.le_succ _) (fun _=>Nat.le_succ _)
 have cd:∀s n,cI (H.dr s n).1.2≤cI s.2+1:=by
  intro s n;rw[←hH];show cI (if c.wd=true then _ else _:LS×Int).1.2≤_;refine aG (P:=fun z:LS×Int=>cI z.1.2≤cI s.2+1) (fun _=>Nat.le_succ _) (fun _=>Nat.le_succ _)
 have dr64:∀s n,bZ (H.dr s n).2:=by
  intro s n;rw[←hH];show bZ (if c.wd=true then _ else _:LS×Int).2;refine aG (P:=fun z:LS×Int=>bZ z.2) (fun _=>ux _ _) (fun _=>eE)
 refine Px ?_;unfold f9;refine xU m.fuel (fun i w1=>∃m1,lh c many fr nx l lo (cX w w1 E) w1 m1∧m1.good l.length∧m1.fuel+i=m.fuel∧cI m1.h.2+m1.fuel≤4999∧(di m1.st∧NumLS m1.h)∧fC H l (m1.fuel+1) m1=fC H l (m.fuel+1) m∧aH (fun k=>k=c.bn∨k=c.bv∨k=c.bu) w w1) ⟨xT ⟨m,h.weak (fun k hk=>.inl hk),hg,rfl,hc,⟨hnum,hnl⟩,rfl,aH.refl _ _⟩,fun w1 hx=>?_⟩;obtain⟨i,hi',⟨m1,hD,hg1,hfu,hco,⟨hnum1,hnl1⟩,hrun,hmod⟩,hJ⟩:=jN hx;unfold Pw;have hst:=P2 hD hg1 hl hok (by omega) hnum1 hwho eh;rw[hH]at hst;refine ab hst ?_;rintro v w7 ⟨rfl,hD7,hm7⟩;obtain⟨g1,g2,g3⟩:=mb H hrdo l m1 hg1;have gc:=mX (cost:=fun s:LS=>cI s.2) cw cd l m1;have er:fC H l (m1.fuel+1) m1=if (cE H l m1).2.1=true then fC H l m1.fuel (cE H l m1).1 else((cE H l m1).1,(cE H l m1).2.2):=rfl
 refine ak rfl ?_;refine ak rfl ?_;refine bP ?_;refine ac ?_;have hD7':lh c many fr nx l lo (cX w w7 E) w7 (cE H l m1).1:=hD7.weak fun k hk=>by
  have:=hmod.size;have:=hm7.size;rcases hk with(hk | hk) | hk
  ·exact .inl hk
  ·exact .inr ⟨hk.1,by omega⟩
  ·exact .inr ⟨by omega,hk.2⟩
 refine dh (fun hb=>?_) (fun hb=>?_)
 ·have hb:(cE H l m1).2.1=false:=by simpa using hb
  rw[hb,if_neg Bool.false_ne_true]at er;rw[er]at hrun;obtain⟨⟨U,Uu,la,lc,sv,⟨hb7,_⟩,_⟩,_⟩:=hD7;refine aq ?_;refine aa ?_;refine aj (v:=natV (cE H l m1).1.fuel) hb7 rfl ?_;rw[←hrun];exact⟨rfl,hD7',hmod.trans hm7⟩
 ·have hb:(cE H l m1).2.1=true:=by simpa using hb
  rw[hb,if_pos rfl]at er;have g3:=g3 hb;have gc:cI (cE H l m1).1.h.2≤cI m1.h.2+1:=gc;refine hJ _ (by omega) ⟨_,hD7',g1,by omega,by omega,⟨ot dr64 (fun x hx v hv=>kr (hok x hx) hnl1 hv) hnum1,tC kw kd hnum1 hnl1⟩,?_,hmod.trans hm7⟩;rw[g3,←er,hrun]
end
end
section
attribute [local irreducible] kO kB bG bH kN kG aA ai aw aB bj knew bB aP ay aE bk aD aU bC bD a8 kbool kint kstr keq kun ksl bz cQ kta kmk kmm ksem ksemU bd aI aL ae kL
theorem wP (hL:lS S w) {k lo j:Nat} (hk:1≤k∧k≤18) (hj:1≤j∧j≤18) {x:Value} (h:cC S k lo x w):af Tryz.prog 38 #[x,.int .i64 j] w fun v w'=>v=.bool (decide (k=j))∧w'=w:=by
 refine IH ?_;unfold Rw;refine ab (C6 hL j hj.1 hj.2) ?_;rintro v w' ⟨rfl,rfl⟩;rw[errV,dB bU];refine ac ?_;refine aN rfl ?_;refine ab (l5 hL.toP hk hj h) ?_;rintro v w' ⟨rfl,rfl⟩;exact⟨rfl,rfl⟩
theorem wQ (hL:lS S w) {k lo:Nat} (hk:1≤k∧k≤18) {x:Value} (h:cC S k lo x w):af Tryz.prog 10 #[x] w fun v w'=>v=.int .i64 k∧w'=w:=by
 obtain⟨t,y,rfl⟩:=h.if;refine xI ?_;unfold Qn;rw[dT bU];refine ac ?_;refine az rfl ?_;unfold FH;refine cA 18 (fun i z wr=>z=.int .i64 i∧wr=w∧i<k) ⟨c8 ⟨rfl,rfl,by omega⟩,fun z wr hx=>?_⟩;obtain⟨i,hi,⟨rfl,rfl,hik⟩,hJ⟩:=bK hx;unfold FG;refine aM ?_;refine ac ?_;refine aN (co (by omega)) ?_;unfold FF;refine aY (by omega) (by omega) ?_;rw[a7];refine ab (wP hL hk (j:=i+1) ⟨by omega,by omega⟩ h) ?_;rintro v w' ⟨rfl,rfl⟩;refine ac ?_;refine am (fun he=>?_) (fun hn=>?_)
 ·refine aY (by omega) (by omega) ?_;rw[a7];exact⟨by rw[he],rfl⟩
 ·unfold FE;refine aY (by omega) (by omega) ?_;rw[a7];exact hJ _ _ (by omega) ⟨rfl,rfl,by omega⟩
theorem wR (hL:lS S w) {k lo:Nat} (hk:k≤18) {x:Value} (h:gN S k lo x w):af Tryz.prog 10 #[x] w fun v w'=>v=.int .i64 k∧w'=w:=by
 by_cases h0:k=0
 ·unfold gN at h;rw[if_pos h0]at h;subst h h0;refine xI ?_;unfold Qn;rw[gp bU];refine ac ?_;exact aN rfl ⟨rfl,rfl⟩
 ·unfold gN at h;rw[if_neg h0]at h;exact wQ hL ⟨by omega,hk⟩ h
theorem Fs {l1 l2:List BeV} (h1:aZ w a1 l1.length 2 (l1.flatMap BeV.cells)) (h2:aZ w a2 l2.length 2 (l2.flatMap BeV.cells)) (p1:∀b∈l1,aZ w b.pa b.parts.length 6 (b.parts.flatMap Part.cells)) (p2:∀b∈l2,aZ w b.pa b.parts.length 6 (b.parts.flatMap Part.cells))
  (he:l1.map BeV.key=l2.map BeV.key) (hok:∀b∈l1,∀q∈b.parts,q.ok) (hln:∀b∈l1,b.parts.length≤1000000) (hl:l1.length≤1000000):af Tryz.prog 23 #[.slice a1 l1.length c1,.slice a2 l2.length c2] w fun v w'=>v=.bool true∧Same w w':=by
 have hlen:l1.length=l2.length:=by have:=congrArg List.length he; simpa using this
 refine L0 ?_;unfold f23;refine aK ?_;refine aK ?_;refine cu ?_;refine ac ?_;refine am (fun h=>absurd (by omega) h) (fun _=>?_);unfold Iq;refine cA l1.length (fun i x wr=>x=.int .i64 i∧Same w wr) ⟨c8 ⟨rfl,aH.refl _ _⟩,fun x wr hx=>?_⟩;obtain⟨i,hi,⟨rfl,hm⟩,hJ⟩:=bK hx;unfold Ip;refine aK ?_;refine aM ?_;refine ac ?_;refine am (fun hlt=>?_) (fun hge=>?_)
 ·have hlt:i<l1.length:=by omega
  have hlt2:i<l2.length:=by omega
  have md:Same wr wr.drew:=(aH.refl (fun _=>False) _).drew;have hmd:=hm.trans md;unfold Im;generalize wr.drew=wd at *;have hk:(l1[i]).key=(l2[i]).key:=by
   have:=List.getElem_of_eq he (i:=i) (by rw[List.length_map]; exact hlt);rw[List.getElem_map,List.getElem_map]at this;exact this
  have e1:(l1[i]).id=(l2[i]).id:=congrArg (·.1) hk;have e2:(l2[i]).parts=(l1[i]).parts:=(congrArg (·.2) hk).symm;have m1:=List.getElem_mem hlt;have m2:=List.getElem_mem hlt2;refine bL (F:=BeV.cells) (sz:=2) (fun _=>rfl) (j:=0) (h1.same hmd) hlt rfl rfl ?_;refine ah rfl ?_;refine bL (F:=BeV.cells) (sz:=2) (fun _=>rfl) (j:=0) (h2.same hmd) hlt2 rfl rfl ?_;refine ah rfl ?_;unfold natV;refine cu ?_;refine ac ?_;refine cz (fun _=>?_) (fun h=>absurd (by rw[e1]) h);refine bL (F:=BeV.cells) (sz:=2) (fun _=>rfl) (j:=1) (h1.same hmd) hlt rfl rfl ?_;refine ah rfl ?_;refine bL (F:=BeV.cells) (sz:=2) (fun _=>rfl) (j:=1) (h2.same hmd) hlt2 rfl rfl ?_;refine ah rfl ?_;have s2:=(p2 _ m2).same hmd;rw[e2]at s2 ⊢;refine ab (vR (hok _ m1) (hln _ m1) ((p1 _ m1).same hmd) s2) ?_;rintro v w24 ⟨rfl,h24⟩;refine bP ?_;unfold Ck;refine ac ?_;refine az rfl ?_;unfold Il;refine aY (by omega) (by omega) ?_;rw[a7];exact hJ _ _ hlt ⟨rfl,hmd.trans h24⟩
 ·unfold Io;exact⟨rfl,hm⟩
theorem Mi (s t:nl) (hs:lq lo w s) (ht:lq lo' w t) (he:s.m=t.m) (hok:∀b∈s.bl,∀q∈b.parts,q.ok) (hln:∀b∈s.bl,b.parts.length≤1000000) (hl:s.bl.length≤1000000) (hR:s.R.length≤1000000) :
  af Tryz.prog 11 #[s.val,t.val] w fun v w'=>v=.bool true∧Same w w':=by
 have ef:s.frame=t.frame:=congrArg wX.frame he;have en:s.next=t.next:=congrArg wX.next he;have es:s.seed=t.seed:=congrArg wX.seed he;have ev:s.bl.map BeV.key=t.bl.map BeV.key:=congrArg wX.beings he;have eR:s.R=t.R:=congrArg wX.R he;unfold nl.val;refine LZ ?_;unfold f11;refine ar fun w2 h2 hs2 hb2=>?_;have hb2:aX w2 w.heap.size=some (.cells s.cells.toArray 51):=hb2;refine ar fun w4 h4 hs4 hb4=>?_;have hb4:aX w4 w2.heap.size=some (.cells t.cells.toArray 51):=hb4;have hb2:=h4.get hb2 (fun h=>h);have m4:=h2.trans h4;refine aa ?_;refine ao (v:=.int .i64 s.frame) hb2 rfl ?_;refine aa ?_;refine ao (v:=.int .i64 t.frame) hb4 rfl ?_;refine aF ?_;refine ac ?_;refine aN (co ef) ?_;refine aa ?_;refine ao (v:=natV s.next) hb2 rfl ?_;refine aa ?_;refine ao (v:=natV t.next) hb4 rfl ?_;unfold natV;refine aF ?_;refine ac ?_;refine aN (co (by omega)) ?_;refine aa ?_;refine ao (v:=.int .i64 s.seed) hb2 rfl ?_;refine aa ?_;refine ao (v:=.int .i64 t.seed) hb4 rfl ?_;refine aF ?_;refine ac ?_;refine aN (co es) ?_;refine aa ?_;refine ao (v:=.slice s.xa s.bl.length s.xc) hb2 rfl ?_;refine aa ?_;refine ao (v:=.slice t.xa t.bl.length t.xc) hb4 rfl ?_;refine ab (Fs (hs.xs.same m4) (ht.xs.same m4) (fun b hb=>(hs.ps b hb).same m4) (fun b hb=>(ht.ps b hb).same m4) ev hok hln hl) ?_;rintro v w28 ⟨rfl,h28⟩;refine ac ?_;refine aN rfl ?_;refine aa ?_;refine ao (v:=.slice s.ra s.R.length s.rc) (h28.get hb2 (fun h=>h)) rfl ?_;refine aa ?_;refine ao (v:=.slice t.ra t.R.length t.rc) (h28.get hb4 (fun h=>h)) rfl ?_;refine ab (mY (hs.rs.same (m4.trans h28)) (ht.rs.same (m4.trans h28)) (by omega)) ?_;rintro v w35 ⟨rfl,h35⟩;exact⟨by rw[decide_eq_true eR],(m4.trans h28).trans h35⟩
def dG (L:List Comp) (c:Int):Bool:=if 0≤c then((L[c.toNat]?).map (·.rb)).getD false else false
def Mw (L:List Comp) (V:d8):d8:=V.map fun y=>(y.1,y.2.filter fun q=>dG L q.comp)
section
variable {L:List Comp} {bv:Nat} {U:Nat→Prop} {w w':World} {m:wI}
theorem CD (h:dp L bv U w m) (c:Int):af Tryz.prog 44 #[.pointer (some ⟨bv,0,none⟩),.int .i64 c] w fun v w'=>v=.bool (dG L c)∧w'=w:=by
 obtain⟨a,cp,rv,la,lc,ga,gc,ll,hb,⟨g2,g3,g4,g5⟩,_⟩:=id h.ex;refine Cf ?_;unfold QO;refine bI ?_;refine ac ?_;unfold dG;refine am (fun h0=>?_) (fun h0=>⟨by rw[if_neg (by omega)],rfl⟩);rw[if_pos h0];obtain⟨k,rfl⟩:∃k:Nat,c=(k:Int):=⟨c.toNat,by omega⟩
 rw[Int.toNat_natCast];refine aq ?_;refine aa ?_;refine aa ?_;refine aj hb rfl ?_;refine aK ?_;refine aM ?_;refine ac ?_;refine am (fun h1=>?_) (fun h1=>⟨by rw[List.getElem?_eq_none (by omega)]; rfl,rfl⟩);refine aq ?_;refine aa ?_;refine aa ?_;refine aj hb rfl ?_;have hk:k<L.length:=by omega
 refine bL (F:=Comp.cells) (sz:=7) (fun _=>rfl) (j:=2) g2 hk rfl rfl ?_;exact⟨by rw[List.getElem?_eq_getElem hk]; rfl,rfl⟩
theorem CE (h:dp L bv U w m) (hn:m.V.length≤1000) (hP:∀y∈m.V,y.2.length≤100) {i:Nat} (hi:i<m.V.length) {b2 b3 bb:Nat} (hbb:aX w bb=some (.cells #[natV (m.V[i]).1,.slice none 0 0] 101)) (hne:∀k,U k→k≠bb) {J:Value→World→Prop} {Q:PQ}
  (hQ:∀wr pv,aX wr bb=some (.cells #[natV (m.V[i]).1,pv] 101)→bV wr pv 6 (((m.V[i]).2.filter fun q=>dG L q.comp).flatMap Part.cells)→(∀k,bf pv k→w.heap.size≤k)→aH (fun k=>k=bb) w wr→Ci (.pointer (some ⟨bv,0,none⟩)) (.pointer (some ⟨b2,0,none⟩)) (.pointer (some ⟨b3,0,none⟩)) (.int .i64 i) (.pointer (some ⟨bb,0,none⟩)) J Q wr) :
  kL fun(I:Value→World→Prop) (μ:Value→World→Nat)=>I (.int .i64 0) w∧∀(x6:Value) (w1:World),I x6 w1→Cj x6 (.pointer (some ⟨bv,0,none⟩)) (.pointer (some ⟨b2,0,none⟩)) (.pointer (some ⟨b3,0,none⟩)) (.int .i64 i) (.pointer (some ⟨bb,0,none⟩)) (fun y6 w2=>I y6 w2∧μ y6 w2<μ x6 w1) J Q w1:=by
 obtain⟨a,cp,rv,la,lc,ga,gc,ll,hb,⟨g2,g3,g4,g5⟩,g6,g7,k1,k2,k3,k4⟩:=id h.ex;have hll:ll.length=m.V.length:=by rw[←g6,List.length_map]
 have hil:i<ll.length:=by omega
 have key:(ll[i]).key=m.V[i]:=by
  have:=List.getElem_of_eq g6 (i:=i) (by rw[List.length_map]; exact hil);rw[←this,List.getElem_map]
 have kp:(ll[i]).parts=(m.V[i]).2:=congrArg (·.2) key;have hml:=List.getElem_mem hil;have hs0:=g4 _ hml;have hpl:=hP _ (List.getElem_mem hi);generalize (m.V[i]).2=P at *;generalize (m.V[i]).1=bid at *;refine cA P.length (fun j x wr=>x=.int .i64 j∧(∃pv,aX wr bb=some (.cells #[natV bid,pv] 101)∧bV wr pv 6 (((P.take j).filter fun q=>dG L q.comp).flatMap Part.cells)∧∀k,bf pv k→w.heap.size≤k)∧aH (fun k=>k=bb) w wr) ⟨c8 ⟨rfl,⟨_,hbb,bV.nil _ _,fun k hk=>absurd hk (Ll k)⟩,aH.refl _ _⟩,fun x wr hx=>?_⟩;obtain⟨j,hj,⟨rfl,⟨pv,hbr,hO,hpv⟩,hm⟩,hJ⟩:=bK hx;have hr:=h.mod hm hne;have hbw:=hm.get hb (hne _ h.own);have s3:=g3.mod hm (fun k f e=>hne k (k2 k f e).1);have s4:=hs0.mod hm (fun k f e=>hne k (k4 _ hml k f e).1);have hz:=hm.size;unfold Cj;refine aq ?_;refine aa ?_;refine aj hbw rfl ?_;refine bL (F:=BeV.cells) (sz:=2) (fun _=>rfl) (j:=1) s3 hil rfl rfl ?_;rw[kp]at s4 ⊢;refine aK ?_;refine aM ?_;refine ac ?_;refine am (fun hlt=>?_) (fun hge=>?_)
 ·have hlt:j<P.length:=by omega
  have hft:((P.take (j+1)).filter fun q=>dG L q.comp)=if dG L (P[j]).comp=true then((P.take j).filter fun q=>dG L q.comp)++[P[j]] else(P.take j).filter fun q=>dG L q.comp:=by
   rw[List.take_succ_eq_append_getElem hlt,List.filter_append];split
   ·rename_i hh; rw[List.filter_cons_of_pos (by simpa using hh)]; rfl
   ·rename_i hh; rw[List.filter_cons_of_neg (by simpa using hh)]; simp
  unfold Ig;refine aq ?_;refine aa ?_;refine aj hbw rfl ?_;refine bL (F:=BeV.cells) (sz:=2) (fun _=>rfl) (j:=1) s3 hil rfl rfl ?_;rw[kp];refine bL (F:=Part.cells) (sz:=6) (fun _=>rfl) (j:=0) s4 hlt rfl rfl ?_;refine ab (CD hr (P[j]).comp) ?_;rintro v w46 ⟨rfl,rfl⟩;refine ac ?_;refine dh (fun ht=>?_) (fun ht=>?_)
  ·have md:Same w46 w46.drew:=(aH.refl (fun _=>False) _).drew;have hbwd:=md.get hbw (fun h=>h);have hbrd:=md.get hbr (fun h=>h);have s3d:=s3.same md;have s4d:=s4.same md;have hOd:=hO.same md;have hmd:aH (fun k=>k=bb) w w46.drew:=hm.drew;generalize w46.drew=wd at *;obtain⟨pa,pn,pc,rfl,hps,_⟩:=hOd.is;refine aa ?_;refine ao (v:=.slice pa pn pc) hbrd rfl ?_;refine ah rfl ?_;refine aq ?_;refine aa ?_;refine aj hbwd rfl ?_;refine ah rfl ?_;refine bL (F:=BeV.cells) (sz:=2) (fun _=>rfl) (j:=1) s3d hil rfl rfl ?_;refine ah rfl ?_;rw[kp];refine cK (F:=Part.cells) (sz:=6) (fun _=>rfl) (by omega) s4d hlt rfl ?_;refine ah rfl ?_;refine aR (cs:=(P[j]).cells) rfl fun w57 h57 hs57 hb57=>?_;have hbr57:=h57.get hbrd (fun h=>h);refine ah (ao (v:=.slice pa pn pc) hbr57 rfl ⟨rfl,rfl⟩) ?_;have hfl:=flat_len Part.cells 6 (fun _=>rfl) ((P.take j).filter fun q=>dG L q.comp);have hfe:((P.take j).filter fun q=>dG L q.comp).length≤P.length:=Nat.le_trans (List.length_filter_le _ _) (by rw[List.length_take]; omega);refine be pR (by omega) (hOd.same h57) (Src.ofSlIs (hk:=jy.choose_spec) 1 (aZ.blk hb57 rfl) rfl) (by rw[hfl]; show _+6≤_; omega) (by rw[hfl]; show _; simp[Part.cells]; omega) ?_;intro v' w59 hO59 m59 hf59;have hv59:∀k,bf v' k→w.heap.size≤k:=fun k hk=>by
    rcases hf59 k hk with e | e
    ·exact hpv k e
    ·exact Nat.le_trans (Nat.le_trans hmd.size h57.size) e
   have hlb:=aC hbb;have hb59:=m59.get hbr57 (fun e=>by have:=hpv _ e; omega);obtain⟨pa2,pn2,pc2,rfl,_⟩:=hO59.is;refine aa ?_;refine bJ hb59 rfl rfl (by show 1<2; omega) fun w61 h61 hs61 hb61=>?_;have m61:aH (fun k=>k=bb) w w61:=((hmd.trans (aH.of_same h57)).trans' (m59.mono fun k _ e=>.inr (hpv k e))).trans h61;unfold uQ;refine aY (by omega) (by omega) ?_;rw[a7];refine hJ _ _ hlt ⟨rfl,⟨_,hb61,?_,hv59⟩,m61⟩;rw[hft,if_pos ht,List.flatMap_append,List.flatMap_singleton];exact hO59.mod h61 fun k hk e=>by have:=hv59 k hk; omega
  ·unfold uQ;refine aY (by omega) (by omega) ?_;rw[a7];refine hJ _ _ hlt ⟨rfl,⟨pv,hbr,?_,hpv⟩,hm⟩;rw[hft,if_neg (by simpa using ht)];exact hO
 ·have hjl:j=P.length:=by omega
  subst hjl;rw[List.take_length]at hO;exact hQ wr pv hbr hO hpv hm
end
end
section
attribute [local irreducible] kO kB bG bH kN kG aA ai aw aB bj knew bB aP ay aE bk aD aU bC bD a8 kbool kint kstr keq kun ksl bz cQ kta kmk kmm ksem ksemU bd aI aL ae kL
section
variable {L:List Comp} {bv:Nat} {U:Nat→Prop} {w w':World} {m:wI}
theorem Mj (h:dp L bv U w m) (hUl:∀k,U k→k<w.heap.size) (hn:m.V.length≤1000) (hP:∀y∈m.V,y.2.length≤100) {nx:Nat} (hnx:m.nx=(nx:Int)) :
  af Tryz.prog 13 #[.pointer (some ⟨bv,0,none⟩)] w fun v w'=>∃z:nl,v=z.val∧lq 0 w' z∧z.m=⟨m.fr,nx,m.sd,Mw L m.V,m.R⟩∧Same w w':=by
 refine LY ?_;unfold Sy;refine ar fun w2 h2 hs2 hb2=>?_;have h2d:Same w w2.drew:=h2.drew;have hb2d:aX w2.drew w.heap.size=some (.cells #[.int .i64 0,.int .i64 0,.int .i64 0,.slice none 0 0,.slice none 0 0] 51):=hb2;have hl2:w.heap.size<w2.drew.heap.size:=aC hb2d;have h':=h.same h2d;generalize w2.drew=wd at *;obtain⟨a,cp,rv,la,lc,ga,gc,ll,hb,⟨g2,g3,g4,g5⟩,g6,g7,k1,k2,k3,k4⟩:=id h'.ex;have hll:ll.length=m.V.length:=by rw[←g6,List.length_map]
 refine aq ?_;refine aa ?_;refine aj (v:=.int .i64 m.fr) hb rfl ?_;refine ah rfl ?_;refine aq ?_;refine aa ?_;refine aj (v:=.int .i64 m.nx) hb rfl ?_;refine ah rfl ?_;refine aq ?_;refine aa ?_;refine aj (v:=.int .i64 m.sd) hb rfl ?_;refine ah rfl ?_;refine aq ?_;refine aa ?_;refine aj (v:=.slice ga m.R.length gc) hb rfl ?_;refine ah rfl ?_;refine aW (cs:=[.int .i64 m.fr,.int .i64 m.nx,.int .i64 m.sd,.slice none 0 0,.slice ga m.R.length gc]) rfl ?_;refine ar fun w13 h13 hs13 hb13=>?_;have hb13':=h13.get hb (fun h=>h);refine ah (aj (v:=.slice ga m.R.length gc) hb13' rfl ⟨rfl,rfl⟩) ?_;refine ah (aj (v:=.int .i64 m.sd) hb13' rfl ⟨rfl,rfl⟩) ?_;refine ah (aj (v:=.int .i64 m.nx) hb13' rfl ⟨rfl,rfl⟩) ?_;refine ah (aj (v:=.int .i64 m.fr) hb13' rfl ⟨rfl,rfl⟩) ?_;refine aQ (vs:=[.int .i64 m.fr,.int .i64 m.nx,.int .i64 m.sd,.slice none 0 0,.slice ga m.R.length gc]) hb13 rfl rfl rfl (by simp) (by simp) fun w14 h14 hs14 hb14=>?_;have hb14:aX w14 wd.heap.size=some (.cells #[.int .i64 m.fr,.int .i64 m.nx,.int .i64 m.sd,.slice none 0 0,.slice ga m.R.length gc] 51):=hb14;have m14:Same wd w14:=h13.trans' (h14.mono fun k _ e=>.inr (by omega));have hl14:=aC hb14;have hUd:∀k,U k→k<wd.heap.size:=fun k hk=>Nat.lt_of_lt_of_le (hUl k hk) h2d.size;have hne3:∀k,U k→k≠wd.heap.size:=fun k hk e=>by have:=hUd k hk; omega
 have hb214:=m14.get hb2d (fun h=>h);refine cA m.V.length (fun i x wr=>x=.int .i64 i∧(∃xv,∃bl:List BeV,(aX wr wd.heap.size=some (.cells #[.int .i64 m.fr,.int .i64 m.nx,.int .i64 m.sd,xv,.slice ga m.R.length gc] 51)∧bV wr xv 2 (bl.flatMap BeV.cells))∧bl.map BeV.key=Mw L (m.V.take i)∧(∀k,bf xv k→w14.heap.size≤k)∧∀b∈bl,aZ wr b.pa b.parts.length 6 (b.parts.flatMap Part.cells)∧∀k f,b.pa=some ⟨k,f,none⟩→w14.heap.size≤k∧k<wr.heap.size∧¬bf xv k)∧aH (fun k=>k=wd.heap.size) w14 wr) ⟨c8 ⟨rfl,⟨_,[],⟨hb14,bV.nil _ _⟩,rfl,fun k hk=>absurd hk (Ll k),fun b hb=>by cases hb⟩,aH.refl _ _⟩,fun x wr hx=>?_⟩;obtain⟨i,hi,⟨rfl,⟨xv,bl,⟨hbs,hOx⟩,hkey,hxlo,hbl⟩,hm⟩,hJ⟩:=bK hx;have m14r:aH (fun k=>k=wd.heap.size) wd wr:=(aH.of_same m14).trans hm;have hr:=h'.mod m14r hne3;have hbw:=m14r.get hb (hne3 _ h'.own);have s3:=g3.mod m14r (fun k f e=>hne3 k (k2 k f e).1);have hzr:=hm.size;have hz14:=m14.size;unfold Ik;refine aq ?_;refine aa ?_;refine aj hbw rfl ?_;refine aK ?_;refine aM ?_;refine ac ?_;refine am (fun hlt=>?_) (fun hge=>?_)
 ·have hlt:i<ll.length:=by omega
  have hlt':i<m.V.length:=by omega
  have key:(ll[i]).key=m.V[i]:=by
   have:=List.getElem_of_eq g6 (i:=i) (by rw[List.length_map]; exact hlt);rw[←this,List.getElem_map]
  have kid:(ll[i]).id=(m.V[i]).1:=congrArg (·.1) key;unfold Ii;refine aq ?_;refine aa ?_;refine aj hbw rfl ?_;refine bL (F:=BeV.cells) (sz:=2) (fun _=>rfl) (j:=0) s3 hlt rfl rfl ?_;rw[kid];refine aW (cs:=[natV (m.V[i]).1,.slice none 0 0]) rfl ?_;refine ar fun w27 h27 hs27 hb27=>?_;refine aQ (vs:=[natV (m.V[i]).1,.slice none 0 0]) hb27 rfl rfl rfl (by simp) (by simp) fun w28 h28 hs28 hb28=>?_;have hb28:aX w28 wr.heap.size=some (.cells #[natV (m.V[i]).1,.slice none 0 0] 101):=hb28;have s28:Same wr w28:=h27.trans' (h28.mono fun k _ e=>.inr (by omega));have hl28:=aC hb28;refine CE (hr.same s28) hn hP hlt' hb28 (fun k hk e=>by have:=hUd k hk; omega) fun w5 pv hbb5 hO5 hpv5 hm5=>?_;obtain⟨pa,pn,pc,rfl,hps5,_⟩:=hO5.is;have hpn:pn=((m.V[i]).2.filter fun q=>dG L q.comp).length:=by
   have:=hps5.1;rw[flat_len Part.cells 6 (fun _=>rfl)]at this;omega
  subst hpn;have mr5:Same wr w5:=s28.trans' (hm5.mono fun k _ e=>.inr (by omega));have hbs5:=mr5.get hbs (fun h=>h);have hOx5:=hOx.same mr5;obtain⟨xa,xn,xc,rfl,hxs,_⟩:=hOx5.is;have hz5:=mr5.size;have hz28:=hm5.size;unfold Ci;refine aa ?_;refine ao (v:=.slice xa xn xc) hbs5 rfl ?_;refine au (cs:=[natV (m.V[i]).1,.slice pa ((m.V[i]).2.filter fun q=>dG L q.comp).length pc]) hbb5 rfl (by omega) ?_;refine aR (cs:=[natV (m.V[i]).1,.slice pa ((m.V[i]).2.filter fun q=>dG L q.comp).length pc]) rfl fun w69 h69 hs69 hb69=>?_;have hfl:=flat_len BeV.cells 2 (fun _=>rfl) bl;have hbln:bl.length=i:=by
   have:=congrArg List.length hkey;unfold Mw at this;rw[List.length_map,List.length_map,List.length_take]at this;omega
  refine be th (by omega) (hOx5.same h69) (Src.ofSlIs (hk:=kE.choose_spec) 1 (aZ.blk hb69 rfl) rfl) (by rw[hfl]; show _+2≤_; omega) (by rw[hfl]; show(_+2)*32≤_; omega) ?_;intro v' w71 hO71 m71 hf71;have hv71:∀k,bf v' k→w14.heap.size≤k∧(bf (.slice xa xn xc) k∨w69.heap.size≤k):=fun k hk=>by
   have hz69:=h69.size;rcases hf71 k hk with e | e
   ·exact⟨hxlo k e,.inl e⟩
   ·exact⟨by omega,.inr e⟩
  have hxlt:∀k,bf (.slice xa xn xc) k→k<wr.heap.size:=fun k hk=>hOx.vblk_lt hk;have hbs71:=m71.get (h69.get hbs5 (fun h=>h)) (fun e=>by have:=hxlo _ e; omega);obtain⟨xa2,xn2,xc2,rfl,_⟩:=hO71.is;refine aa ?_;refine bJ hbs71 rfl rfl (by show 3<5; omega) fun w73 h73 hs73 hb73=>?_;have m571:aH (fun k=>k=wd.heap.size∨bf (.slice xa xn xc) k) w5 w73:=((aH.of_same h69).trans (m71.mono fun k _ e=>.inr e)).trans (h73.mono fun k _ e=>.inl e);have hz73:=m571.size;have m73:aH (fun k=>k=wd.heap.size) w14 w73:=(hm.trans (aH.of_same mr5)).trans' (m571.mono fun k _ e=>e.elim .inl fun e=>.inr (hxlo k e));unfold Ih;refine aY (by omega) (by omega) ?_;rw[a7];refine hJ _ _ hlt' ⟨rfl,⟨_,bl++[⟨(m.V[i]).1,pa,pc,(m.V[i]).2.filter fun q=>dG L q.comp⟩],⟨hb73,?_⟩,?_,fun k hk=>(hv71 k hk).1,fun b hb=>?_⟩,m73⟩
  ·rw[List.flatMap_append,List.flatMap_singleton];exact hO71.mod h73 fun k hk e=>by have:=(hv71 k hk).1; omega
  ·rw[List.map_append,hkey,List.take_succ_eq_append_getElem hlt'];unfold Mw;rw[List.map_append]; rfl
  ·rcases List.mem_append.1 hb with hb | hb
   ·obtain⟨t1,t2⟩:=hbl b hb;refine⟨(t1.same mr5).mod m571 fun k f e hk=>?_,fun k f e=>?_⟩
    ·obtain⟨u1,u2,u3⟩:=t2 k f e;rcases hk with hk | hk
     ·omega
     ·exact u3 hk
    ·obtain⟨u1,u2,u3⟩:=t2 k f e;refine⟨u1,by omega,fun hv=>?_⟩;rcases(hv71 k hv).2 with hv | hv
     ·exact u3 hv
     ·have:=h69.size; omega
   ·rw[List.mem_singleton]at hb;subst hb;have hp5:∀k f,pa=some ⟨k,f,none⟩→w28.heap.size≤k∧k<w5.heap.size:=fun k f e=>by
     have hv:bf (.slice pa ((m.V[i]).2.filter fun q=>dG L q.comp).length pc) k:=⟨f,_,_,by rw[e]⟩
     exact⟨hpv5 k hv,hO5.vblk_lt hv⟩
    refine⟨hps5.mod m571 fun k f e hk=>?_,fun k f e=>?_⟩
    ·have:=hp5 k f e;rcases hk with hk | hk
     ·omega
     ·have:=hxlt k hk; omega
    ·have:=hp5 k f e;refine⟨by omega,by omega,fun hv=>?_⟩;rcases(hv71 k hv).2 with hv | hv
     ·have:=hxlt k hv; omega
     ·have:=h69.size; omega
 ·have hie:i=m.V.length:=by omega
  subst hie;rw[List.take_length]at hkey;obtain⟨xa,xn,xc,rfl,hxs,_⟩:=hOx.is;have hxn:xn=bl.length:=by
   have:=hxs.1;rw[flat_len BeV.cells 2 (fun _=>rfl)]at this;omega
  subst hxn;have hb2r:=m14r.get hb2d (by omega);unfold Ij;refine au (cs:=[.int .i64 m.fr,.int .i64 m.nx,.int .i64 m.sd,.slice xa bl.length xc,.slice ga m.R.length gc]) hbs rfl (by omega) ?_;refine aQ (vs:=[.int .i64 m.fr,.int .i64 m.nx,.int .i64 m.sd,.slice xa bl.length xc,.slice ga m.R.length gc]) hb2r rfl rfl rfl (by simp) (by simp) fun w77 h77 hs77 hb77=>?_;have hb77:aX w77 w.heap.size=some (.cells #[.int .i64 m.fr,.int .i64 m.nx,.int .i64 m.sd,.slice xa bl.length xc,.slice ga m.R.length gc] 51):=hb77;refine au (cs:=[.int .i64 m.fr,.int .i64 m.nx,.int .i64 m.sd,.slice xa bl.length xc,.slice ga m.R.length gc]) hb77 rfl (by omega) ?_;have mall:aH (fun k=>k=wd.heap.size∨k=w.heap.size) wd w77:=(m14r.mono fun k _ e=>.inl e).trans (h77.mono fun k _ e=>.inr e);refine⟨⟨m.fr,nx,m.sd,xa,xc,bl,ga,gc,m.R⟩,?_,⟨hxs.mod h77 fun k f e hk=>?_,fun b hb=>?_,g5.mod mall fun k f e hk=>?_,fun _ _ _=>Nat.zero_le _,fun _ _ _ _ _=>Nat.zero_le _,fun _ _ _=>Nat.zero_le _⟩,?_,?_⟩
  ·rw[hnx]; rfl
  ·have:=hxlo k ⟨f,_,_,by rw[e]⟩; omega
  ·obtain⟨t1,t2⟩:=hbl b hb;exact t1.mod h77 fun k f e hk=>by have:=(t2 k f e).1; omega
  ·have:=hUl k (k3 k f e).1;omega
  ·unfold nl.m; rw[hkey]
  ·exact h2d.trans' (mall.mono fun k _ e=>.inr (by omega))
end
end
section
theorem Mk (h:nI V):Mw plainC V=CK (rollF (plainC.map (·.rb))) V:=by
 have hall:∀k:Nat,k<4→dG plainC k=decide (rollF (plainC.map (·.rb))&&&bitF k≠0):=by decide
 unfold Mw CK;apply List.map_congr_left;intro y hy;congr 1;apply List.filter_congr;intro q hq;obtain⟨k,hk,hkl,_⟩:=h y hy q hq;unfold pW;rw[hk];exact hall k hkl
theorem tD (M:List Nat) {n:Nat} (hn:n≤1000):lf plainC (fb M n) where
 nd:=by
  unfold fb;rw[List.map_map];refine List.Pairwise.map _ (fun a b hab=>?_) List.nodup_range;show a+1≠b+1;exact fun e=>hab (by omega)
 few:=by rw[kF]; exact hn
 parts y hy:=by
  obtain⟨i,_,rfl⟩:=List.mem_map.1 hy;refine⟨Nat.le_trans (jA _ _ _) (by omega),jn _ _ _,fun q hq=>?_⟩;obtain⟨k,hk,hkl,_⟩:=gx q hq;exact⟨k,hk,hkl⟩
theorem Ft {σ:Type} (len:Nat) (m:MS σ) (x:IN):dK len m x≤18:=by
 unfold dK;refine aG (P:=(·≤18)) (fun _=>by omega) (fun _=>?_);refine aG (P:=(·≤18)) (fun _=>by omega) (fun _=>?_);refine aG (P:=(·≤18)) (fun _=>by omega) (fun _=>?_);exact aG (P:=(·≤18)) (fun _=>by omega) (fun _=>by omega)
theorem CF {σ:Type} (H:dE σ) (l:List IN) (m:MS σ):(cE H l m).2.2≤18:=by
 by_cases ho:eZ l.length m=true
 ·rw[eF ho]; exact Nat.zero_le _
 ·cases hx:l[m.place]? with
  | none=>rw[fU ho hx]; exact Nat.zero_le _
  | some x =>
   rw[fT ho hx];exact aG (P:=fun z:MS σ×Bool×Nat=>z.2.2≤18) (fun _=>Ft _ _ _) (fun _=>Nat.zero_le _)
theorem uW {σ:Type} (H:dE σ) (l:List IN):∀(n:Nat) (m:MS σ),(fC H l n m).2≤18
 | 0,m=>Nat.zero_le _
 | n+1,m=>by
  show(if (cE H l m).2.1=true then fC H l n (cE H l m).1 else((cE H l m).1,(cE H l m).2.2)).2≤18;exact aG (P:=fun z:MS σ×Nat=>z.2≤18) (fun _=>uW H l n _) (fun _=>CF H l m)
section
variable {p:Nat→Prop} {Sa:Nat→Addr} {w w' w1:World} {M:List Nat} {i0 i1 who seed:Int} {wd og:Bool} {bh bv bu:Nat} {c:WC} {o:OC} {X U Uu:Nat→Prop} {w1:World}
theorem iq.lv (h:iq w M i0 i1 who seed wd og 6 bh bv bu c o X U Uu w'):HX c w o (min M.length 20+1) X w' (fY M seed) where
 pr:=by
  obtain⟨S,t,B,hP,hv,hnx,hg,ht⟩:=h.pr;refine⟨c.gn,S,t,B,?_,hv,hnx⟩;have e:c.tune (fY M seed).2.R c.frame (fY M seed).2.seed c.gn=c:=by
   show c.tune [5,0] c.frame seed c.gn=c;rw[←h.cR,←h.cs]; rfl
  rw[e]; exact hP
 ap:=h.ap
 num:=by
  intro v hv;have hv:v∈[(5:Int),0]:=hv;simp at hv;rcases hv with rfl | rfl<;>(unfold bZ; omega)
 few:=Nat.le_refl _
 ok:=B8 M (by omega)
 rl:=by show 2≤1000; omega
theorem iq.num (h:iq w M i0 i1 who seed wd og 6 bh bv bu c o X U Uu w'):NumLS (fY M seed):=⟨h.lv.ok,h.lv.num,fun x hx=>absurd hx List.not_mem_nil⟩
theorem iq.host (hL:cO p Sa w) (k1:p 1) (k2:p 2) (k6:p 6) (k7:p 7) (k17:p 17) (hi0:bZ i0) (hi1:bZ i1) (hwho:bZ who) (h:iq w M i0 i1 who seed wd og 6 bh bv bu c o X U Uu w') :
  ∃I:(Nat→Prop)→World→LS→Prop,j6 (bW (cV wd og plainC.length 6 1 who) (ip c o wd og i0 i1 who)) (ip c o wd og i0 i1 who) w okIN (fun s=>cI s.2) I∧I X w' (fY M seed)∧(∀X w1 s,I X w1 s→wd=true→HX c w o (min M.length 20+1) X w1 s)∧∀X w1 s,I X w1 s→∃c' S t B,c'.bw=c.bw∧c9 c' w o X w1 S t B s.2.l s.2.gv s.2.dr:=by
 cases wd with
 | false =>
  obtain⟨S,t,B,hP,_⟩:=h.pr;have hh:=CA (fr:=1) (E7 (c:=c) (w0:=w) (o:=o) (S:=S) (t:=t) (B:=B) hL k1 k2 k6 og hi0 hi1 hwho (by rw[h.om]; omega));rw[h.oL,h.om]at hh;refine⟨_,uv hh,⟨hP,h.ap,Nat.le_refl _⟩,fun _ _ _ _ e=>(by cases e),fun X w1 s hI=>⟨c,S,t,B,rfl,hI.pr⟩⟩
 | true =>
  have hh:=E5 (c0:=c) (w0:=w) (o:=o) (nx:=min M.length 20+1) hL k1 k2 k6 k7 k17 og hi0 hi1 hwho (by rw[h.om]; omega) (by rw[h.cf]; unfold bZ; omega);rw[h.oL,h.om,h.cL,h.cf]at hh;refine⟨_,uv hh,h.lv,fun _ _ _ hI _=>hI,fun X w1 s hI=>?_⟩;obtain⟨gn,S,t,B,hP,_⟩:=hI.pr;exact⟨c.tune s.2.R c.frame s.2.seed gn,S,t,B,rfl,hP⟩
theorem iq.doc (h:iq w M i0 i1 who seed wd og 6 bh bv bu c o X U Uu w') (m:Same w' w1):fJ og 6 1 ((min M.length 20+1:Nat):Int) bv bu U Uu w1 (fY M seed) where
 v:=h.v.same m
 u:=h.u.same m
 dj k hk:=(h.us k hk).2.1
 lv k hk:=by obtain⟨S,t,B,hP,_⟩:=h.pr; exact Nat.lt_of_lt_of_le (hP.lt (h.us k hk).1).2 m.size
 lu k hk:=by obtain⟨S,t,B,hP,_⟩:=h.pr; exact Nat.lt_of_lt_of_le (hP.lt (h.uu k hk).1).2 m.size
 ty:=tD M (by omega)
 ft:=nI.laid M _
 rl:=by show 2≤1000; omega
 few:=Nat.le_refl _
theorem iq.mill (h:iq w M i0 i1 who seed wd og 6 bh bv bu c o X U Uu w') {la:Option Addr} {lc:Nat} {l:List IN} (hl:aZ w la l.length 3 (l.flatMap IN.cells)) {w1:World} (m:Same w' w1) {fuel:Int} {bn:Nat} (hbn:w'.heap.size≤bn) {E:Nat→Prop} (hXE:∀k,X k→E k) (hEn:E bn)
  (hb:∀s:LS,aX w1 bn=some (.cells ((⟨bn,bv,bu,wd,og,i0,i1,who⟩:RC).cells (.slice la l.length lc) (natV (MS.first fuel s).place) (.slice none 0 0) (natV (MS.first fuel s).fuel) (.bool (MS.first fuel s).over)) 58)) :
  lh ⟨bn,bv,bu,wd,og,i0,i1,who⟩ 6 1 ((min M.length 20+1:Nat):Int) l w.heap.size E w1 (MS.first fuel (fY M seed)):=by
 obtain⟨S,t,B,hP,_⟩:=h.pr;have hD:=h.doc m;have h0:=hP.same0;refine⟨⟨U,Uu,la,lc,_,⟨hb _,(hl.same h0).same m,bV.nil _ _,hD⟩,fun k f e hn=>Fm hl hn e,fun k hk=>absurd hk (Ll k),fun k hk=>?_,fun k hk=>?_⟩,hEn,by have:=h0.size; show _≤bn; omega⟩
 ·have:=hP.lt (h.us k hk).1;exact⟨⟨hXE k (h.us k hk).1,this.1⟩,by show k≠bn; omega⟩
 ·have:=hP.lt (h.uu k hk).1;exact⟨⟨hXE k (h.uu k hk).1,this.1⟩,by show k≠bn; omega⟩
end
end
section
attribute [local irreducible] kO kB bG bH kN kG aA ai aw aB bj knew bB aP ay aE bk aD aU bC bD a8 kbool kint kstr keq kun ksl bz cQ kta kmk kmm ksem ksemU bd aI aL ae kL
section
variable {Sa:Nat→Addr} {w w':World} {c:WC} {o:OC} {X E:Nat→Prop} {rc:RC} {many nx lo:Nat} {l:List IN} {m:MS LS}
theorem rK (hc:c.frame=1∧c.rolled=rollF (plainC.map (·.rb))) {s:LS} (hI:HX c w o nx X w' s) {ms:MS LS} (hs:ms.h=s) (hD:lh rc many 1 (nx:Int) l lo E w' ms) {Q:PQ} (hQ:∀v w2,v=.bool true→Same w' w2→Q v w2) :
  ae Tryz.prog 12 #[.pointer (some ⟨c.bw,0,none⟩)] w' fun v47 w48=>ae Tryz.prog 13 #[.pointer (some ⟨rc.bv,0,none⟩)] w48 fun v49 w50=>ae Tryz.prog 11 #[v47,v49] w50 Q:=by
 subst hs;refine ab hI.state ?_;rintro v w48 ⟨z1,rfl,hz1,em1,ok1,h48⟩;obtain⟨⟨U,Uu,la,lc,sv,⟨_,_,_,hDI⟩,_⟩,_⟩:=hD.same h48;refine ab (Mj hDI.v hDI.lv hDI.ty.few (fun y hy=>Nat.le_trans (hDI.ty.parts y hy).1 (by omega)) rfl) ?_;rintro v w50 ⟨z2,rfl,hz2,em2,h50⟩;have hm1:z1.bl.map BeV.key=CK c.rolled ms.h.1:=by have:=congrArg wX.beings em1; exact this
 have hR1:z1.R=ms.h.2.R:=by have:=congrArg wX.R em1; exact this
 have hb:∀b∈z1.bl,b.parts.length≤32:=by
  intro b hb;have:b.key∈CK c.rolled ms.h.1:=by rw[←hm1]; exact List.mem_map_of_mem hb
  obtain⟨y,hy,e⟩:=List.mem_map.1 this;have ep:b.parts=y.2.filter (pW c.rolled):=(congrArg (·.2) e).symm;rw[ep];exact Nat.le_trans (List.length_filter_le _ _) (hDI.ty.parts y hy).1
 have hbl:z1.bl.length≤1000:=by
  have:=congrArg List.length hm1;unfold CK at this;rw[List.length_map,List.length_map]at this;rw[this]; exact hDI.ty.few
 refine ab (Mi z1 z2 (hz1.same h50) hz2 ?_ (fun b hb=>(ok1.2.2 b hb).1) (fun b h=>Nat.le_trans (hb b h) (by omega)) (by omega) (by rw[hR1]; have:=hDI.rl; omega)) ?_
 ·rw[em1,em2,hc.1,hc.2,Mk hDI.ft]
 rintro v w52 ⟨rfl,h52⟩;exact hQ _ _ rfl (h48.trans (h50.trans h52))
end
section
variable {Sa:Nat→Addr} {w:World}
theorem P3 (hL:lS Sa w) (hr:eY w):Hs (fun k=>1≤k∧k≤18) Sa w:=⟨hL.toP,hr,by omega,by omega,by omega,by omega⟩
theorem rL (hL:lS Sa w) (hr:eY w) (hD:fM w) {a:Option Addr} {cp:Nat} {M:List Nat} (hs:aZ w a M.length 1 (M.map msk)) (hM:∀m∈M,m<4294967296) {i0 i1 who seed:Int} (hi0:bZ i0) (hi1:bZ i1) (hwho:bZ who) (wd og:Bool) {la:Option Addr} {lc:Nat} {l:List IN} (hl:aZ w la l.length 3 (l.flatMap IN.cells)) (hok:∀x∈l,okIN x) (fuel:Int) :
  af Tryz.prog 3 #[.agg (kI a M.length cp i0 i1 who seed wd og).toArray,.slice la l.length lc,.int .i64 fuel] w fun v w'=>v=.bool true∧Same w w':=by
 have ht:=P3 hL hr;refine Pn ?_;unfold f3;refine ar fun w2 h2 hs2 hb2=>?_;have hb2:aX w2 w.heap.size=some (.cells (kI a M.length cp i0 i1 who seed wd og).toArray 26):=hb2;refine ab (pL (ht.same h2)) ?_;rintro v w4 ⟨rfl,h4⟩;refine bP ?_;refine ac ?_;refine az rfl ?_;have m4:=h2.trans h4;unfold Pm;refine aK ?_;refine bO ?_;refine ac ?_;refine am (fun hgt=>⟨rfl,m4⟩) (fun hgt=>?_);have hb4:=h4.get hb2 (fun h=>h);have ht4:=ht.same m4;have hL4:=hL.same m4;unfold Pl;refine au (cs:=kI a M.length cp i0 i1 who seed wd og) hb4 rfl (by omega) ?_;refine ab (tA ht4.hL (by omega) (hD.same m4) (hs.same m4) hM i0 i1 who seed wd og (many:=6) (by omega)) ?_;rintro v w11 ⟨bh,bv,bu,c,o,X,U,Uu,rfl,hZ⟩;obtain⟨S0,t0,B0,hP0,_⟩:=id hZ.pr;have h11:=hP0.same0;have hbh:=hP0.lt hZ.xb;have hbvl:=hP0.lt (hZ.us _ hZ.v.own).1;have hbul:=hP0.lt (hZ.uu _ hZ.u.own).1;clear hP0;refine ak rfl ?_;refine ak rfl ?_;refine ak rfl ?_;rw[aJ Mh];refine ac ?_;refine az rfl ?_;have hb11:=h11.get hb4 (fun h=>h);unfold Pk;refine aa ?_;refine au (cs:=[.int .i64 i0,.int .i64 i1]) hb11 rfl (by omega) ?_;refine aa ?_;refine aj (v:=.int .i64 who) hb11 rfl ?_;rw[lr];refine ab (Q2 bv bu wd og i0 i1 who (min fuel 300) l la lc w11) ?_;rintro v w24 ⟨rfl,h24,hz24,hbn⟩;refine aq ?_;refine au (cs:=(ip c o wd og i0 i1 who).cells) (h24.get hZ.hb (fun h=>h)) rfl (by omega) ?_;rw[lr];obtain⟨I,hh,hI11,hIl,_⟩:=hZ.host ht4.hL (by omega) (by omega) (by omega) (by omega) (by omega) hi0 hi1 hwho;have hI24:=hh.grow (fp:=fun _=>False) hI11 h24 (fun k hk=>hk.elim);have hl4:=hl.same m4;have m24:=h11.trans h24;have hf:dv (min fuel 300)≤300:=by unfold dv; omega
 have hDM:=hZ.mill (lc:=lc) hl4 h24 (fuel:=min fuel 300) (bn:=w11.heap.size+1) (by omega) (E:=cX w11 w24 X) (fun k hk=>.inl hk) (.inr ⟨by omega,by omega⟩) hbn;refine ab (Hu (c:=lc) ht4 hh (hl4.same m24) (by omega) hok hI24 (E:=cX w11 w24 X) (fun k hk=>hk) (min fuel 300) (by show 0+0+dv _≤4999; omega)) ?_;rintro v w29 ⟨⟨e,rfl,hE⟩,⟨X2,hI29,hX2⟩,hm29⟩;refine ak rfl ?_;refine ak rfl ?_;have hDM29:=hDM.mod hm29 fun k hk=>hk;refine ab (Q3 (hh:=ip c o wd og i0 i1 who) hDM29 ⟨Nat.zero_le _,Nat.zero_le _,by show dv _≤4096; omega⟩ (by omega) hok (by show 0+0+dv _≤4999; omega) (fun v hv=>absurd hv List.not_mem_nil) hwho ⟨rfl,rfl,rfl⟩ ⟨hi0,hi1⟩ (by unfold bZ; omega) hZ.num) ?_;rintro v w33 ⟨rfl,hDM33,hm33⟩;have hfp:=hDM29.fp;have hI33:=hh.grow hI29 hm33 fun k hk=>hX2 k (hfp k hk).1;refine ak rfl ?_;refine ak rfl ?_;show kint .i64 .eql (natV (fC (bW (cV wd og plainC.length 6 1 who) (ip c o wd og i0 i1 who)) l (dv (min fuel 300)+1) (MS.first (min fuel 300) (fY M seed))).1.fuel) (natV (fC (bW (cV wd og plainC.length 6 1 who) (ip c o wd og i0 i1 who)) l (dv (min fuel 300)+1) (MS.first (min fuel 300) (fY M seed))).1.fuel) _;have h18:=uW (bW (cV wd og plainC.length 6 1 who) (ip c o wd og i0 i1 who)) l (dv (min fuel 300)+1) (MS.first (min fuel 300) (fY M seed));have hDM33:lh ⟨w11.heap.size+1,bv,bu,wd,og,i0,i1,who⟩ 6 1 ((min M.length 20+1:Nat):Int) l w4.heap.size (cX w29 w33 (cX w11 w24 X)) w33 (fC (bW (cV wd og plainC.length 6 1 who) (ip c o wd og i0 i1 who)) l (dv (min fuel 300)+1) (MS.first (min fuel 300) (fY M seed))).1:=hDM33;have e49:(fC (bW (cV (RC.wd ⟨w11.heap.size+1,bv,bu,wd,og,i0,i1,who⟩) (RC.og ⟨w11.heap.size+1,bv,bu,wd,og,i0,i1,who⟩) plainC.length 6 1 (RC.who ⟨w11.heap.size+1,bv,bu,wd,og,i0,i1,who⟩)) (ip c o wd og i0 i1 who)) l ((MS.first (min fuel 300) (fY M seed)).fuel+1) (MS.first (min fuel 300) (fY M seed))).2=(fC (bW (cV wd og plainC.length 6 1 who) (ip c o wd og i0 i1 who)) l (dv (min fuel 300)+1) (MS.first (min fuel 300) (fY M seed))).2:=rfl;rw[e49];generalize fC (bW (cV wd og plainC.length 6 1 who) (ip c o wd og i0 i1 who)) l (dv (min fuel 300)+1) (MS.first (min fuel 300) (fY M seed))=R at *;unfold natV;refine aF ?_;refine ac ?_;refine aN (co rfl) ?_;have hb33:=hh.base hI33;have m33:=m4.trans hb33;have hE33:=hE.mod hm33 fun b hb _ hk=>by
  have h1:b=w11.heap.size+1∨b=bv∨b=bu:=hk;omega
 refine ab (wR (hL.same m33) h18 hE33) ?_;rintro v w39 ⟨rfl,rfl⟩;refine aF ?_;refine ac ?_;refine aN (co rfl) ?_;rw[aJ nk];refine ac ?_;cases wd with
 | false=>exact az rfl ⟨rfl,m33⟩
 | true =>
  refine aN rfl ?_;have hbh39:=hm33.get (hm29.get (h24.get hZ.hb (fun h=>h)) (fun hk=>hk.2 (.inl hZ.xb))) (fun hk=>by
   rcases hk with hk | hk | hk
   ·have:bh=w11.heap.size+1:=hk;omega
   ·have:bh=bv:=hk;exact(hZ.us _ hZ.v.own).2.2 this.symm
   ·have:bh=bu:=hk;exact(hZ.uu _ hZ.u.own).2 this.symm)
  refine aq ?_;refine aa ?_;refine aj (v:=.pointer (some ⟨c.bw,0,none⟩)) hbh39 rfl ?_;refine rK ⟨hZ.cf,hZ.cr⟩ (hIl _ _ _ hI33 rfl) rfl hDM33 ?_;rintro v w2' rfl hs';exact⟨rfl,m33.trans hs'⟩
end
end
end Go.Proofs.YtcmijampbjcbgaaGreatDoor
namespace Go.Proofs.YtcmijampbjcbgaaGreatDoor
open Go Go.Ev Go.RowKit Go.ChangeShapes Go.WideShapes Go.ChangeAt
section
namespace ST
theorem SP:Tryz.prog.cellsOf 5=1:=by kernel_rfl
theorem P4:Tryz.prog.cellsOf 92=1:=by kernel_rfl
theorem SC:Tryz.prog.globalNamed "math/bits.deBruijn32tab" = some 19:=by kernel_rfl
theorem SQ:(Tryz.prog.globals[19]?).map (·.type)=some 354:=by kernel_rfl
theorem SR:Tryz.prog.cellsOf 354=32:=by kernel_rfl
theorem tE:Rows.laid_math_bits_deBruijn32tab (H:=Unit)=.agg (qz.map fun n:Nat=>.lit (.int .u8 (n:Int))):=by rfl
theorem Fu {W:World} (h:∃g t cs f p,Tryz.prog.globalNamed "math/bits.deBruijn32tab" = some g∧(Tryz.prog.globals[g]?).map (·.type)=some t∧W.var? Tryz.prog "math/bits.deBruijn32tab" = some cs∧DataW.trod (fun _=>()) Tryz.prog W 0 (fun _=>true) false f t cs.toList=some (Rows.laid_math_bits_deBruijn32tab,p)):fM W:=by
 obtain⟨g0,t0,cs0,f0,p0,hg0,ht0,hv0,hd0⟩:=h;obtain rfl:=Option.some.inj (SC.symm.trans hg0);obtain rfl:=Option.some.inj (SQ.symm.trans ht0);obtain⟨xs,m,_,hx,hl,hxl,hel⟩:=DataW.trod_array Tryz.underlying354 hd0;rw[SR]at hl;rw[tE]at hx;simp only[Prod.mk.injEq,DataW.agg.injEq]at hx;obtain⟨t,f,hb⟩:=js SC hv0;refine⟨t,f,?_⟩;rw[hb];congr 2;apply Array.ext';apply List.ext_getElem?;intro i;simp only[List.getElem?_map];by_cases hi:i<32
 ·have h1:=hel i hi;rw[SP,Nat.mul_one,List.getElem?_eq_getElem (show i<xs.length by omega)]at h1;obtain⟨n,e1,e2,_⟩:=DataW.trod_int Tryz.underlying5 h1;have h2:=congrArg (fun l:List (DataW Unit)=>l[i]?) hx.1;simp only[List.getElem?_map,List.getElem?_eq_getElem (show i<xs.length by omega),Option.map_some]at h2;have hdl:i<qz.length:=hi;rw[List.getElem?_eq_getElem hdl,Option.map_some]at h2 ⊢;rw[e2]at h2;simp only[Option.some.injEq,DataW.lit.injEq,Lit.int.injEq]at h2;have h3:cs0.toList[i]?=some (.int .u8 n):=by
   have:=congrArg (fun l:List Value=>l[0]?) e1;simpa [List.getElem?_take,List.getElem?_drop] using this
  rw[h3,←h2.2]
 ·rw[List.getElem?_eq_none (by omega),List.getElem?_eq_none (show qz.length≤i by show 32≤i; omega)]; rfl
def rowD (r:jg):DataW Unit:=.agg [.lit (.string r.1),.lit (.int .i64 r.2.1),.lit (.int .i64 r.2.2.1),.lit (.int .i64 r.2.2.2)]
theorem wS:Rows.laid_pasodoble_code_rows (H:=Unit)=.agg (opRows.map rowD):=by rfl
theorem P5:Tryz.prog.cellsOf 180=4:=by kernel_rfl
theorem Iu:Tryz.prog.globalNamed "pasodoble/code.rows" = some 18:=by kernel_rfl
theorem P6:(Tryz.prog.globals[18]?).map (·.type)=some 247:=by kernel_rfl
theorem P7:Tryz.prog.cellsOf 247=144:=by kernel_rfl
theorem tx_of (s:ByteArray):tx s.data.toList=s:=by
 unfold tx; cases s; simp
theorem wT {W:World} {f:Nat} {cs:List Value} {r:jg} {p:List MemPlace} (h:DataW.trod (fun _=>()) Tryz.prog W 0 (fun _=>true) false f 180 cs=some (rowD r,p)):cs=rowC r:=by
 obtain⟨xs,m,_,hx,hl,hxl,hel⟩:=DataW.trod_struct Tryz.underlying180 h;rw[P5]at hl;match cs,hl with
 | [a,b,c,d],_ =>
  have e0:=hel 0 _ rfl;have e1:=hel 1 _ rfl;have e2:=hel 2 _ rfl;have e3:=hel 3 _ rfl;simp only[List.getElem_toArray,List.getElem_cons_zero,List.getElem_cons_succ,cStr,c3]at e0 e1 e2 e3;have hxl4:xs.length=4:=hxl;match xs,hxl4 with
  | [x0,x1,x2,x3],_ =>
   obtain⟨s,f0,g0,_⟩:=DataW.trod_string Tryz.underlying9 e0;obtain⟨i,f1,g1,_⟩:=DataW.trod_int Tryz.underlying3 e1;obtain⟨j,f2,g2,_⟩:=DataW.trod_int Tryz.underlying3 e2;obtain⟨k,f3,g3,_⟩:=DataW.trod_int Tryz.underlying3 e3;simp at f0 f1 f2 f3;subst g0 g1 g2 g3 f0 f1 f2 f3;simp only[rowD,List.map_cons,List.map_nil,Prod.mk.injEq,DataW.agg.injEq,List.cons.injEq,DataW.lit.injEq,Lit.string.injEq,Lit.int.injEq,true_and,and_true]at hx;obtain⟨⟨h0,h1,h2,h3⟩,_⟩:=hx;simp only[rowC,h0,h1,h2,h3,tx_of]
theorem wU {W:World} (h:∃g t cs f p,Tryz.prog.globalNamed "pasodoble/code.rows" = some g∧(Tryz.prog.globals[g]?).map (·.type)=some t∧W.var? Tryz.prog "pasodoble/code.rows" = some cs∧DataW.trod (fun _=>()) Tryz.prog W 0 (fun _=>true) false f t cs.toList=some (Rows.laid_pasodoble_code_rows,p)):eY W:=by
 obtain⟨g0,t0,cs0,f0,p0,hg0,ht0,hv0,hd0⟩:=h;obtain rfl:=Option.some.inj (Iu.symm.trans hg0);obtain rfl:=Option.some.inj (P6.symm.trans ht0);obtain⟨xs,m,_,hx,hl,hxl,hel⟩:=DataW.trod_array Tryz.underlying247 hd0;rw[P7]at hl;rw[wS]at hx;simp only[Prod.mk.injEq,DataW.agg.injEq]at hx;obtain⟨t,f,hb⟩:=js Iu hv0;refine⟨t,f,?_⟩;rw[hb];congr 2;apply Array.ext';show cs0.toList=opRows.flatMap rowC;have hgr:∀i (hi:i<36),(cs0.toList.drop (i*4)).take 4=rowC (opRows[i]'hi):=by
  intro i hi;have h1:=hel i hi;rw[P5,List.getElem?_eq_getElem (show i<xs.length by omega)]at h1;have h2:=congrArg (fun l:List (DataW Unit)=>l[i]?) hx.1;simp only[List.getElem?_map,List.getElem?_eq_getElem (show i<xs.length by omega),List.getElem?_eq_getElem (show i<opRows.length from hi),Option.map_some,Option.some.injEq]at h2;exact wT (W:=W) (p:=(xs[i]'(by omega)).2) (f:=m) (h1.trans (congrArg some (Prod.ext h2.symm rfl)))
 have hfl:(opRows.flatMap rowC).length=144:=flat_len rowC 4 (fun _=>rfl) opRows;apply List.ext_getElem?;intro j;by_cases hj:j<144
 ·have hq:j/4<36:=by omega
  have e1:=congrArg (fun l:List Value=>l[j%4]?) (hgr (j/4) hq);have e2:=iY (F:=rowC) (sz:=4) (fun _=>rfl) (l:=opRows) (i:=j/4) (j:=j%4) hq (by omega);simp only[List.getElem?_take_of_lt (show j%4<4 by omega),List.getElem?_drop]at e1;rw[show j/4*4+j%4=j by omega]at e1 e2;rw[e1,e2]
 ·rw[List.getElem?_eq_none (by omega),List.getElem?_eq_none (by omega)]
def ks:List Nat:=[1,2,3,4,5,6,7,8,9,10,11,12,13,14,15,16,17,18]
theorem pX (h1:1≤k) (h2:k≤18):k∈ks:=by
 simp only[ks,List.mem_cons,List.not_mem_nil,or_false];omega
theorem P8 (k:Nat) (h:k∈ks):Tryz.prog.globalNamed (xW k)=some (gErr k)∧(Tryz.prog.globals[gErr k]?).map (·.type)=some 37:=by
 simp only[ks,List.mem_cons,List.not_mem_nil,or_false]at h;rcases h with rfl | rfl | rfl | rfl | rfl | rfl | rfl | rfl | rfl | rfl | rfl | rfl | rfl | rfl | rfl | rfl | rfl | rfl<;>exact⟨by kernel_rfl,by kernel_rfl⟩
theorem CG {W:World} (h:laidMetH Tryz.prog Rows.millRunsRow.laid W):(∃S,lS S W∧eY W)∧fM W:=by
 obtain⟨S,hS⟩:=vg ks ((Rows.millRunsRow.laid.filter r9).map IQ) (by kernel_rfl) (by rfl) (by rfl) P8 (by decide) h;exact⟨⟨S,⟨fun k h1 h2=>hS.glob k (pX h1 h2),fun j k j1 j2 k1 k2=>hS.ne j k (pX j1 j2) (pX k1 k2),fun k h1 h2=>hS.live k (pX h1 h2)⟩,wU (qp (by kernel_rfl) (fun x=>x.1 == "pasodoble/code.rows") _ _ (by rfl) h)⟩,
  Fu (qp (by kernel_rfl) (fun x=>x.1 == "math/bits.deBruijn32tab") _ _ (by rfl) h)⟩
theorem pY (h:(Lit.int .i64 n).wf=true):bZ n:=qIO h
theorem cIn:Tryz.prog.cellsOf 24=2:=by kernel_rfl
theorem cBool:Tryz.prog.cellsOf 4=1:=by kernel_rfl
theorem cMks:Tryz.prog.cellsOf 22=1:=by kernel_rfl
theorem Q4:Tryz.prog.cellsOf 26=7:=by kernel_rfl
theorem CH:Tryz.prog.cellsOf 80=3:=by kernel_rfl
theorem rM:∀l:List Nat,l.flatMap (fun m:Nat=>[msk m])=l.map msk
 | []=>rfl
 | m::l=>by rw[List.flatMap_cons,rM l]; rfl
theorem Ml (h:Rd Tryz.prog w (n+3) 26 cs):∃(a:Option Addr) (M:List Nat) (c:Nat) (i0 i1 who seed:Int) (wd og:Bool),kI a M.length c i0 i1 who seed wd og=cs∧(∀m∈M,m<4294967296)∧aZ w a M.length 1 (M.map msk)∧bZ i0∧bZ i1∧bZ who:=by
 obtain⟨hl,hf⟩:=nU Tryz.underlying26 h;rw[Q4]at hl;match cs,hl with
 | [a0,a1,a2,a3,a4,a5,a6],_ =>
  simp only[RdF]at hf;obtain⟨h0,h1,h2,h3,h4,h5,_⟩:=hf;simp only[c3,cIn,cBool,cMks]at h0 h1 h2 h3 h4 h5;obtain⟨ta,M,c,e0,hM,_,_,hs⟩:=lU (F:=fun m:Nat=>[msk m]) (sz:=1) (ok:=fun m=>m<4294967296) (fun _=>rfl) (by omega) Tryz.underlying22 P4 (fun ec h=>by
   obtain⟨i,e,g⟩:=iI Tryz.underlying92 h;obtain⟨u0,u1⟩:=IP g;exact⟨i.toNat,by omega,by rw[e,msk,Int.toNat_of_nonneg u0]⟩) h0
  obtain⟨_,h1⟩:=xR Tryz.underlying24 h1;simp only[c3]at h1;obtain⟨i0,e1,g1⟩:=iI Tryz.underlying3 (h1 0 (by decide));obtain⟨i1,e2,g2⟩:=iI Tryz.underlying3 (h1 1 (by decide));obtain⟨who,e3,g3⟩:=iI Tryz.underlying3 h2;obtain⟨seed,e4,_⟩:=iI Tryz.underlying3 h3;obtain⟨wd,e5⟩:=tL Tryz.underlying4 h4;obtain⟨og,e6⟩:=tL Tryz.underlying4 h5;simp at e0 e1 e2 e3 e4 e5 e6;subst e0 e1 e2 e3 e4 e5 e6;exact⟨ta,M,c,i0,i1,who,seed,wd,og,rfl,hM,by rw[←rM]; exact hs,pY g1,pY g2,pY g3⟩
theorem Mm {v:Value} {cs1:Array Value} {l:List Value} (h:v=.agg cs1) (h2:l=v.cells.toList):v=.agg l.toArray:=by
 subst h h2;rfl
theorem P9 (h:Rd Tryz.prog w (n+2) 80 cs):∃x:IN,okIN x∧x.cells=cs:=by
 obtain⟨hl,hf⟩:=nU Tryz.underlying80 h;rw[CH]at hl;match cs,hl with
 | [a0,a1,a2],_ =>
  simp only[RdF]at hf;obtain⟨h0,h1,h2,_⟩:=hf;simp only[c3]at h0 h1 h2;obtain⟨i0,e0,g0⟩:=iI Tryz.underlying3 h0;obtain⟨i1,e1,g1⟩:=iI Tryz.underlying3 h1;obtain⟨i2,e2,g2⟩:=iI Tryz.underlying3 h2;simp at e0 e1 e2;subst e0 e1 e2;exact⟨⟨i0,i1,i2⟩,pY g1,rfl⟩
theorem Mn {W:World} {cs:List Value} (h:Rd Tryz.prog W 9 27 cs):∃(a:Option Addr) (l:List IN) (c:Nat),cs=[.slice a l.length c]∧(∀x∈l,okIN x)∧aZ W a l.length 3 (l.flatMap IN.cells):=by
 obtain⟨a,l,c,e,h1,_,_,h2⟩:=lU (F:=IN.cells) (sz:=3) (ok:=okIN) (fun _=>rfl) (by omega) Tryz.underlying27 CH (fun ec h=>P9 h) h;exact⟨a,l,c,e,h1,h2⟩
end ST
end
section
namespace ST
theorem CI (os:Os) (args:Array Value):laidMetH Tryz.prog Rows.millRunsRow.laid ((World.doorLaid Tryz.prog 407 os).forCall (fun _ _=>0) ⟨#[],args,[]⟩).memory :=
 laidMetH_of_parts3 (fuel:=8) (laidMet_of_run' 8 (by kernel_rfl) (by kernel_rfl)) (by kernel_rfl) (by kernel_rfl)
theorem lifted (os:Os) (started:os.Started) (H:Type) (enc:TypeId×Value→H) :
  ReturnsInHanded {} Tryz.checked os 3 .any (fun w args=>(Rows.millRunsSpec.pre enc Tryz.prog Tryz.f3 [] false w args∧laidMetH Tryz.prog Rows.millRunsRow.laid w)∧sizedMet enc Tryz.prog Tryz.f3 (OpenSpec.ofChange Rows.millRunsSpec) false w args)
   (Rows.millRunsSpec.post enc Tryz.prog Tryz.f3 false true false false):=by
 refine returnsInHanded_of_change_and (C:=Tryz.checked) (X:=fun w _=>laidMetH Tryz.prog Rows.millRunsRow.laid w) (fun _ _ _ hh h=>h.of_heap hh) own started (by kernel_rfl) Tryz.func3
  (ChangeSpec.witness_shaped (enc:=enc) (C:=Tryz.checked) (os:=os) (X:=fun w _=>laidMetH Tryz.prog Rows.millRunsRow.laid w) false (World.doorLaid Tryz.prog 407 os) #[.agg #[.slice none 0 0,.int .i64 0,.int .i64 0,.int .i64 0,.int .i64 0,.bool false,.bool false],.slice none 0 0,.int .i64 0] 8 rfl (World.shaped_of_RefB (by kernel_rfl) (by kernel_rfl)) (by kernel_rfl) (by kernel_rfl) (by kernel_rfl) (CI os _)) ?_
 intro W base args ds gs before hval0 hW _ _ hL _;have hval:∀(j:Nat) t v,Tryz.f3.params[j]?=some t→args[j]?=some v→Value.okWide Tryz.prog W .any base t v:=hval0;have hW':=hW;obtain⟨p,q,hA0,hV,rfl,hfz,hnd⟩:=hW;have hA:DataW.TrodAll enc Tryz.prog W 0 (fun _=>true) true Tryz.f3.params.toList args.toList ds p:=hA0;rw[Tryz.params3]at hA hval;obtain⟨v0,vs0,d0,ds0,p0,q0,hargs,rfl,rfl,h0,r0⟩:=trodAll_cons hA;obtain⟨v1,vs1,d1,ds1,p1,q1,rfl,rfl,rfl,h1,r1⟩:=trodAll_cons r0;obtain⟨v2,vs2,d2,ds2,p2,q2,rfl,rfl,rfl,h2,r2⟩:=trodAll_cons r1;obtain⟨rfl,rfl,rfl⟩:=trodAll_nil r2;obtain rfl:args=#[v0,v1,v2]:=by cases args; simp_all
 obtain⟨rfl,rfl⟩:=trodVars_none hV;have hlt:∀x∈p0++(p1++(p2++[]))++[],x.block<W.heap.size:=fun x hx=>hW'.lt x hx;obtain⟨fuel,rfl,rfl,rfl,w2⟩:=open_int Tryz.underlying3 (hval 2 3 v2 rfl rfl) h2;obtain⟨cs0,e0,_⟩:=okWide_struct Tryz.underlying26 (hval 0 26 v0 rfl rfl);obtain⟨ma,M,mc,i0,i1,who,seed,wd,og,ex,hM,hMs,hi0,hi1,hwho⟩:=Ml (lT h0 9);obtain rfl:v0=.agg (kI ma M.length mc i0 i1 who seed wd og).toArray:=Mm e0 ex;obtain⟨a4,n4,c4',e4⟩:=okWide_slice Tryz.underlying27 (hval 1 27 v1 rfl rfl);obtain⟨ta,la,ca,ea,hok,hap⟩:=Mn (lT h1 9);obtain rfl:v1=.slice ta la.length ca:=by
  subst e4;simpa [Value.cells] using ea
 obtain⟨⟨S,hS⟩,hD⟩:=CG hL;have hmet:=rL hS.1 hS.2 hD (cp:=mc) hMs hM hi0 hi1 (seed:=seed) hwho wd og (lc:=ca) hap hok fuel;refine hmet.2.mono fun e W' he=>?_;obtain⟨v,rfl,rfl,hsame⟩:=he;have bel:=hsame.below;exact⟨_,rfl,_,_,_,[],_,[],hW',trodAll_mk1 (shut_bool Tryz.underlying4 _),
  trodAll_cons_mk (Below.trod tN (by kernel_rfl) (of_decide_eq_true (by kernel_rfl)) h0 bel fun x hx=>hlt x (by simp[hx]))
   (trodAll_cons_mk (Below.trod tN (by kernel_rfl) (of_decide_eq_true (by kernel_rfl)) h1 bel fun x hx=>hlt x (by simp[hx])) (trodAll_cons_mk (shut_int Tryz.underlying3 w2) trodAll_mk0)),rfl,bel.frame _,fun h=>by cases h⟩
end ST
end
end Go.Proofs.YtcmijampbjcbgaaGreatDoor
