/-
Lemmas for the statements of this seat: no statement of the seat is proved in this part (4 of 8); the conditions stand in each theorem.
-/
import Derived.Test.YtcmijampbjcbgaaGreatDoorMruns3
import Derived.Test.YtcmijampbjcbgaaGreatDoorProg
import Derived.Lib.ConvBytes
import Derived.DeepKeys
import Derived.Laws.StructEq
import Derived.WideKeyRuns
import Derived.DeepKeys3
set_option autoImplicit true
set_option relaxedAutoImplicit true
set_option linter.unusedSimpArgs false
set_option linter.unusedVariables false
set_option maxRecDepth 100000
namespace Go.Proofs.YtcmijampbjcbgaaGreatDoor
open Go Go.Ev
section
theorem mC (z:Part):∀(comps:List Nat) (L:List Part),L.map (·.comp)=comps.map (fun c:Nat=>(c:Int))→comps.Nodup →
  (∀c∈comps,(L.filter fun q=>decide (q.comp=(c:Int))).length=1)∧comps.map (fun c:Nat=>((L.filter fun q=>decide (q.comp=(c:Int)))[0]?).getD z)=L
 | [],L,h,_=>by
  cases L with
  | nil=>simp
  | cons q L=>simp at h
 | c::cs,[],h,_=>by simp at h
 | c::cs,q::L,h,hn=>by
  rw[List.map_cons,List.map_cons,List.cons.injEq]at h;rw[List.nodup_cons]at hn;obtain⟨i1,i2⟩:=mC z cs L h.2 hn.2;have hq:decide (q.comp=(c:Int))=true:=decide_eq_true h.1;have hd:∀d∈cs,decide (q.comp=(d:Int))=false:=fun d hd=>decide_eq_false fun e=>by
   have:d=c:=by have:=h.1; omega
   subst this; exact hn.1 hd
  have hL:L.filter (fun q=>decide (q.comp=(c:Int)))=[]:=by
   rw[List.filter_eq_nil_iff];intro x hx;have hm:x.comp∈cs.map (fun c:Nat=>(c:Int)):=h.2▸List.mem_map.2 ⟨x,hx,rfl⟩;obtain⟨d,hdm,e⟩:=List.mem_map.1 hm;have:¬x.comp=(c:Int):=fun e2=>by
    have:d=c:=by omega
    subst this; exact hn.1 hdm
   simpa using this
  refine⟨fun d hdm=>?_,?_⟩
  ·rcases List.mem_cons.1 hdm with rfl | hdm
   ·rw[List.filter_cons_of_pos (by simpa using hq),hL]; rfl
   ·rw[List.filter_cons_of_neg (by simpa using hd d hdm)]; exact i1 d hdm
  ·rw[List.map_cons,List.filter_cons_of_pos (by simpa using hq)];congr 1;refine Eq.trans (List.map_congr_left fun d hdm=>?_) i2;rw[List.filter_cons_of_neg (by simpa using hd d hdm)]
theorem qT {S:SM} {n i:Nat} (hn:n<S.tabs.length) (k:Nat):(fk S n i g L hn).tabs[k]?=if k=n then some ⟨S.tabs[n].rows++[((i:Int),g)],(pushC S.tabs[n] L).col⟩ else S.tabs[k]?:=by
 unfold fk;rw[List.getElem?_set];by_cases h:n=k
 ·subst h; rw[if_pos rfl,if_pos hn,if_pos rfl]
 ·rw[if_neg h,if_neg (fun e=>h e.symm)]
theorem pp {S:SM} {n i:Nat} (hn:n<S.tabs.length) (hi:i<S.spots.length) (k:Nat):(fk S n i g L hn).spots[k]?=if k=i then some (n,S.tabs[n].rows.length) else S.spots[k]?:=by
 unfold fk;rw[List.getElem?_set];by_cases h:i=k
 ·subst h; rw[if_pos rfl,if_pos hi,if_pos rfl]
 ·rw[if_neg h,if_neg (fun e=>h e.symm)]
theorem sG.enter (h:sG S (·=i)) {g:Int} (hg:S.gens[i]?=some (g,true)) {n:Nat} (hn:n<S.tabs.length) {L:List Part} (hLc:L.map (·.comp)=(bq S.masks n).map (fun c:Nat=>(c:Int))) :
  WF (fk S n i g L hn)∧partsOf (fk S n i g L hn) i=L∧∀j gj,j≠i→S.gens[j]?=some (gj,true)→partsOf (fk S n i g L hn) j=partsOf S j:=by
 have hi:i<S.spots.length:=by rw[←h.gs]; exact(List.getElem?_eq_some_iff.1 hg).1
 have hTn:S.tabs[n]?=some S.tabs[n]:=List.getElem?_eq_getElem hn;have hT':=qT (i:=i) (g:=g) (L:=L) hn;have hS':=pp (g:=g) (L:=L) hn hi;obtain⟨f1,f2⟩:=mC ⟨0,0,0,0,0,0⟩ _ L hLc (po S.masks n);have key:∀j gj,j≠i→S.gens[j]?=some (gj,true)→∃n' r' T',(fk S n i g L hn).spots[j]?=some (n',r')∧(fk S n i g L hn).tabs[n']?=some T'∧T'.rows[r']?=some ((j:Int),gj) ∧
   ∃T0,S.spots[j]?=some (n',r')∧S.tabs[n']?=some T0∧∀c∈bq S.masks n',(T'.col c)[r']?=(T0.col c)[r']?:=by
  intro j gj hj hgj;obtain⟨n',r',T',h1,h2,h3⟩:=h.live j gj hgj hj;by_cases hnn:n'=n
  ·subst hnn;rw[hTn]at h2; cases h2;have hr'l:=(List.getElem?_eq_some_iff.1 h3).1;refine⟨n',r',_,by rw[hS',if_neg hj]; exact h1,by rw[hT',if_pos rfl],?_,_,h1,hTn,fun c hc=>?_⟩
   ·show(S.tabs[n'].rows++_)[r']?=_;rw[List.getElem?_append_left hr'l]; exact h3
   ·show(S.tabs[n'].col c++_)[r']?=_;rw[List.getElem?_append_left (by rw[h.cols n' _ c hTn hc]; exact hr'l)]
  ·exact⟨n',r',T',by rw[hS',if_neg hj]; exact h1,by rw[hT',if_neg hnn]; exact h2,h3,T',h1,h2,fun c _=>rfl⟩
 refine⟨⟨?_,?_,?_,?_⟩,?_,?_⟩
 ·show S.gens.length=(S.spots.set i _).length;rw[List.length_set]; exact h.gs
 ·intro j gj hgj _;by_cases hj:j=i
  ·subst hj;have:S.gens[j]?=some (gj,true):=hgj;rw[hg]at this; cases this;refine⟨n,S.tabs[n].rows.length,_,by rw[hS',if_pos rfl],by rw[hT',if_pos rfl],?_⟩;show(S.tabs[n].rows++_)[_]?=_;rw[List.getElem?_append_right (by omega)]; simp
  ·obtain⟨n',r',T',k1,k2,k3,_⟩:=key j gj hj hgj;exact⟨n',r',T',k1,k2,k3⟩
 ·intro n' T' r' e hTq hre;rw[hT']at hTq;by_cases hnn:n'=n
  ·subst hnn;rw[if_pos rfl]at hTq;cases hTq;have hre:(S.tabs[n'].rows++[((i:Int),g)])[r']?=some e:=hre;rcases Nat.lt_or_ge r' S.tabs[n'].rows.length with hlt | hge
   ·rw[List.getElem?_append_left hlt]at hre;obtain⟨j,e1,e2,e3,e4⟩:=h.rows n' _ _ _ hTn hre;exact⟨j,e1,fun h=>h,e3,by rw[hS',if_neg e2]; exact e4⟩
   ·rw[List.getElem?_append_right hge]at hre;have h0:r'-S.tabs[n'].rows.length=0:=by
     have:=(List.getElem?_eq_some_iff.1 hre).1;simp at this; omega
    rw[h0]at hre;simp at hre;subst hre;exact⟨i,rfl,fun h=>h,hg,by rw[hS',if_pos rfl,show r'=S.tabs[n'].rows.length by omega]⟩
  ·rw[if_neg hnn]at hTq;obtain⟨j,e1,e2,e3,e4⟩:=h.rows n' _ _ _ hTq hre;exact⟨j,e1,fun h=>h,e3,by rw[hS',if_neg e2]; exact e4⟩
 ·intro n' T' c hTq hc;rw[hT']at hTq;by_cases hnn:n'=n
  ·subst hnn;rw[if_pos rfl]at hTq;cases hTq;have hcl:=h.cols n' _ c hTn hc;have:=f1 c hc;show(S.tabs[n'].col c++L.filter _).length=(S.tabs[n'].rows++_).length;rw[List.length_append,List.length_append,hcl,this]; rfl
  ·rw[if_neg hnn]at hTq;exact h.cols n' _ c hTq hc
 ·have k1:=hS' i;rw[if_pos rfl]at k1;have k2:=hT' n;rw[if_pos rfl]at k2;rw[cT k1 k2];refine Eq.trans (List.map_congr_left fun c hc=>?_) f2;have hcl:=h.cols n _ c hTn hc;show((S.tabs[n].col c++L.filter _)[S.tabs[n].rows.length]?).getD _=_;rw[List.getElem?_append_right (by omega),hcl,Nat.sub_self]
 ·intro j gj hj hgj;obtain⟨n',r',T',k1,k2,k3,T0,k4,k5,k6⟩:=key j gj hj hgj;rw[cT k1 k2,cT k4 k5];refine List.map_congr_left fun c hc=>?_;unfold partAt;rw[k6 c hc]
theorem sG.masks (h:sG S ex) (ht:S.tabs.length≤S.masks.length) (m:Nat):sG { S with masks:=de S.masks m } ex∧∀j gj,¬ex j→S.gens[j]?=some (gj,true)→partsOf { S with masks:=de S.masks m } j=partsOf S j:=by
 refine⟨⟨h.gs,h.live,h.rows,fun n T c hT hc=>?_⟩,fun j gj hj hgj=>?_⟩
 ·have hn:n<S.tabs.length:=(List.getElem?_eq_some_iff.1 hT).1;refine h.cols n T c hT ?_;rw[←gq (m:=m) (by omega)]; exact hc
 ·obtain⟨n,r,T,h1,h2,h3⟩:=h.live j gj hgj hj;have hn:=(List.getElem?_eq_some_iff.1 h2).1;rw[cT (S:={ S with masks:=de S.masks m }) h1 h2,cT h1 h2];show(bq (de S.masks m) n).map _=_;rw[gq (by omega)]
theorem i7 {S:SM} {k n:Nat} {T:e8} (h:(layS S k).tabs[n]?=some T):S.tabs[n]?=some T∨T=e8.empty:=by
 unfold layS at h;rcases Nat.lt_or_ge n S.tabs.length with hn | hn
 ·rw[List.getElem?_append_left hn]at h; exact .inl h
 ·rw[List.getElem?_append_right hn]at h;have:=(List.getElem?_eq_some_iff.1 h)
  obtain⟨h1,h2⟩:=this;rw[List.getElem_replicate]at h2;exact .inr h2.symm
theorem sG.lay {S:SM} {ex:Nat→Prop} (h:sG S ex) (k:Nat):sG (layS S k) ex∧∀j gj,¬ex j→S.gens[j]?=some (gj,true)→partsOf (layS S k) j=partsOf S j:=by
 have hup:∀{n T},S.tabs[n]?=some T→(layS S k).tabs[n]?=some T:=fun {n T} e=>by
  unfold layS;rw[List.getElem?_append_left (List.getElem?_eq_some_iff.1 e).1]; exact e
 refine⟨⟨h.gs,fun i g hg hx=>?_,fun n T r e hT hr=>?_,fun n T c hT hc=>?_⟩,fun j gj hj hgj=>?_⟩
 ·obtain⟨n,r,T,h1,h2,h3⟩:=h.live i g hg hx;exact⟨n,r,T,h1,hup h2,h3⟩
 ·rcases i7 hT with hT | rfl
  ·exact h.rows n T r e hT hr
  ·cases hr
 ·rcases i7 hT with hT | rfl
  ·exact h.cols n T c hT hc
  ·rfl
 ·obtain⟨n,r,T,h1,h2,h3⟩:=h.live j gj hgj hj;rw[cT (S:=layS S k) h1 (hup h2),cT h1 h2]; rfl
theorem sG.born (h:WF S) {i:Nat} {g0 g1:Int} (hg:S.gens[i]?=some (g0,false)) (free:List Nat):sG (gK S (S.gens.set i (g1,true)) free) (·=i):=by
 have hi:=(List.getElem?_eq_some_iff.1 hg).1;have hne:∀j,j≠i→(S.gens.set i (g1,true))[j]?=S.gens[j]?:=fun j hj=>by rw[List.getElem?_set_ne (fun e=>hj e.symm)]
 refine⟨by show(S.gens.set i _).length=_; rw[List.length_set]; exact h.gs,fun j g hgj hj=>?_,fun n T r e hT hr=>?_,h.cols⟩
 ·have hgj:(S.gens.set i (g1,true))[j]?=some (g,true):=hgj;rw[hne j hj]at hgj;exact h.live j g hgj (fun h=>h)
 ·obtain⟨j,e1,_,e3,e4⟩:=h.rows n T r e hT hr;have hj:j≠i:=fun e=>by subst e; rw[hg]at e3; cases e3
  exact⟨j,e1,hj,by show(S.gens.set i (g1,true))[j]?=_; rw[hne j hj]; exact e3,e4⟩
theorem pq {S:SM} (hcs:S.cs.length≤16) {L L':List Part} (hf:∀q∈L,d7 S.cs q) (hnt:fa L) (hp:L'.Perm L) (hs:L'.Pairwise (fun x y=>x.comp≤y.comp)):L'.map (·.comp)=(listF (maskP L)).map (fun c:Nat=>(c:Int)):=by
 refine List.Perm.eq_of_pairwise (le:=fun x y:Int=>x≤y) (fun a b _ _ h1 h2=>by omega) ?_ ?_ ?_
 ·rw[List.pairwise_map]; exact hs
 ·rw[List.pairwise_map]; exact(j0 _).imp (fun h=>by omega)
 ·refine(hp.map _).trans ((List.perm_ext_iff_of_nodup hnt ?_).2 fun a=>?_)
  ·unfold List.Nodup;rw[List.pairwise_map];exact(iQ _).imp (fun h e=>h (by omega))
  ·rw[List.mem_map,List.mem_map];constructor
   ·rintro⟨q,hq,rfl⟩;obtain⟨d,e1,e2,_⟩:=hf q hq;exact⟨d,fQ.2 ⟨by omega,(eO S.cs hcs L hf d).2 ⟨q,hq,e1⟩⟩,e1.symm⟩
   ·rintro⟨d,hd,rfl⟩;obtain⟨q,hq,e⟩:=(eO S.cs hcs L hf d).1 (fQ.1 hd).2;exact⟨q,hq,e⟩
end
section
def Ks (S:SM):Prop:=S.free.Nodup∧∀i,i∈S.free↔∃g,S.gens[i]?=some (g,false)
structure GS (S:SM) (t:Nat):Prop where
 wf:WF S
 fr:Ks S
 gen:∀(i:Nat) (x:Int×Bool),S.gens[i]?=some x→0≤x.1∧x.1≤(t:Int)
 ml:S.masks.length≤t+1
 g64:S.gens.length≤64
theorem Aa (ms:List Nat) (m:Nat):ms.length≤(de ms m).length∧(de ms m).length≤ms.length+1:=by
 unfold de; split<;>simp
theorem GS.bnd (h:GS S t):Kq S:=by
 intro n T hT;have h1:=h.wf.rows_le hT;have h2:=h.wf.gs;have h3:=h.g64;refine⟨by omega,fun c hc=>?_⟩;rw[h.wf.cols n T c hT hc]; omega
structure D3 (S S':SM) (L':List Part) (i:Nat) (g:Int):Prop where
 gens:S'.gens=S.gens.set i (g,true)
 cs:S'.cs=S.cs
 masks:S'.masks=de S.masks (maskP L')
 tabs:S'.tabs.length=S'.masks.length
 free:S'.free=S.free.dropLast
 parts:partsOf S' i=L'
 others:∀j gj,j≠i→S.gens[j]?=some (gj,true)→partsOf S' j=partsOf S j
theorem sH {cs:List Comp} (hcs:cs.length≤16) {L L':List Part} (hp:L'.Perm L) (hf:∀q∈L,d7 cs q):maskP L'=maskP L:=by
 have hf':∀q∈L',d7 cs q:=fun q hq=>hf q (hp.mem_iff.1 hq);apply Nat.eq_of_testBit_eq;intro c;rw[Bool.eq_iff_iff,eO cs hcs L' hf' c,eO cs hcs L hf c];exact⟨fun⟨q,h,e⟩=>⟨q,hp.mem_iff.1 h,e⟩,fun⟨q,h,e⟩=>⟨q,hp.mem_iff.2 h,e⟩⟩
theorem GS.spawn (h:GS S t) (ht:S.tabs.length≤S.masks.length) (hcs:S.cs.length≤16) {K i:Nat} {g0:Int} (hK:K+1=S.free.length) (hi:S.free[K]'(by omega)=i) (hg:S.gens[i]?=some (g0,false))
  {L L':List Part} (hf:∀q∈L,d7 S.cs q) (hnt:fa L) (hp:L'.Perm L) (hs:L'.Pairwise (fun x y=>x.comp≤y.comp)) :
  GS (mB S (maskP L) i (g0+1) L' ht (S.gens.set i (g0+1,true)) (S.free.take K)) (t+1)∧D3 S (mB S (maskP L) i (g0+1) L' ht (S.gens.set i (g0+1,true)) (S.free.take K)) L' i (g0+1):=by
 have hil:=(List.getElem?_eq_some_iff.1 hg).1;have w1:=sG.born h.wf hg (g1:=g0+1) (S.free.take K);obtain⟨w2,v2⟩:=w1.masks ht (maskP L);obtain⟨w3,v3⟩:=w2.lay ((de S.masks (maskP L)).length-S.tabs.length);have hn:(de S.masks (maskP L)).idxOf (maskP L)<(laidS (gK S (S.gens.set i (g0+1,true)) (S.free.take K)) (maskP L)).tabs.length:=by
  have e:=i6 (S:=gK S (S.gens.set i (g0+1,true)) (S.free.take K)) ht (maskP L);rw[e]; exact fD _ _
 have hgi:(laidS (gK S (S.gens.set i (g0+1,true)) (S.free.take K)) (maskP L)).gens[i]?=some (g0+1,true):=by
  show(S.gens.set i (g0+1,true))[i]?=_;rw[List.getElem?_set,if_pos rfl,if_pos hil]
 have hLc:L'.map (·.comp)=(bq (laidS (gK S (S.gens.set i (g0+1,true)) (S.free.take K)) (maskP L)).masks ((de S.masks (maskP L)).idxOf (maskP L))).map (fun c:Nat=>(c:Int)):=by
  show _=(bq (de S.masks (maskP L)) _).map _;unfold bq;rw[qQ];exact pq hcs hf hnt hp hs
 obtain⟨w4,v4,v5⟩:=sG.enter w3 hgi hn hLc;have hlen:(mB S (maskP L) i (g0+1) L' ht (S.gens.set i (g0+1,true)) (S.free.take K)).tabs.length=(de S.masks (maskP L)).length:=by
  have e:=i6 (S:=gK S (S.gens.set i (g0+1,true)) (S.free.take K)) ht (maskP L);show(List.set _ _ _).length=_;rw[List.length_set]; exact e
 have hfl:S.free.take K=S.free.dropLast:=by rw[List.dropLast_eq_take,show S.free.length-1=K by omega]
 have hsp:S.free=S.free.take K++[i]:=by
  have:=List.take_append_drop K S.free;rw[List.drop_eq_getElem_cons (by omega),hi,List.drop_eq_nil_of_le (by omega)]at this;exact this.symm
 refine⟨⟨w4,⟨?_,fun j=>?_⟩,fun j x hx=>?_,?_,?_⟩,⟨rfl,rfl,?_,hlen,hfl,v4,fun j gj hj hgj=>?_⟩⟩
 ·exact h.fr.1.sublist (List.take_sublist _ _)
 ·show j∈S.free.take K↔∃g,(S.gens.set i (g0+1,true))[j]?=some (g,false);have hnd:=h.fr.1;rw[hsp]at hnd;have hin:i∉S.free.take K:=fun hm=>by
   have:=(List.nodup_append.1 hnd).2.2 i hm i (by simp);exact this rfl
  by_cases hj:j=i
  ·subst hj;rw[List.getElem?_set,if_pos rfl,if_pos hil];exact⟨fun h=>absurd h hin,fun⟨g,e⟩=>by cases e⟩
  ·rw[List.getElem?_set_ne (fun e=>hj e.symm),←h.fr.2 j];constructor
   ·intro hm; exact List.mem_of_mem_take hm
   ·intro hm;rw[hsp]at hm;rcases List.mem_append.1 hm with hm | hm
    ·exact hm
    ·simp at hm; exact absurd hm hj
 ·have hx:(S.gens.set i (g0+1,true))[j]?=some x:=hx;by_cases hj:j=i
  ·subst hj;rw[List.getElem?_set,if_pos rfl,if_pos hil]at hx;cases hx;have:=h.gen j _ hg;simp at this ⊢; omega
  ·rw[List.getElem?_set_ne (fun e=>hj e.symm)]at hx;have:=h.gen j x hx
   push_cast; omega
 ·have:=Aa S.masks (maskP L);have h2:=h.ml;show(de S.masks (maskP L)).length≤_;omega
 ·show(S.gens.set i _).length≤64;rw[List.length_set]; exact h.g64
 ·show de S.masks (maskP L)=de S.masks (maskP L');rw[sH hcs hp hf]
 ·have hgj':(S.gens.set i (g0+1,true))[j]?=some (gj,true):=by rw[List.getElem?_set_ne (fun e=>hj e.symm)]; exact hgj
  refine(v5 j gj hj hgj').trans ((v3 j gj hj hgj').trans ((v2 j gj hj hgj').trans rfl))
theorem Ab {o:dd} (hD:fM w) {b:Nat} {p:dJ} {S:SM} (h:bF o w b p S) (hDo:o 19=none) {t:Nat} (hG:GS S t) (ht:t≤10000) (hfree:S.free≠[])
  {L:List Part} {a:Option Addr} {c:Nat} (hs:aZ w a L.length 6 (L.flatMap Part.cells)) (hLb:∀k f,a=some ⟨k,f,none⟩→o k=none) (hn16:L.length≤64) (hf:∀q∈L,d7 S.cs q) (hnt:fa L) :
  af Tryz.prog 72 #[ptrV b,.slice a L.length c] w fun v w'=>∃(i:Nat) (g0:Int) (L':List Part) (S':SM),S.free.getLast?=some i∧S.gens[i]?=some (g0,false)∧v=.tuple #[entV i (g0+1),.nilIface]∧L'.Perm L∧L'.Pairwise (fun x y=>x.comp≤y.comp) ∧
   GS S' (t+1)∧D3 S S' L' i (g0+1)∧c7 o w b S' w':=by
 have hlen:0<S.free.length:=List.length_pos_iff.2 hfree;obtain⟨K,hK⟩:∃K,K+1=S.free.length:=⟨S.free.length-1,by omega⟩
 have hKl:K<S.free.length:=by omega
 obtain⟨g0,hg⟩:=(hG.fr.2 _).1 (List.getElem_mem hKl);obtain⟨hlt,hge⟩:=List.getElem?_eq_some_iff.1 hg;have hb:=hG.gen _ _ hg;have hml:=hG.ml;refine(qR hD h hDo hK (i:=S.free[K]) rfl hlt (by rw[hge]; simp at hb ⊢; omega) (by rw[←hG.wf.gs]; exact hlt) (by omega) hG.bnd hs hLb hn16 hf hnt).mono ?_;rintro v w' ⟨rfl,L',h1,h2,h3⟩;have hg':(S.gens[S.free[K]]).1=g0:=by rw[hge]
 rw[hg']at h3;obtain⟨k1,k2⟩:=hG.spawn h.tle h.good.1 hK rfl hg hf hnt h1 h2;refine⟨S.free[K],g0,L',_,?_,hg,by rw[hg'],h1,h2,k1,k2,h3⟩;rw[List.getLast?_eq_getElem?,show S.free.length-1=K by omega,List.getElem?_eq_getElem hKl]
end
section

end
section
attribute [local irreducible] kO kB bG bH kN kG aA ai aw aB bj knew bB aP ay aE bk aD aU bC bD a8 kbool kint kstr keq kun ksl bz cQ kta kmk kmm ksem ksemU bd aI aL ae kL
theorem sI {cs:List Comp} (hcs:cs.length≤16) {P:List Part} (hf:∀q∈P,d7 cs q) {m:Nat} (hm:m<2^cs.length) (hc:P.map (·.comp)=(listF m).map (fun c:Nat=>(c:Int))):maskP P=m:=by
 apply Nat.eq_of_testBit_eq;intro c;rw[Bool.eq_iff_iff,eO cs hcs P hf c];constructor
 ·rintro⟨q,hq,e⟩;have h1:q.comp∈(listF m).map (fun c:Nat=>(c:Int)):=hc▸List.mem_map.2 ⟨q,hq,rfl⟩;obtain⟨d,hd,e2⟩:=List.mem_map.1 h1;have:d=c:=by omega
  subst this;exact(fQ.1 hd).2
 ·intro hb;have hcl:c<cs.length:=by
   rcases Nat.lt_or_ge c cs.length with h | h
   ·exact h
   ·have:m<2^c:=Nat.lt_of_lt_of_le hm (Nat.pow_le_pow_right (by omega) h);rw[Nat.testBit_lt_two_pow this]at hb; cases hb
  have h1:(c:Int)∈P.map (·.comp):=hc▸List.mem_map.2 ⟨c,fQ.2 ⟨by omega,hb⟩,rfl⟩;obtain⟨q,hq,e⟩:=List.mem_map.1 h1;exact⟨q,hq,e⟩
theorem fE (h:bF o w b p S) {t:Nat} (hG:GS S t) {i:Nat} {g:Int} (hg:S.gens[i]?=some (g,true)) :
  ∃n r,S.spots[i]?=some (n,r)∧∃hn:n<S.tabs.length,∃hnm:n<S.masks.length,(∀c∈bq S.masks n,r<(S.tabs[n].col c).length)∧partsOf S i=(bq S.masks n).map (partAt S.tabs[n] r)∧bq S.masks n=listF S.masks[n] ∧
   (partsOf S i).map (·.comp)=(listF S.masks[n]).map (fun c:Nat=>(c:Int))∧(∀q∈partsOf S i,d7 S.cs q)∧maskP (partsOf S i)=S.masks[n]∧S.masks[n]<2^S.cs.length∧∀c∈bq S.masks n,(partAt S.tabs[n] r c).comp=(c:Int):=by
 obtain⟨n,r,T,h1,h2,h3⟩:=hG.wf.live i g hg (fun h=>h);obtain⟨hn,e⟩:=List.getElem?_eq_some_iff.1 h2;subst e;have hr:=(List.getElem?_eq_some_iff.1 h3).1;have hnm:n<S.masks.length:=Nat.lt_of_lt_of_le hn h.tle;have hcol:∀c∈bq S.masks n,r<(S.tabs[n].col c).length:=fun c hc=>by rw[hG.wf.cols n _ c h2 hc]; exact hr
 have hpe:=cT h1 h2;have hce:bq S.masks n=listF S.masks[n]:=by unfold bq; rw[List.getElem?_eq_getElem hnm]
 have hmk:=GF h _ (List.getElem_mem hnm);have hcomp:∀c∈bq S.masks n,(partAt S.tabs[n] r c).comp=(c:Int)∧(partAt S.tabs[n] r c).clean (wdF S.cs c):=fun c hc=>by
  obtain⟨_,_,_,_,_,h6,_⟩:=(h.tab n hn).col hc;have:=h6 _ (List.getElem_mem (hcol c hc));simp only[partAt,List.getElem?_eq_getElem (hcol c hc),Option.getD_some];exact this
 have hmap:(partsOf S i).map (·.comp)=(listF S.masks[n]).map (fun c:Nat=>(c:Int)):=by
  rw[hpe,List.map_map,hce];exact List.map_congr_left fun c hc=>(hcomp c (hce▸hc)).1
 have hfit:∀q∈partsOf S i,d7 S.cs q:=fun q hq=>by
  rw[hpe]at hq;obtain⟨c,hc,rfl⟩:=List.mem_map.1 hq;obtain⟨e1,e2⟩:=hcomp c hc;exact⟨c,e1,qM hmk (hce▸hc),e2⟩
 exact⟨n,r,h1,hn,hnm,hcol,hpe,hce,hmap,hfit,sI h.good.1 hfit hmk hmap,hmk,fun c hc=>(hcomp c hc).1⟩
end
section

end
section
def putS (S:SM) (n r c:Nat) (q:Part) (hn:n<S.tabs.length):SM:={ S with tabs:=S.tabs.set n ⟨S.tabs[n].rows,lm S.tabs[n].col c ((S.tabs[n].col c).set r q)⟩ }
structure D4 (S S':SM) (i c:Nat) (q:Part):Prop where
 gens:S'.gens=S.gens
 cs:S'.cs=S.cs
 masks:S'.masks=S.masks
 tabs:S'.tabs.length=S.tabs.length
 free:S'.free=S.free
 parts:partsOf S' i=(partsOf S i).map fun x=>if x.comp=(c:Int) then q else x
 others:∀j gj,j≠i→S.gens[j]?=some (gj,true)→partsOf S' j=partsOf S j
theorem vK {S:SM} {n r c:Nat} (hn:n<S.tabs.length) (k:Nat):(putS S n r c q hn).tabs[k]?=if k=n then some ⟨S.tabs[n].rows,lm S.tabs[n].col c ((S.tabs[n].col c).set r q)⟩ else S.tabs[k]?:=by
 unfold putS;rw[List.getElem?_set];by_cases h:n=k
 ·subst h; rw[if_pos rfl,if_pos hn,if_pos rfl]
 ·rw[if_neg h,if_neg (fun e=>h e.symm)]
theorem GS.put (h:GS S t) {i:Nat} {g:Int} (hg:S.gens[i]?=some (g,true)) {n r:Nat} (hs:S.spots[i]?=some (n,r)) (hn:n<S.tabs.length) {c:Nat} (hc:c∈bq S.masks n) (hr:r<(S.tabs[n].col c).length)
  (hpc:∀d∈bq S.masks n,(partAt S.tabs[n] r d).comp=(d:Int)) (q:Part) :
  GS (putS S n r c q hn) t∧D4 S (putS S n r c q hn) i c q:=by
 have hTn:S.tabs[n]?=some S.tabs[n]:=List.getElem?_eq_getElem hn;have hT':=vK (r:=r) (c:=c) (q:=q) hn;have hsp:(putS S n r c q hn).spots=S.spots:=rfl;have hcol:∀d,((lm S.tabs[n].col c ((S.tabs[n].col c).set r q)) d).length=(S.tabs[n].col d).length:=fun d=>by
  by_cases hd:d=c
  ·subst hd; rw[gJ,List.length_set]
  ·rw[jZ _ hd]
 refine⟨⟨⟨h.wf.gs,fun j gj hgj _=>?_,fun n' T r' e hT hre=>?_,fun n' T d hT hd=>?_⟩,h.fr,h.gen,h.ml,h.g64⟩,⟨rfl,rfl,rfl,by simp[putS],rfl,?_,fun j gj hj hgj=>?_⟩⟩
 ·obtain⟨n',r',T',h1,h2,h3⟩:=h.wf.live j gj hgj (fun h=>h);by_cases hnn:n'=n
  ·subst hnn;rw[hTn]at h2; cases h2;exact⟨n',r',_,h1,(hT' n').trans (if_pos rfl),h3⟩
  ·exact⟨n',r',T',h1,by rw[hT',if_neg hnn]; exact h2,h3⟩
 ·rw[hT']at hT;by_cases hnn:n'=n
  ·subst hnn;rw[if_pos rfl]at hT;cases hT;exact h.wf.rows n' _ r' e hTn hre
  ·rw[if_neg hnn]at hT;exact h.wf.rows n' T r' e hT hre
 ·rw[hT']at hT;by_cases hnn:n'=n
  ·subst hnn;rw[if_pos rfl]at hT;cases hT;show(lm _ _ _ d).length=_;rw[hcol d];exact h.wf.cols n' _ d hTn hd
  ·rw[if_neg hnn]at hT;exact h.wf.cols n' T d hT hd
 ·rw[cT hs hTn,cT (S:=putS S n r c q hn) hs (by rw[hT',if_pos rfl]),List.map_map];refine List.map_congr_left fun d hd=>?_;have e:=hpc d hd;show((lm S.tabs[n].col c ((S.tabs[n].col c).set r q) d)[r]?).getD _=if (partAt S.tabs[n] r d).comp=(c:Int) then q else partAt S.tabs[n] r d
  by_cases hdc:d=c
  ·subst hdc;rw[if_pos e,gJ,List.getElem?_set,if_pos rfl,if_pos hr]; rfl
  ·rw[if_neg (by omega),jZ _ hdc]; rfl
 ·obtain⟨n',r',T',h1,h2,h3⟩:=h.wf.live j gj hgj (fun h=>h);by_cases hnn:n'=n
  ·subst hnn;rw[hTn]at h2; cases h2;have hrr:r'≠r:=fun e=>by
    subst e;obtain⟨n2,r2,T2,k1,k2,k3⟩:=h.wf.live i g hg (fun h=>h);rw[hs]at k1; cases k1;rw[hTn]at k2; cases k2;rw[h3]at k3;simp at k3; omega
   rw[cT h1 hTn,cT (S:=putS S n' r c q hn) h1 (by rw[hT',if_pos rfl])];refine List.map_congr_left fun d hd=>?_;show((lm S.tabs[n'].col c ((S.tabs[n'].col c).set r q) d)[r']?).getD _=((S.tabs[n'].col d)[r']?).getD _;by_cases hdc:d=c
   ·subst hdc;rw[gJ,List.getElem?_set_ne (fun e=>hrr e.symm)]
   ·rw[jZ _ hdc]
  ·rw[cT h1 h2,cT (S:=putS S n r c q hn) h1 (by rw[hT',if_neg hnn]; exact h2)]; rfl
theorem pu (h:bF o w b p S) {t:Nat} (hG:GS S t) {i:Nat} {g:Int} (hg:S.gens[i]?=some (g,true)) {c:Nat} {q:Part} (hq:q∈partsOf S i) (hqc:q.comp=(c:Int)) :
  ∃n r,S.spots[i]?=some (n,r)∧∃hn:n<S.tabs.length,∃hcm:c∈bq S.masks n,∃hr:r<(S.tabs[n].col c).length,(S.tabs[n].col c)[r]=q∧∀d∈bq S.masks n,(partAt S.tabs[n] r d).comp=(d:Int):=by
 obtain⟨n,r,hsp,hn,hnm,hcol,hpe,hce,hmap,hfit,hmk,hmlt,hpc⟩:=fE h hG hg;rw[hpe]at hq;obtain⟨d,hd,rfl⟩:=List.mem_map.1 hq;have hdc:d=c:=by have:=hpc d hd; omega
 subst hdc;refine⟨n,r,hsp,hn,hd,hcol d hd,?_,hpc⟩;simp only[partAt,List.getElem?_eq_getElem (hcol d hd),Option.getD_some]
theorem Kt (h:bF o w b p S) {t:Nat} (hG:GS S t) {i:Nat} {g:Int} (hg:S.gens[i]?=some (g,true)) {c:Nat} {q:Part} (hq:q∈partsOf S i) (hqc:q.comp=(c:Int)) :
  af Tryz.prog 204 #[ptrV b,entV i g,.int .i64 c] w fun v w'=>v=.tuple #[.agg q.cells.toArray,.nilIface]∧Same w w':=by
 obtain⟨n,r,hsp,hn,hcm,hr,rfl,_⟩:=pu h hG hg hq hqc;exact vG h hg hsp hn hcm hr
theorem Ku (h:bF o w b p S) {t:Nat} (hG:GS S t) {i:Nat} {g:Int} (hg:S.gens[i]?=some (g,true)) {c:Nat} {q:Part} (hq:q∈partsOf S i) (hqc:q.comp=(c:Int)) {cell:Nat} (hcell:cell<wdF S.cs c) (value frame:Int) :
  af Tryz.prog 176 #[ptrV b,entV i g,.int .i64 c,.int .i64 cell,.int .i64 value,.int .i64 frame] w fun v w'=>v=.tuple #[.agg q.cells.toArray,.nilIface]∧∃S',GS S' t∧D4 S S' i c (q.setCell cell value frame)∧c7 o w b S' w':=by
 obtain⟨n,r,hsp,hn,hcm,hr,rfl,hpc⟩:=pu h hG hg hq hqc;refine(vH h hg hsp hn hcm hr hcell value frame).mono ?_;rintro v w' ⟨rfl,ht⟩;obtain⟨k1,k2⟩:=hG.put hg hsp hn hcm hr hpc (((S.tabs[n].col c)[r]).setCell cell value frame);exact⟨rfl,_,k1,k2,ht⟩
end
section
def N3 (x1 x3 x18:Value) x19 (J5:Value→World→Prop) (Q:PQ) w:=kint .i64 .add x19 (.int .i64 1) fun v24=>J5 v24 w
def GG x1 x3 x18 x19 (J5:Value→World→Prop) (Q:PQ) w:=aB 2 x1 w fun v21=>ae Tryz.prog 106 #[x3,v21,x19] w fun v22 w23=>N3 x1 x3 x18 x19 J5 Q w23
def GH (x1 x3 x37:Value) x38 (J12:Value→World→Prop) (Q:PQ) w:=kint .i64 .add x38 (.int .i64 1) fun v43=>J12 v43 w
def GI x1 x3 x37 x38 (J12:Value→World→Prop) (Q:PQ) w:=aB 2 x1 w fun v40=>ae Tryz.prog 107 #[x3,v40,x38] w fun v41 w42=>GH x1 x3 x37 x38 J12 Q w42
def GJ x3 (Q:PQ) w:=kN x3<|ai 0 x3 fun v44=>aw v44 w fun v45=>ae Tryz.prog 108 #[v45] w fun v46 w47=>Q v46 w47
def GK x38 x1 x3 x37 (J12:Value→World→Prop) (Q:PQ) w:=kint .i64 .lss x38 x37 fun v39=>kB v39 fun b48=>aA b48 (GI x1 x3 x37 x38 J12 Q w) (GJ x3 Q w)
def GL x1 x3 (Q:PQ) w:=ai 1 x1 fun v35=>aw v35 w fun v36=>aU v36 fun v37=>kL fun(I:Value→World→Prop) (μ:Value→World→Nat)=>I (.int .i64 0) w∧∀(x38:Value) (w1:World),I x38 w1→GK x38 x1 x3 v37 (fun y38 w2=>I y38 w2∧μ y38 w2<μ x38 w1) Q w1
def GM x1 x3 (Q:PQ) w:=ai 1 x1 fun v25=>aw v25 w fun v26=>aU v26 fun v27=>kint .i64 .gtr v27 (.int .i64 8) fun v29=>kB v29 fun b49=>aA b49 (aw (.pointer (some ⟨7,0,none⟩)) w fun v30=>ay [(.string ⟨#[]⟩)] 1 [(0,1,(.string ⟨#[114,101,115,111,117,114,99,101,115]⟩))] 9 w fun v31 w32=>ae Tryz.prog 105 #[x3,v30,v31] w32 fun v33 w34=>GL x1 x3 Q w34) (GL x1 x3 Q w)
def GN x19 x1 x3 x18 (J5:Value→World→Prop) (Q:PQ) w:=kint .i64 .lss x19 x18 fun v20=>kB v20 fun b50=>aA b50 (GG x1 x3 x18 x19 J5 Q w) (GM x1 x3 Q w)
def GO x1 x3 (Q:PQ) w:=ai 0 x1 fun v16=>aw v16 w fun v17=>aU v17 fun v18=>kL fun(I:Value→World→Prop) (μ:Value→World→Nat)=>I (.int .i64 0) w∧∀(x19:Value) (w1:World),I x19 w1→GN x19 x1 x3 v18 (fun y19 w2=>I y19 w2∧μ y19 w2<μ x19 w1) Q w1
def RW x0 (Q:PQ) w:=knew (Value.cells x0) 70 w fun v1 w2=>aP [.slice none 0 0] [] fun v3=>knew (Value.cells v3) 220 w2 fun v4 w5=>ai 0 v1 fun v6=>aw v6 w5 fun v7=>aU v7 fun v8=>kint .i64 .gtr v8 (.int .i64 16) fun v10=>kB v10 fun b51=>aA b51 (aw (.pointer (some ⟨7,0,none⟩)) w5 fun v11=>ay [(.string ⟨#[]⟩)] 1 [(0,1,(.string ⟨#[99,111,109,112,111,110,101,110,116,115]⟩))] 9 w5 fun v12 w13=>ae Tryz.prog 105 #[v4,v11,v12] w13 fun v14 w15=>GO v1 v4 Q w15) (GO v1 v4 Q w5)
theorem Kv (h:RW x0 Q w):af Tryz.prog 67 #[x0] w Q :=
 ax (c:=Tryz.f67.body.get rfl) [(5,[19]),(12,[38])] Tryz.func67 rfl rfl (args:=[x0]) rfl (by kernel_rfl) h
def Ac x0 x6 x9 x35 (Q:PQ) w:=kB x35 fun b47=>aA b47 (aw (.pointer (some ⟨3,0,none⟩)) w fun v32=>ay [(.string ⟨#[]⟩)] 3 [(0,1,(.string ⟨#[99,111,109,112,111,110,101,110,116,115]⟩)),(1,1,x9),(2,1,(.string ⟨#[119,105,100,116,104]⟩))] 9 w fun v33 w34=>ae Tryz.prog 105 #[x0,v32,v33] w34 fun v35 w36=>Q (.tuple #[]) w36) (aB 7 x6 w fun v37=>ae Tryz.prog 157 #[v37] w fun v38 w39=>kun .not (some .bool) v38 fun v40=>kB v40 fun b46=>aA b46 (aw (.pointer (some ⟨3,0,none⟩)) w39 fun v41=>ay [(.string ⟨#[]⟩)] 3 [(0,1,(.string ⟨#[99,111,109,112,111,110,101,110,116,115]⟩)),(1,1,x9),(2,1,(.string ⟨#[100,101,102,97,117,108,116]⟩))] 9 w39 fun v42 w43=>ae Tryz.prog 105 #[x0,v41,v42] w43 fun v44 w45=>Q (.tuple #[]) w45) (Q (.tuple #[]) w39))
def sJ x0 x2 x6 (Q:PQ) w:=ae Tryz.prog 156 #[x2] w fun v23 w24=>ai 1 x6 fun v25=>aw v25 w24 fun v26=>kint .i64 .lss v26 (.int .i64 1) fun v27=>kB v27 fun b28=>aA (!b28) (ai 1 x6 fun v29=>aw v29 w24 fun v30=>kint .i64 .gtr v30 (.int .i64 4) fun v31=>Ac x0 x6 v23 v31 Q w24) (Ac x0 x6 v23 (.bool true) Q w24)
def N4 x0 x1 x2 (Q:PQ) w:=knew (Value.cells x1) 70 w fun v1 w2=>ai 0 v1 fun v3=>aw v3 w2 fun v4=>bz (some (.slice 144)) (some 7) v4 x2 fun v5=>aB 7 v5 w2 fun v6=>knew #[(.string ⟨#[]⟩),.int .i64 0,.bool false,.int .i64 0,.int .i64 0,.int .i64 0,.int .i64 0] 144 w2 fun v7 w8=>bj 7 v7 v6 w8 fun w9=>aB 2 v1 w9 fun v10=>ai 0 v7 fun v11=>aw v11 w9 fun v12=>ae Tryz.prog 154 #[v10,v12] w9 fun v13 w14=>aE v13 0 fun v15=>aE v13 1 fun v16=>ai 0 v7 fun v17=>aw v17 w14 fun v18=>kB v16 fun b19=>aA b19 (kint .i64 .lss v15 x2 fun v20=>ae Tryz.prog 155 #[x0,v18,v20,(.string ⟨#[99,111,109,112,111,110,101,110,116,115]⟩),x2] w14 fun v21 w22=>sJ x0 x2 v7 Q w22) (ae Tryz.prog 155 #[x0,v18,.bool false,(.string ⟨#[99,111,109,112,111,110,101,110,116,115]⟩),x2] w14 fun v48 w49=>sJ x0 x2 v7 Q w49)
theorem D5 (h:N4 x0 x1 x2 Q w):af Tryz.prog 106 #[x0,x1,x2] w Q :=
 ax (c:=Tryz.f106.body.get rfl) [] Tryz.func106 rfl rfl (args:=[x0,x1,x2]) rfl (by kernel_rfl) h
def N5 x0 x1 x2 x3 x4 (Q:PQ) w:=ae Tryz.prog 156 #[x4] w fun v1 w2=>ae Tryz.prog 192 #[x1] w2 fun v3 w4=>kun .not (some .bool) v3 fun v5=>kB v5 fun b17=>aA b17 (aw (.pointer (some ⟨13,0,none⟩)) w4 fun v6=>ay [(.string ⟨#[]⟩)] 3 [(0,1,x3),(1,1,v1),(2,1,(.string ⟨#[110,97,109,101]⟩))] 9 w4 fun v7 w8=>ae Tryz.prog 105 #[x0,v6,v7] w8 fun v9 w10=>Q (.tuple #[]) w10) (kB x2 fun b16=>aA b16 (aw (.pointer (some ⟨8,0,none⟩)) w4 fun v11=>ay [(.string ⟨#[]⟩)] 3 [(0,1,x3),(1,1,v1),(2,1,(.string ⟨#[110,97,109,101]⟩))] 9 w4 fun v12 w13=>ae Tryz.prog 105 #[x0,v11,v12] w13 fun v14 w15=>Q (.tuple #[]) w15) (Q (.tuple #[]) w4))
theorem D6 (h:N5 x0 x1 x2 x3 x4 Q w):af Tryz.prog 155 #[x0,x1,x2,x3,x4] w Q :=
 ax (c:=Tryz.f155.body.get rfl) [] Tryz.func155 rfl rfl (args:=[x0,x1,x2,x3,x4]) rfl (by kernel_rfl) h
def N6 x0 x1 x2 (Q:PQ) w:=knew (Value.cells x1) 70 w fun v1 w2=>ai 1 v1 fun v3=>aw v3 w2 fun v4=>bz (some (.slice 147)) (some 2) v4 x2 fun v5=>ai 0 v5 fun v6=>aw v6 w2 fun v7=>aB 2 v1 w2 fun v8=>ae Tryz.prog 154 #[v8,v7] w2 fun v9 w10=>aE v9 0 fun v11=>aE v9 1 fun v12=>aB 2 v1 w10 fun v13=>ae Tryz.prog 158 #[v13,v7] w10 fun v14 w15=>aE v14 0 fun v16=>aE v14 1 fun v17=>kB v12 fun b18=>aA (!b18) (kB v17 fun b19=>aA b19 (kint .i64 .lss v16 x2 fun v20=>ae Tryz.prog 155 #[x0,v7,v20,(.string ⟨#[114,101,115,111,117,114,99,101,115]⟩),x2] w15 fun v21 w22=>Q (.tuple #[]) w22) (ae Tryz.prog 155 #[x0,v7,.bool false,(.string ⟨#[114,101,115,111,117,114,99,101,115]⟩),x2] w15 fun v23 w24=>Q (.tuple #[]) w24)) (ae Tryz.prog 155 #[x0,v7,.bool true,(.string ⟨#[114,101,115,111,117,114,99,101,115]⟩),x2] w15 fun v25 w26=>Q (.tuple #[]) w26)
theorem D7 (h:N6 x0 x1 x2 Q w):af Tryz.prog 107 #[x0,x1,x2] w Q :=
 ax (c:=Tryz.f107.body.get rfl) [] Tryz.func107 rfl rfl (args:=[x0,x1,x2]) rfl (by kernel_rfl) h
def Kw x0 x1 (Q:PQ) w:=knew (Value.cells x0) 70 w fun v1 w2=>knew (Value.cells x1) 9 w2 fun v3 w4=>ai 0 v1 fun v5=>aw v5 w4 fun v6=>ae Tryz.prog 190 #[v6,(.func (.func 191) #[] #[v3])] w4 fun v7 w8=>kmm .i64 true v7 (.int .i64 0) fun v9=>kint .i64 .geq v7 (.int .i64 0) fun v11=>Q (.tuple #[v9,v11]) w8
theorem ua (h:Kw x0 x1 Q w):af Tryz.prog 154 #[x0,x1] w Q :=
 ax (c:=Tryz.f154.body.get rfl) [] Tryz.func154 rfl rfl (args:=[x0,x1]) rfl (by kernel_rfl) h
def Qz x0 x1 (Q:PQ) w:=knew (Value.cells x0) 144 w fun v1 w2=>ai 0 v1 fun v3=>aw v3 w2 fun v4=>aw x1 w2 fun v5=>kstr .eql v4 v5 fun v6=>Q v6 w2
theorem D8 (h:Qz x0 x1 Q w):af Tryz.prog 191 #[x0,x1] w Q :=
 ax (c:=Tryz.f191.body.get rfl) [] Tryz.func191 rfl rfl (args:=[x0,x1]) rfl (by kernel_rfl) h
def N7 x0 x1 (Q:PQ) w:=knew (Value.cells x0) 70 w fun v1 w2=>knew (Value.cells x1) 9 w2 fun v3 w4=>ai 1 v1 fun v5=>aw v5 w4 fun v6=>ae Tryz.prog 194 #[v6,(.func (.func 195) #[] #[v3])] w4 fun v7 w8=>kmm .i64 true v7 (.int .i64 0) fun v9=>kint .i64 .geq v7 (.int .i64 0) fun v11=>Q (.tuple #[v9,v11]) w8
theorem D9 (h:N7 x0 x1 Q w):af Tryz.prog 158 #[x0,x1] w Q :=
 ax (c:=Tryz.f158.body.get rfl) [] Tryz.func158 rfl rfl (args:=[x0,x1]) rfl (by kernel_rfl) h
def N8 x0 x1 (Q:PQ) w:=knew (Value.cells x0) 147 w fun v1 w2=>ai 0 v1 fun v3=>aw v3 w2 fun v4=>aw x1 w2 fun v5=>kstr .eql v4 v5 fun v6=>Q v6 w2
theorem Ea (h:N8 x0 x1 Q w):af Tryz.prog 195 #[x0,x1] w Q :=
 ax (c:=Tryz.f195.body.get rfl) [] Tryz.func195 rfl rfl (args:=[x0,x1]) rfl (by kernel_rfl) h
def Kx (x0 x6 x7:Value) x8 (J2:Value→World→Prop) (Q:PQ) w:=kint .i64 .add x8 (.int .i64 1) fun v11=>J2 v11 w
def sK x0 x6 x7 x8 x17 (J2:Value→World→Prop) (Q:PQ) w:=kB x17 fun b12=>aA b12 (Q (.bool false) w) (Kx x0 x6 x7 x8 J2 Q w)
def Ad x0 x6 x7 x8 (J2:Value→World→Prop) (Q:PQ) w:=bz (some (.slice 5)) (some 1) x6 x8 fun v6=>aw v6 w fun v7=>kint .u8 .lss v7 (.int .u8 97) fun v8=>kB v8 fun b9=>aA (!b9) (kint .u8 .gtr v7 (.int .u8 122) fun v10=>sK x0 x6 x7 x8 v10 J2 Q w) (sK x0 x6 x7 x8 (.bool true) J2 Q w)
def Ae x0 (Q:PQ) w:=aD x0 fun v13=>kint .i64 .geq v13 (.int .i64 1) fun v15=>kB v15 fun b16=>aA b16 (aD x0 fun v17=>kint .i64 .leq v17 (.int .i64 8) fun v19=>Q v19 w) (Q (.bool false) w)
def Af x8 x0 x6 x7 (J2:Value→World→Prop) (Q:PQ) w:=kint .i64 .lss x8 x7 fun v5=>kB v5 fun b20=>aA b20 (Ad x0 x6 x7 x8 J2 Q w) (Ae x0 Q w)
def N9 x0 (Q:PQ) w:=ksem Tryz.prog (convert 9 355 x0) w fun v1 w2=>aU v1 fun v3=>kL fun(I:Value→World→Prop) (μ:Value→World→Nat)=>I (.int .i64 0) w2∧∀(x8:Value) (w1:World),I x8 w1→Af x8 x0 v1 v3 (fun y8 w2=>I y8 w2∧μ y8 w2<μ x8 w1) Q w1
theorem Eb (h:N9 x0 Q w):af Tryz.prog 192 #[x0] w Q :=
 ax (c:=Tryz.f192.body.get rfl) [(2,[8])] Tryz.func192 rfl rfl (args:=[x0]) rfl (by kernel_rfl) h
def Ag (x8 x9:Value) x10 (J2:Value→World→Prop) (Q:PQ) w:=kint .i64 .add x10 (.int .i64 1) fun v13=>J2 v13 w
def Ah x8 x9 x10 (J2:Value→World→Prop) (Q:PQ) w:=bz (some (.slice 3)) (some 1) x8 x10 fun v10=>aw v10 w fun v11=>kint .i64 .neq v11 (.int .i64 0) fun v12=>kB v12 fun b14=>aA b14 (Q (.bool false) w) (Ag x8 x9 x10 J2 Q w)
def Ky (Q:PQ) w:=Q (.bool true) w
def Ai x10 x8 x9 (J2:Value→World→Prop) (Q:PQ) w:=kint .i64 .lss x10 x9 fun v9=>kB v9 fun b15=>aA b15 (Ah x8 x9 x10 J2 Q w) (Ky Q w)
def Oa x0 (Q:PQ) w:=knew (Value.cells x0) 144 w fun v1 w2=>ai 3 v1 fun v3=>ai 1 v1 fun v4=>aw v4 w2 fun v5=>ksl (some (.array 4 3)) (some 1) v3 (some v5) none fun v6=>aU v6 fun v7=>kL fun(I:Value→World→Prop) (μ:Value→World→Nat)=>I (.int .i64 0) w2∧∀(x10:Value) (w1:World),I x10 w1→Ai x10 v6 v7 (fun y10 w2=>I y10 w2∧μ y10 w2<μ x10 w1) Q w1
theorem Ec (h:Oa x0 Q w):af Tryz.prog 157 #[x0] w Q :=
 ax (c:=Tryz.f157.body.get rfl) [(2,[10])] Tryz.func157 rfl rfl (args:=[x0]) rfl (by kernel_rfl) h
def sL (x0 x1 x7:Value) x8 (J2:Value→World→Prop) (Q:PQ) w:=kint .i64 .add x8 (.int .i64 1) fun v8=>J2 v8 w
def sM x0 x1 x7 x8 (J2:Value→World→Prop) (Q:PQ) w:=bz (some (.slice 144)) (some 7) x0 x8 fun v4=>aB 7 v4 w fun v5=>aI Tryz.prog x1 [v5] w fun v6 w7=>kB v6 fun b9=>aA b9 (Q x8 w7) (sL x0 x1 x7 x8 J2 Q w7)
def Aj (Q:PQ) w:=Q (.int .i64 (-1)) w
def sN x8 x0 x1 x7 (J2:Value→World→Prop) (Q:PQ) w:=kint .i64 .lss x8 x7 fun v3=>kB v3 fun b10=>aA b10 (sM x0 x1 x7 x8 J2 Q w) (Aj Q w)
def Kz x0 x1 (Q:PQ) w:=aU x0 fun v1=>kL fun(I:Value→World→Prop) (μ:Value→World→Nat)=>I (.int .i64 0) w∧∀(x8:Value) (w1:World),I x8 w1→sN x8 x0 x1 v1 (fun y8 w2=>I y8 w2∧μ y8 w2<μ x8 w1) Q w1
theorem uc (h:Kz x0 x1 Q w):af Tryz.prog 190 #[x0,x1] w Q :=
 ax (c:=Tryz.f190.body.get rfl) [(2,[8])] Tryz.func190 rfl rfl (args:=[x0,x1]) rfl (by kernel_rfl) h
def Ak (x0 x1 x7:Value) x8 (J2:Value→World→Prop) (Q:PQ) w:=kint .i64 .add x8 (.int .i64 1) fun v8=>J2 v8 w
def Al x0 x1 x7 x8 (J2:Value→World→Prop) (Q:PQ) w:=bz (some (.slice 147)) (some 2) x0 x8 fun v4=>aB 2 v4 w fun v5=>aI Tryz.prog x1 [v5] w fun v6 w7=>kB v6 fun b9=>aA b9 (Q x8 w7) (Ak x0 x1 x7 x8 J2 Q w7)
def KA (Q:PQ) w:=Q (.int .i64 (-1)) w
def Am x8 x0 x1 x7 (J2:Value→World→Prop) (Q:PQ) w:=kint .i64 .lss x8 x7 fun v3=>kB v3 fun b10=>aA b10 (Al x0 x1 x7 x8 J2 Q w) (KA Q w)
def Ob x0 x1 (Q:PQ) w:=aU x0 fun v1=>kL fun(I:Value→World→Prop) (μ:Value→World→Nat)=>I (.int .i64 0) w∧∀(x8:Value) (w1:World),I x8 w1→Am x8 x0 x1 v1 (fun y8 w2=>I y8 w2∧μ y8 w2<μ x8 w1) Q w1
theorem Ed (h:Ob x0 x1 Q w):af Tryz.prog 194 #[x0,x1] w Q :=
 ax (c:=Tryz.f194.body.get rfl) [(2,[8])] Tryz.func194 rfl rfl (args:=[x0,x1]) rfl (by kernel_rfl) h
def Oc x0 (Q:PQ) w:=ae Tryz.prog 193 #[x0] w fun v1 w2=>Q v1 w2
theorem Ee (h:Oc x0 Q w):af Tryz.prog 156 #[x0] w Q :=
 ax (c:=Tryz.f156.body.get rfl) [] Tryz.func156 rfl rfl (args:=[x0]) rfl (by kernel_rfl) h
def Od x0 (Q:PQ) w:=ae Tryz.prog 214 #[x0,.int .i64 10] w fun v1 w2=>Q v1 w2
theorem Ef (h:Od x0 Q w):af Tryz.prog 193 #[x0] w Q :=
 ax (c:=Tryz.f193.body.get rfl) [] Tryz.func193 rfl rfl (args:=[x0]) rfl (by kernel_rfl) h
def KB x5 x7 (Q:PQ) w:=kint .i64 .add (.int .i64 1) x7 fun v25=>ksl (some (.array 24 5)) (some 1) x5 (some (.int .i64 1)) (some v25) fun v26=>ksem Tryz.prog (convert 355 9 v26) w fun v27 w28=>Q v27 w28
def An x0 x5 x6 (Q:PQ) w:=ae Tryz.prog 230 #[x6] w fun v12 w13=>kint .i64 .add (.int .i64 1) v12 fun v14=>ksl (some (.array 24 5)) (some 1) x5 (some (.int .i64 1)) (some v14) fun v15=>ae Tryz.prog 231 #[v15,x6] w13 fun v16 w17=>kint .i64 .lss x0 (.int .i64 0) fun v18=>kB v18 fun b29=>aA b29 (bz (some (.array 24 5)) (some 1) x5 (.int .i64 0) fun v19=>bj 1 v19 (.int .u8 45) w17 fun w20=>kint .i64 .add (.int .i64 1) v12 fun v21=>ksl (some (.array 24 5)) (some 1) x5 none (some v21) fun v22=>ksem Tryz.prog (convert 355 9 v22) w20 fun v23 w24=>Q v23 w24) (KB x5 v12 Q w17)
def KC x0 (Q:PQ) w:=knew #[.int .u8 0,.int .u8 0,.int .u8 0,.int .u8 0,.int .u8 0,.int .u8 0,.int .u8 0,.int .u8 0,.int .u8 0,.int .u8 0,.int .u8 0,.int .u8 0,.int .u8 0,.int .u8 0,.int .u8 0,.int .u8 0,.int .u8 0,.int .u8 0,.int .u8 0,.int .u8 0,.int .u8 0,.int .u8 0,.int .u8 0,.int .u8 0] 365 w fun v7 w8=>bk .u64 x0 fun v9=>kint .i64 .lss x0 (.int .i64 0) fun v10=>kB v10 fun b30=>aA b30 (kun .neg (some (.int .u64)) v9 fun v11=>An x0 v7 v11 Q w8) (An x0 v7 v9 Q w8)
def sO x0 x17 (Q:PQ) w:=kB x17 fun b31=>aA b31 (ae Tryz.prog 229 #[x0] w fun v5 w6=>Q v5 w6) (KC x0 Q w)
def KD x0 x1 (Q:PQ) w:=bk .u64 x0 fun v32=>kint .i64 .lss x0 (.int .i64 0) fun v33=>ae Tryz.prog 232 #[.slice none 0 0,v32,x1,v33,.bool false] w fun v34 w35=>aE v34 0 fun v36=>aE v34 1 fun v37=>Q v37 w35
def Oe x0 x1 (Q:PQ) w:=kint .i64 .eql x1 (.int .i64 10) fun v1=>kB v1 fun b38=>aA b38 (kint .i64 .leq (.int .i64 0) x0 fun v2=>kB v2 fun b3=>aA b3 (kint .i64 .lss x0 (.int .i64 100) fun v4=>sO x0 v4 Q w) (sO x0 (.bool false) Q w)) (KD x0 x1 Q w)
theorem Eg (h:Oe x0 x1 Q w):af Tryz.prog 214 #[x0,x1] w Q :=
 ax (c:=Tryz.f214.body.get rfl) [] Tryz.func214 rfl rfl (args:=[x0,x1]) rfl (by kernel_rfl) h
def Ao x0 (Q:PQ) w:=kint .i64 .mul x0 (.int .i64 2) fun v4=>kint .i64 .mul x0 (.int .i64 2) fun v5=>kint .i64 .add v5 (.int .i64 2) fun v6=>ksl (some .string) none (.string ⟨#[48,48,48,49,48,50,48,51,48,52,48,53,48,54,48,55,48,56,48,57,49,48,49,49,49,50,49,51,49,52,49,53,49,54,49,55,49,56,49,57,50,48,50,49,50,50,50,51,50,52,50,53,50,54,50,55,50,56,50,57,51,48,51,49,51,50,51,51,51,52,51,53,51,54,51,55,51,56,51,57,52,48,52,49,52,50,52,51,52,52,52,53,52,54,52,55,52,56,52,57,53,48,53,49,53,50,53,51,53,52,53,53,53,54,53,55,53,56,53,57,54,48,54,49,54,50,54,51,54,52,54,53,54,54,54,55,54,56,54,57,55,48,55,49,55,50,55,51,55,52,55,53,55,54,55,55,55,56,55,57,56,48,56,49,56,50,56,51,56,52,56,53,56,54,56,55,56,56,56,57,57,48,57,49,57,50,57,51,57,52,57,53,57,54,57,55,57,56,57,57]⟩) (some v4) (some v6) fun v7=>Q v7 w
def Og x0 (Q:PQ) w:=kint .i64 .lss x0 (.int .i64 10) fun v1=>kB v1 fun b8=>aA b8 (kint .i64 .add x0 (.int .i64 1) fun v2=>ksl (some .string) none (.string ⟨#[48,49,50,51,52,53,54,55,56,57,97,98,99,100,101,102,103,104,105,106,107,108,109,110,111,112,113,114,115,116,117,118,119,120,121,122]⟩) (some x0) (some v2) fun v3=>Q v3 w) (Ao x0 Q w)
theorem Eh (h:Og x0 Q w):af Tryz.prog 229 #[x0] w Q :=
 ax (c:=Tryz.f229.body.get rfl) [] Tryz.func229 rfl rfl (args:=[x0]) rfl (by kernel_rfl) h
end
section
attribute [local irreducible] kO kB bG bH kN kG aA ai aw aB bj knew bB aP ay aE bk aD aU bC bD a8 kbool kint kstr keq kun ksl bz cQ kta kmk kmm ksem ksemU bd aI aL ae kL
def Qg (x:UInt8):Value:=.int .u8 (x.toNat:Int)
theorem QA:Tryz.prog.underlying 355=some (.slice 5):=by kernel_rfl
theorem SH:Tryz.prog.underlying 5=some (.int .u8):=by kernel_rfl
theorem SI:Tryz.prog.underlying 9=some .string:=by kernel_rfl
theorem pw {s:ByteArray} {K:Value→World→Prop} (h:∀c w',Same w w'→aZ w' (some ⟨w.heap.size,0,none⟩) s.size 1 (s.data.toList.map Qg)→K (.slice (some ⟨w.heap.size,0,none⟩) s.size c) w') :
  ksem Tryz.prog (convert 9 355 (.string s)) w K:=by
 rw[dA (Go.Lib.run_convert_string_bytes w _ _ _ s SI QA SH)];refine h _ _ ⟨rfl,rfl,rfl,by rw[Go.Lib.bytesWorld_size]; omega,fun k hk _=>Go.Lib.bytesWorld_at_old w _ s k hk⟩ ⟨by rw[List.length_map,Nat.mul_one]; rfl,.inr ⟨_,0,_,_,_,rfl,Go.Lib.bytesWorld_at_new w _ s,?_⟩⟩;have e:(Go.Lib.bytesCells w 5 s).toList=s.data.toList.map Qg++List.replicate (grownCap w s.size 0 5-s.size) (.int .u8 0):=by
  unfold Go.Lib.bytesCells;rw[Array.toList_append,Array.toList_map,Array.toList_replicate]; rfl
 rw[e,List.drop_zero,List.take_append_of_le_length (by rw[List.length_map]; exact Nat.le_of_eq (Nat.mul_one _)),List.take_of_length_le (by rw[List.length_map]; exact Nat.le_of_eq (Nat.mul_one _).symm)]
def kz (s:ByteArray):Prop:=1≤s.size∧s.size≤8∧∀x∈s.data.toList,97≤x.toNat∧x.toNat≤122
theorem qU (h:kz s) (w:World):af Tryz.prog 192 #[.string s] w fun v w'=>v=.bool true∧Same w w':=by
 obtain⟨h1,h8,hall⟩:=h;refine Eb ?_;unfold N9;refine pw fun c w2 h2 hs2=>?_;have hsz:s.data.toList.length=s.size:=rfl;refine aK ?_;refine cA s.size (fun j x wr=>x=.int .i64 j∧wr=w2) ⟨c8 ⟨rfl,rfl⟩,fun x wr hx=>?_⟩;obtain⟨j,hj,⟨rfl,rfl⟩,hJ⟩:=bK hx;unfold Af;refine aM ?_;refine ac ?_;refine am (fun hlt=>?_) (fun hge=>?_)
 ·have hlt:j<s.size:=by omega
  have hjl:j<s.data.toList.length:=by omega
  have hb:=hall _ (List.getElem_mem hjl);unfold Ad;have:=hs2;rw[←hsz]at this;refine cF (F:=Qg) (l:=s.data.toList) this hjl rfl ?_ |>fun h=>by rw[hsz]at h; exact h
  generalize s.data.toList[j]=x at *;rw[Qg];refine aM ?_;rw[bT (by omega)];refine ac ?_;refine aN rfl ?_;refine bO ?_;rw[bT (by omega)];unfold sK;refine ac ?_;refine az rfl ?_;refine aY (by omega) (by omega) ?_;rw[a7];exact hJ _ _ hlt ⟨rfl,rfl⟩
 ·unfold Ae;refine bQ ?_;refine bI ?_;rw[co (by omega)];refine ac ?_;refine aN rfl ?_;refine bQ ?_;refine db ?_;rw[co (by omega)];exact⟨rfl,h2⟩
theorem mD (q:Comp) {w:World} {bc:Nat} {s:ByteArray} (hb:aX w bc=some (.cells #[.string s] 9)):af Tryz.prog 191 #[.agg q.cells.toArray,.pointer (some ⟨bc,0,none⟩)] w fun v w'=>v=.bool (decide (q.name=s))∧Same w w':=by
 refine D8 ?_;refine ar fun w2 hm2 hs2 hb2=>?_;have hb2:aX w2 w.heap.size=some (.cells q.cells.toArray 144):=hb2;have hbc:=hm2.get hb (fun h=>h);refine aa ?_;refine ao (v:=.string q.name) hb2 (by simp[Comp.cells]) ?_;refine ao (v:=.string s) hbc rfl ?_;rw[lP];exact⟨rfl,hm2⟩
theorem qV {L:List Comp} (hs:aZ w a L.length 7 (L.flatMap Comp.cells)) {bc:Nat} {s:ByteArray} (hb:aX w bc=some (.cells #[.string s] 9)) {k:Nat} (hk:k<L.length) (hkc:(L[k]).name=s) (hbef:∀j (hj:j<L.length),j<k→(L[j]).name≠s) (hlen:L.length≤1000000) :
  af Tryz.prog 190 #[.slice a L.length cp,.func (.func 191) #[] #[.pointer (some ⟨bc,0,none⟩)]] w fun v w'=>v=.int .i64 k∧Same w w':=by
 refine uc ?_;unfold Kz;refine aK ?_;refine cA L.length (fun j x wr=>x=.int .i64 j∧j≤k∧Same w wr) ⟨c8 ⟨rfl,by omega,aH.refl _ _⟩,fun x wr hx=>?_⟩;obtain⟨j,hj,⟨rfl,hjk,hm⟩,hJ⟩:=bK hx;unfold sN;refine aM ?_;refine ac ?_;refine am (fun hlt=>?_) (fun hge=>?_)
 ·have hlt:j<L.length:=by omega
  unfold sM;refine cK (F:=Comp.cells) (sz:=7) (fun _=>rfl) (by omega) (hs.same hm) hlt rfl ?_;refine gL (mD L[j] (hm.get hb (fun h=>h))) ?_;rintro v w7 ⟨rfl,h7⟩;by_cases hjk':j=k
  ·subst hjk';rw[hkc];rw[co rfl];refine ac ?_;refine aN rfl ?_;exact⟨rfl,hm.trans h7⟩
  ·rw[bT (hbef j hlt (by omega))];refine ac ?_;refine az rfl ?_;unfold sL;refine aY (by omega) (by omega) ?_;rw[a7];exact hJ _ _ hlt ⟨rfl,by omega,hm.trans h7⟩
 ·omega
structure dQ (L:List Comp):Prop where
 len:L.length≤16
 names:∀q∈L,kz q.name
 apart:∀i j (hi:i<L.length) (hj:j<L.length),L[i].name=L[j].name→i=j
 wide:∀q∈L,∃d:Nat,q.width=(d:Int)∧1≤d∧d≤4
 clean:∀q∈L,(q.width≤1→q.d1=0)∧(q.width≤2→q.d2=0)∧(q.width≤3→q.d3=0)
def gr (a:Option Addr) (n c:Nat) (rv:Value):Value:=.agg #[.slice a n c,rv]
theorem vL {L:List Comp} (hs:aZ w a L.length 7 (L.flatMap Comp.cells)) (hG:dQ L) {k:Nat} (hk:k<L.length) :
  af Tryz.prog 154 #[gr a L.length cp (.slice ra rn rc),.string (L[k]).name] w fun v w'=>v=.tuple #[.int .i64 k,.bool true]∧Same w w':=by
 have hl:=hG.len;rw[gr];refine ua ?_;unfold Kw;refine ar fun w2 hm2 hs2 hb2=>?_;have hb2:aX w2 w.heap.size=some (.cells #[.slice a L.length cp,.slice ra rn rc] 70):=hb2;refine ar fun w4 hm4 hs4 hb4=>?_;have hb4:aX w4 w2.heap.size=some (.cells #[.string (L[k]).name] 9):=hb4;have hb24:=hm4.get hb2 (fun h=>h);refine aa ?_;refine aj hb24 rfl ?_;refine ab (qV (hs.same (hm2.trans hm4)) hb4 hk rfl (fun j hj hjk e=>by have:=hG.apart j k hj hk e; omega) (by omega)) ?_;rintro v w8 ⟨rfl,h8⟩;rw[jI];refine bI ?_;rw[co (by omega),show max (k:Int) 0=(k:Int) by omega];exact⟨rfl,(hm2.trans hm4).trans h8⟩
theorem qW {n:Nat} (hn:n<100) (w:World):af Tryz.prog 229 #[.int .i64 n] w fun v w'=>(∃s,v=.string s)∧w'=w:=by
 refine Eh ?_;unfold Og;rw[gE,fq];refine am (fun h=>?_) (fun h=>?_)
 ·rw[eS,dV (by omega) (by omega),g9 rfl rfl];have hsz:(⟨#[48,49,50,51,52,53,54,55,56,57,97,98,99,100,101,102,103,104,105,106,107,108,109,110,111,112,113,114,115,116,117,118,119,120,121,122]⟩:ByteArray).size=36:=rfl;refine ah (by simp only[loV_int,hiV_int,hsz]; omega) ?_;exact⟨⟨_,rfl⟩,rfl⟩
 ·unfold Ao;rw[dL,dV (by omega) (by omega),dL,dV (by omega) (by omega),eS,dV (by omega) (by omega),g9 rfl rfl];refine ah ?_ ?_
  ·simp only[loV_int,hiV_int];refine⟨by omega,by omega,?_⟩;show(n:Int)*2+2≤((200:Nat):Int);omega
  exact⟨⟨_,rfl⟩,rfl⟩
theorem mE {n:Nat} (hn:n<100) (w:World):af Tryz.prog 156 #[.int .i64 n] w fun v w'=>(∃s,v=.string s)∧w'=w:=by
 have h2:af Tryz.prog 214 #[.int .i64 n,.int .i64 10] w fun v w'=>(∃s,v=.string s)∧w'=w:=by
  refine Eg ?_;unfold Oe;rw[gD,fq];refine am (fun _=>?_) (fun h=>absurd rfl h);rw[qe,fq];refine am (fun _=>?_) (fun h=>absurd (by omega) h);rw[gE];unfold sO;rw[fq];refine am (fun _=>?_) (fun h=>absurd (by omega) h);refine ab (qW hn w) ?_;rintro v w' h;exact h
 have h3:af Tryz.prog 193 #[.int .i64 n] w fun v w'=>(∃s,v=.string s)∧w'=w:=by
  refine Ef ?_;unfold Od;refine ab h2 ?_;rintro v w' h;exact h
 refine Ee ?_;unfold Oc;refine ab h3 ?_;rintro v w' h;exact h
theorem mF {s:ByteArray} (h:kz s) (f:Value) (kd:Value) {n:Nat} (hn:n<100) (w:World):af Tryz.prog 155 #[f,.string s,.bool false,kd,.int .i64 n] w fun v w'=>v=.tuple #[]∧Same w w':=by
 refine D6 ?_;unfold N5;refine ab (mE hn w) ?_;rintro v w2 ⟨⟨s2,rfl⟩,rfl⟩;refine ab (qU h _) ?_;rintro v w4 ⟨rfl,h4⟩;refine bP ?_;refine ac ?_;refine az rfl ?_;refine ac ?_;refine az rfl ?_;exact⟨rfl,h4⟩
theorem px {nm:ByteArray} {rb:Bool} {d:Nat} (h1:1≤d) (h4:d≤4) {d0 d1 d2 d3:Int} (c1:(d:Int)≤1→d1=0) (c2:(d:Int)≤2→d2=0) (c3:(d:Int)≤3→d3=0) (w:World):af Tryz.prog 157 #[.agg #[.string nm,.int .i64 d,.bool rb,.int .i64 d0,.int .i64 d1,.int .i64 d2,.int .i64 d3]] w fun v w'=>v=.bool true∧Same w w':=by
 refine Ec ?_;unfold Oa;refine ar fun w2 hm2 hs2 hb2=>?_;have hb2:aX w2 w.heap.size=some (.cells #[.string nm,.int .i64 d,.bool rb,.int .i64 d0,.int .i64 d1,.int .i64 d2,.int .i64 d3] 144):=hb2;refine aa ?_;refine aa ?_;refine aj hb2 rfl ?_;refine jt (n:=d) (by omega) ?_;have hsl:aZ w2 (some ⟨w.heap.size,if 4=d then 0+3 else 0+3+d*1,none⟩) (List.replicate (4-d) (0:Int)).length 1 ((List.replicate (4-d) (0:Int)).map (Value.int .i64)):=by
  refine⟨by simp,?_⟩;by_cases h:4=d
  ·left; simp; omega
  ·refine .inr ⟨_,_,_,_,_,rfl,hb2,?_⟩;rw[if_neg h];have:d=1∨d=2∨d=3:=by omega
   rcases this with rfl | rfl | rfl
   ·obtain rfl:=c1 (by omega);obtain rfl:=c2 (by omega);obtain rfl:=c3 (by omega);rfl
   ·obtain rfl:=c2 (by omega);obtain rfl:=c3 (by omega);rfl
   ·obtain rfl:=c3 (by omega);rfl
 have hrl:(List.replicate (4-d) (0:Int)).length=4-d:=by simp
 refine aK ?_;refine cA (4-d) (fun j x wr=>x=.int .i64 j∧wr=w2) ⟨c8 ⟨rfl,rfl⟩,fun x wr hx=>?_⟩;obtain⟨j,hj,⟨rfl,rfl⟩,hJ⟩:=bK hx;unfold Ai;refine aM ?_;refine ac ?_;refine am (fun hlt=>?_) (fun hge=>?_)
 ·have hlt:j<4-d:=by omega
  unfold Ah;refine cF (F:=Value.int .i64) (l:=List.replicate (4-d) (0:Int)) hsl (by omega) rfl ?_ |>fun h=>by rw[hrl]at h; exact h
  rw[List.getElem_replicate];refine cu ?_;rw[bT (by omega)];refine ac ?_;refine az rfl ?_;unfold Ag;refine aY (by omega) (by omega) ?_;rw[a7];exact hJ _ _ hlt ⟨rfl,rfl⟩
 ·exact⟨rfl,hm2⟩
theorem mH {w:World} {a:Option Addr} {L:List Comp} {cp:Nat} {ra:Option Addr} {rn rc:Nat} (hs:aZ w a L.length 7 (L.flatMap Comp.cells)) (hG:dQ L) {k:Nat} (hk:k<L.length) (f:Value) :
  af Tryz.prog 106 #[f,gr a L.length cp (.slice ra rn rc),.int .i64 k] w fun v w'=>v=.tuple #[]∧Same w w':=by
 have hl:=hG.len;have hkm:=List.getElem_mem hk;obtain⟨d,hd,hd1,hd4⟩:=hG.wide _ hkm;rw[gr];refine D5 ?_;unfold N4;refine ar fun w2 hm2 hs2 hb2=>?_;have hb2:aX w2 w.heap.size=some (.cells #[.slice a L.length cp,.slice ra rn rc] 70):=hb2;refine aa ?_;refine aj hb2 rfl ?_;refine cK (F:=Comp.cells) (sz:=7) (fun _=>rfl) (by omega) (hs.same hm2) hk rfl ?_;refine ar fun w8 h8 hs8 hb8=>?_;refine aQ (vs:=(L[k]).cells) hb8 rfl rfl rfl (by simp) (by simp[Comp.cells]) fun w9 h9 hs9 hb9=>?_;have hb9:aX w9 w2.heap.size=some (.cells (L[k]).cells.toArray 144):=hb9;have hb9':aX w9 w2.heap.size=some (.cells #[.string (L[k]).name,.int .i64 d,.bool (L[k]).rb,.int .i64 (L[k]).d0,.int .i64 (L[k]).d1,.int .i64 (L[k]).d2,.int .i64 (L[k]).d3] 144):=by
  rw[hb9]; simp[Comp.cells,hd]
 obtain⟨z1,z2,z3⟩:=hG.clean _ hkm;rw[hd]at z1 z2 z3;have hb29:=h9.get (h8.get hb2 (fun h=>h)) (by omega);have m9:Same w w9:=(hm2.trans h8).trans' (h9.mono fun k _ e=>.inr (by omega));refine au hb29 rfl (by omega) ?_;refine aa ?_;refine aj hb9' rfl ?_;have hfs:=vL (ra:=ra) (rn:=rn) (rc:=rc) (cp:=cp) (hs.same m9) hG hk;rw[gr]at hfs;refine ab hfs ?_;rintro v w14 ⟨rfl,h14⟩;have hb14:=h14.get hb9' (fun h=>h);refine ak rfl ?_;refine ak rfl ?_;refine aa ?_;refine aj hb14 rfl ?_;refine ac ?_;refine aN rfl ?_;refine aM ?_;rw[bT (show ¬(k:Int)<(k:Int) by omega)];refine ab (mF (hG.names _ hkm) f _ (by omega) w14) ?_;rintro v w22 ⟨rfl,h22⟩;have hb22:=h22.get hb14 (fun h=>h);unfold sJ;refine ab (mE (by omega) w22) ?_;rintro v w24 ⟨⟨s2,rfl⟩,rfl⟩;refine aa ?_;refine aj hb22 rfl ?_;refine aM ?_;refine ac ?_;refine aN (fG (bT (by omega))) ?_;refine aa ?_;refine aj hb22 rfl ?_;refine bO ?_;refine ac ?_;refine az (bT (by omega)) ?_;refine au hb22 rfl (by omega) ?_;refine ab (px hd1 hd4 z1 z2 z3 _) ?_;rintro v w39 ⟨rfl,h39⟩;refine bP ?_;refine ac ?_;refine az rfl ?_;exact⟨rfl,((m9.trans h14).trans h22).trans h39⟩
structure ResM where
 name:ByteArray
 value:Int
def ResM.cells (r:ResM):List Value:=[.string r.name,.int .i64 r.value]
structure iR (L:List Comp) (R:List ResM):Prop where
 len:R.length≤8
 names:∀r∈R,kz r.name
 apart:∀i j (hi:i<R.length) (hj:j<R.length),R[i].name=R[j].name→i=j
 other:∀r∈R,∀q∈L,q.name≠r.name
theorem qX {L:List Comp} (hs:aZ w a L.length 7 (L.flatMap Comp.cells)) {bc:Nat} {s:ByteArray} (hb:aX w bc=some (.cells #[.string s] 9)) (hno:∀q∈L,q.name≠s) (hlen:L.length≤1000000) :
  af Tryz.prog 190 #[.slice a L.length cp,.func (.func 191) #[] #[.pointer (some ⟨bc,0,none⟩)]] w fun v w'=>v=.int .i64 (-1)∧Same w w':=by
 refine uc ?_;unfold Kz;refine aK ?_;refine cA L.length (fun j x wr=>x=.int .i64 j∧Same w wr) ⟨c8 ⟨rfl,aH.refl _ _⟩,fun x wr hx=>?_⟩;obtain⟨j,hj,⟨rfl,hm⟩,hJ⟩:=bK hx;unfold sN;refine aM ?_;refine ac ?_;refine am (fun hlt=>?_) (fun hge=>?_)
 ·have hlt:j<L.length:=by omega
  unfold sM;refine cK (F:=Comp.cells) (sz:=7) (fun _=>rfl) (by omega) (hs.same hm) hlt rfl ?_;refine gL (mD L[j] (hm.get hb (fun h=>h))) ?_;rintro v w7 ⟨rfl,h7⟩;rw[bT (hno _ (List.getElem_mem hlt))];refine ac ?_;refine az rfl ?_;unfold sL;refine aY (by omega) (by omega) ?_;rw[a7];exact hJ _ _ hlt ⟨rfl,hm.trans h7⟩
 ·unfold Aj;exact⟨rfl,hm⟩
theorem vM {L:List Comp} (hs:aZ w a L.length 7 (L.flatMap Comp.cells)) (hl:L.length≤1000000) {s:ByteArray} (hno:∀q∈L,q.name≠s) :
  af Tryz.prog 154 #[gr a L.length cp (.slice ra rn rc),.string s] w fun v w'=>v=.tuple #[.int .i64 0,.bool false]∧Same w w':=by
 rw[gr];refine ua ?_;unfold Kw;refine ar fun w2 hm2 hs2 hb2=>?_;have hb2:aX w2 w.heap.size=some (.cells #[.slice a L.length cp,.slice ra rn rc] 70):=hb2;refine ar fun w4 hm4 hs4 hb4=>?_;have hb4:aX w4 w2.heap.size=some (.cells #[.string s] 9):=hb4;have hb24:=hm4.get hb2 (fun h=>h);refine aa ?_;refine ao (v:=.slice a L.length cp) hb24 rfl ?_;refine ab (qX (hs.same (hm2.trans hm4)) hb4 hno hl) ?_;rintro v w8 ⟨rfl,h8⟩;rw[jI];refine bI ?_;rw[bT (by omega),show max (-1:Int) 0=0 by omega];exact⟨rfl,(hm2.trans hm4).trans h8⟩
theorem vN (q:ResM) {w:World} {bc:Nat} {s:ByteArray} (hb:aX w bc=some (.cells #[.string s] 9)):af Tryz.prog 195 #[.agg q.cells.toArray,.pointer (some ⟨bc,0,none⟩)] w fun v w'=>v=.bool (decide (q.name=s))∧Same w w':=by
 refine Ea ?_;unfold N8;refine ar fun w2 hm2 hs2 hb2=>?_;have hb2:aX w2 w.heap.size=some (.cells q.cells.toArray 147):=hb2;have hbc:=hm2.get hb (fun h=>h);refine aa ?_;refine ao (v:=.string q.name) hb2 (by simp[ResM.cells]) ?_;refine ao (v:=.string s) hbc rfl ?_;rw[lP];exact⟨rfl,hm2⟩
theorem qY {R:List ResM} (hs:aZ w a R.length 2 (R.flatMap ResM.cells)) {bc:Nat} {s:ByteArray} (hb:aX w bc=some (.cells #[.string s] 9)) {k:Nat} (hk:k<R.length) (hkc:(R[k]).name=s) (hbef:∀j (hj:j<R.length),j<k→(R[j]).name≠s) (hlen:R.length≤1000000) :
  af Tryz.prog 194 #[.slice a R.length cp,.func (.func 195) #[] #[.pointer (some ⟨bc,0,none⟩)]] w fun v w'=>v=.int .i64 k∧Same w w':=by
 refine Ed ?_;unfold Ob;refine aK ?_;refine cA R.length (fun j x wr=>x=.int .i64 j∧j≤k∧Same w wr) ⟨c8 ⟨rfl,by omega,aH.refl _ _⟩,fun x wr hx=>?_⟩;obtain⟨j,hj,⟨rfl,hjk,hm⟩,hJ⟩:=bK hx;unfold Am;refine aM ?_;refine ac ?_;refine am (fun hlt=>?_) (fun hge=>?_)
 ·have hlt:j<R.length:=by omega
  unfold Al;refine cK (F:=ResM.cells) (sz:=2) (fun _=>rfl) (by omega) (hs.same hm) hlt rfl ?_;refine gL (vN R[j] (hm.get hb (fun h=>h))) ?_;rintro v w7 ⟨rfl,h7⟩;by_cases hjk':j=k
  ·subst hjk';rw[hkc];rw[co rfl];refine ac ?_;refine aN rfl ?_;exact⟨rfl,hm.trans h7⟩
  ·rw[bT (hbef j hlt (by omega))];refine ac ?_;refine az rfl ?_;unfold Ak;refine aY (by omega) (by omega) ?_;rw[a7];exact hJ _ _ hlt ⟨rfl,by omega,hm.trans h7⟩
 ·omega
theorem py {R:List ResM} (hs:aZ w ra R.length 2 (R.flatMap ResM.cells)) (hG:iR L R) {k:Nat} (hk:k<R.length) :
  af Tryz.prog 158 #[gr a n cp (.slice ra R.length rc),.string (R[k]).name] w fun v w'=>v=.tuple #[.int .i64 k,.bool true]∧Same w w':=by
 have hl:=hG.len;rw[gr];refine D9 ?_;unfold N7;refine ar fun w2 hm2 hs2 hb2=>?_;have hb2:aX w2 w.heap.size=some (.cells #[.slice a n cp,.slice ra R.length rc] 70):=hb2;refine ar fun w4 hm4 hs4 hb4=>?_;have hb4:aX w4 w2.heap.size=some (.cells #[.string (R[k]).name] 9):=hb4;have hb24:=hm4.get hb2 (fun h=>h);refine aa ?_;refine ao (v:=.slice ra R.length rc) hb24 rfl ?_;refine ab (qY (hs.same (hm2.trans hm4)) hb4 hk rfl (fun j hj hjk e=>by have:=hG.apart j k hj hk e; omega) (by omega)) ?_;rintro v w8 ⟨rfl,h8⟩;rw[jI];refine bI ?_;rw[co (by omega),show max (k:Int) 0=(k:Int) by omega];exact⟨rfl,(hm2.trans hm4).trans h8⟩
theorem nA {L:List Comp} {R:List ResM} (hs:aZ w a L.length 7 (L.flatMap Comp.cells)) (hl:L.length≤1000000) (hr:aZ w ra R.length 2 (R.flatMap ResM.cells)) (hG:iR L R) {k:Nat} (hk:k<R.length) (f:Value) :
  af Tryz.prog 107 #[f,gr a L.length cp (.slice ra R.length rc),.int .i64 k] w fun v w'=>v=.tuple #[]∧Same w w':=by
 have hlr:=hG.len;have hkm:=List.getElem_mem hk;rw[gr];refine D7 ?_;unfold N6;refine ar fun w2 hm2 hs2 hb2=>?_;have hb2:aX w2 w.heap.size=some (.cells #[.slice a L.length cp,.slice ra R.length rc] 70):=hb2;refine aa ?_;refine ao (v:=.slice ra R.length rc) hb2 rfl ?_;refine bL (F:=ResM.cells) (sz:=2) (j:=0) (v:=.string (R[k]).name) (fun _=>rfl) (hr.same hm2) hk rfl rfl ?_;refine au (cs:=[.slice a L.length cp,.slice ra R.length rc]) hb2 rfl (by omega) ?_;have hf:=vM (cp:=cp) (ra:=ra) (rn:=R.length) (rc:=rc) (hs.same hm2) hl (fun q hq=>hG.other _ hkm q hq);rw[gr]at hf;refine ab hf ?_;rintro v w10 ⟨rfl,h10⟩;refine ak rfl ?_;refine ak rfl ?_;refine au (cs:=[.slice a L.length cp,.slice ra R.length rc]) (h10.get hb2 (fun h=>h)) rfl (by omega) ?_;have hf2:=py (a:=a) (n:=L.length) (cp:=cp) (rc:=rc) (hr.same (hm2.trans h10)) hG hk;rw[gr]at hf2;refine ab hf2 ?_;rintro v w15 ⟨rfl,h15⟩;refine ak rfl ?_;refine ak rfl ?_;refine ac ?_;refine aN rfl ?_;refine ac ?_;refine aN rfl ?_;refine aM ?_;rw[bT (by omega)];refine ab (mF (hG.names _ hkm) f _ (by omega) w15) ?_;rintro v w22 ⟨rfl,h22⟩;exact⟨rfl,((hm2.trans h10).trans h15).trans h22⟩
theorem iS {L:List Comp} {R:List ResM} (hs:aZ w a L.length 7 (L.flatMap Comp.cells)) (hG:dQ L) (hr:aZ w ra R.length 2 (R.flatMap ResM.cells)) (hGR:iR L R) :
  af Tryz.prog 67 #[gr a L.length cp (.slice ra R.length rc)] w fun v w'=>v=.nilIface∧Same w w':=by
 have hl:=hG.len;have hlr:=hGR.len;rw[gr];refine Kv ?_;unfold RW;refine ar fun w2 hm2 hs2 hb2=>?_;have hb2:aX w2 w.heap.size=some (.cells #[.slice a L.length cp,.slice ra R.length rc] 70):=hb2;refine aW (cs:=[.slice none 0 0]) rfl ?_;refine ar fun w5 hm5 hs5 hb5=>?_;have hb25:=hm5.get hb2 (fun h=>h);have m5:=hm2.trans hm5;refine aa ?_;refine aj hb25 rfl ?_;refine aK ?_;refine bO ?_;refine ac ?_;refine az (bT (by omega)) ?_;refine aa ?_;refine aj hb25 rfl ?_;refine aK ?_;refine cA L.length (fun j x wr=>x=.int .i64 j∧Same w5 wr) ⟨c8 ⟨rfl,aH.refl _ _⟩,fun x wr hx=>?_⟩;obtain⟨j,hj,⟨rfl,hm⟩,hJ⟩:=bK hx;have hbr:=hm.get hb25 (fun h=>h);have h5r:=hm.get hb5 (fun h=>h);unfold GN;refine aM ?_;refine ac ?_;refine am (fun hlt=>?_) (fun hge=>?_)
 ·have hlt:j<L.length:=by omega
  unfold GG;refine au hbr rfl (by omega) ?_;have hcs:=mH (ra:=ra) (rn:=R.length) (rc:=rc) (cp:=cp) (hs.same (m5.trans hm)) hG hlt (.pointer (some ⟨w2.heap.size,0,none⟩));rw[gr]at hcs;refine ab hcs ?_;rintro v w23 ⟨rfl,h23⟩;refine aY (by omega) (by omega) ?_;rw[a7];exact hJ _ _ hlt ⟨rfl,hm.trans h23⟩
 ·unfold GM;refine aa ?_;refine aj hbr rfl ?_;refine aK ?_;refine bO ?_;refine ac ?_;refine az (bT (by omega)) ?_;refine aa ?_;refine aj hbr rfl ?_;refine aK ?_;refine cA R.length (fun j x w1=>x=.int .i64 j∧Same wr w1) ⟨c8 ⟨rfl,aH.refl _ _⟩,fun x w1 hx=>?_⟩;obtain⟨j',hj',⟨rfl,hm1⟩,hJ1⟩:=bK hx;have h5r:=hm1.get h5r (fun h=>h);have hbr1:=hm1.get hbr (fun h=>h);have hmw:=m5.trans (hm.trans hm1);unfold GK;refine aM ?_;refine ac ?_;refine am (fun hlt2=>?_) (fun hge2=>?_)
  ·have hlt2:j'<R.length:=by omega
   unfold GI;refine au (cs:=[.slice a L.length cp,.slice ra R.length rc]) hbr1 rfl (by omega) ?_;have hrs:=nA (cp:=cp) (rc:=rc) (hs.same hmw) (by omega) (hr.same hmw) hGR hlt2 (.pointer (some ⟨w2.heap.size,0,none⟩));rw[gr]at hrs;refine ab hrs ?_;rintro v w42 ⟨rfl,h42⟩;unfold GH;refine aY (by omega) (by omega) ?_;rw[a7];exact hJ1 _ _ hlt2 ⟨rfl,hm1.trans h42⟩
  ·unfold GJ;have h5r:aX w1 w2.heap.size=some (.cells #[.slice none 0 0] 220):=h5r;refine aq ?_;refine aa ?_;refine aj h5r rfl ?_;refine ab (xZ (S:=fun _=>⟨0,0,none⟩) (d:=0) (zs:=[]) (aZ.nil _ _ _) (fun p hp=>by cases hp) (by simp) (by simp)) ?_;rintro v w46 ⟨h1,h46⟩;rcases h1.nil_iff with⟨_,rfl⟩ | ⟨h,_⟩
   ·exact⟨rfl,hmw.trans h46⟩
   ·exact absurd rfl h
theorem KE:appT Tryz.prog 67 7 64=true:=by kernel_rfl
theorem KF:je Tryz.prog 67=true:=by kernel_rfl
theorem vO:∃e,Tryz.prog.underlying 67=some (.slice e):=dI (by kernel_rfl)
theorem Oh:appT Tryz.prog 68 2 24=true:=by kernel_rfl
theorem Oi:je Tryz.prog 68=true:=by kernel_rfl
theorem Ap:∃e,Tryz.prog.underlying 68=some (.slice e):=dI (by kernel_rfl)
theorem ones_comps:∀L:List Comp,oneCells (L.flatMap Comp.cells)=true
 | []=>rfl
 | q::L=>by
  rw[List.flatMap_cons];show oneCells (.string q.name::.int .i64 q.width::.bool q.rb::.int .i64 q.d0::.int .i64 q.d1::.int .i64 q.d2::.int .i64 q.d3::L.flatMap Comp.cells)=true;simp only[oneCells,ones_comps L]; rfl
theorem fF {L:List Comp} (hs:aZ w a L.length 7 (L.flatMap Comp.cells)) (hn:L.length≤1000000) :
  af Tryz.prog 63 #[.slice a L.length c] w fun v w'=>bV w' v 7 (L.flatMap Comp.cells)∧Same w w'∧(∀k,bf v k→w.heap.size≤k):=by
 have hfl:=flat_len Comp.cells 7 (fun _=>rfl) L;refine J0 ?_;unfold RS;rw[fg KF];cases a with
 | none =>
  have hL:L.length=0:=by rcases hs.2 with h | ⟨_,_,_,_,_,h,_⟩; exact h; cases h
  have:L=[]:=List.eq_nil_of_length_eq_zero hL;subst this;refine ac ?_;refine aN rfl ?_;exact⟨bV.nil _ _,aH.refl _ _,fun b hb=>by obtain⟨_,_,_,h⟩:=hb; cases h⟩
 | some a =>
  refine ac ?_;refine az rfl ?_;unfold Gv;refine aR (cs:=[]) rfl fun w5 h5 hs5 hb5=>?_;refine be KE (by omega) (vs:=[]) (bV.blk hb5 (n:=0) (by simp) (by simp[maxLen])) (Src.ofSlIs (hk:=vO.choose_spec) c (hs.same h5) (ones_comps L)) (by simp[hfl]; omega) (by simp[hfl]; omega) ?_;intro v' w' ho hm hf;refine⟨by simpa using ho,aH.after h5 hm (fun b hb=>by rw[cg hb]; exact Nat.le_refl _),fun b hb=>?_⟩;rcases hf b hb with h | h
  ·rw[cg h]; exact Nat.le_refl _
  ·omega
theorem ones_res:∀R:List ResM,oneCells (R.flatMap ResM.cells)=true
 | []=>rfl
 | q::R=>by
  rw[List.flatMap_cons];show oneCells (.string q.name::.int .i64 q.value::R.flatMap ResM.cells)=true;simp only[oneCells,ones_res R]; rfl
theorem eq {R:List ResM} (hs:aZ w a R.length 2 (R.flatMap ResM.cells)) (hn:R.length≤1000000) :
  af Tryz.prog 64 #[.slice a R.length c] w fun v w'=>(∃a' n' c',v=.slice a' n' c')∧Same w w':=by
 have hfl:=flat_len ResM.cells 2 (fun _=>rfl) R;refine J8 ?_;unfold RT;rw[fg Oi];cases a with
 | none =>
  refine ac ?_;refine aN rfl ?_;exact⟨⟨_,_,_,rfl⟩,aH.refl _ _⟩
 | some a =>
  refine ac ?_;refine az rfl ?_;unfold Gw;refine aR (cs:=[]) rfl fun w5 h5 hs5 hb5=>?_;refine be Oh (by omega) (vs:=[]) (bV.blk hb5 (n:=0) (by simp) (by simp[maxLen])) (Src.ofSlIs (hk:=Ap.choose_spec) c (hs.same h5) (ones_res R)) (by simp[hfl]; omega) (by simp[hfl]; omega) ?_;intro v' w' ho hm hf;obtain⟨a',n',c',rfl,_⟩:=ho.is;exact⟨⟨_,_,_,rfl⟩,aH.after h5 hm (fun b hb=>by rw[cg hb]; exact Nat.le_refl _)⟩
def newS0 (L:List Comp) (most:Nat):SM:=⟨List.replicate most (0,false),(List.range most).reverse,L,[0],[],List.replicate most (0,0)⟩
def newS (L:List Comp) (most:Nat):SM:=layS (newS0 L most) 1
theorem Ei {L:List Comp} {most:Nat} (h:most≤64):GS (newS L most) 0:=by
 have hd:∀(i:Nat) (x:Int×Bool),(List.replicate most ((0:Int),false))[i]?=some x→x=(0,false):=fun i x e=>by
  obtain⟨_,e⟩:=List.getElem?_eq_some_iff.1 e;rw[List.getElem_replicate]at e; exact e.symm
 refine⟨⟨by simp[newS,newS0,layS],fun i g hg _=>?_,fun n T r e hT hr=>?_,fun n T c hT hc=>?_⟩,⟨?_,fun i=>?_⟩,fun i x hx=>?_,by simp[newS,newS0,layS],by simp[newS,newS0,layS]; exact h⟩
 ·have:=hd i _ hg; cases this
 ·rcases i7 hT with hT | rfl
  ·cases hT
  ·cases hr
 ·rcases i7 hT with hT | rfl
  ·cases hT
  ·rfl
 ·show(List.range most).reverse.Nodup;unfold List.Nodup;rw[List.pairwise_reverse];exact List.nodup_range.imp (fun h e=>h e.symm)
 ·show i∈(List.range most).reverse↔∃g,(List.replicate most ((0:Int),false))[i]?=some (g,false);rw[List.mem_reverse,List.mem_range];constructor
  ·intro hi; exact⟨0,by rw[List.getElem?_replicate,if_pos hi]⟩
  ·rintro⟨g,e⟩;have:=(List.getElem?_eq_some_iff.1 e).1;simpa using this
 ·have:=hd i x hx;subst this;simp
def fI (o:dd) (n bc bp bS k:Nat):Option kU:=if k<n then o k else if k=bS then some .store else if k=bp then some .spots else if k=bc then some .sch else none
theorem vP (hG:dQ L):zX L:=⟨hG.len,fun q hq=>by obtain⟨d,e,h1,h4⟩:=hG.wide q hq; omega⟩
theorem sP (hD:fM w) {a:Option Addr} {L:List Comp} {cp:Nat} {ra:Option Addr} {R:List ResM} {rc:Nat} (hs:aZ w a L.length 7 (L.flatMap Comp.cells)) (hG:dQ L) (hr:aZ w ra R.length 2 (R.flatMap ResM.cells)) (hGR:iR L R) {most:Nat} (hm:most≤64) :
  af Tryz.prog 60 #[gr a L.length cp (.slice ra R.length rc),.int .i64 most] w fun v w'=>∃b,v=.tuple #[ptrV b,.nilIface]∧∃o p,bF o w' b p (newS L most)∧(∀k,k<w.heap.size→o k=none)∧(∀k,w'.heap.size≤k→o k=none)∧Same w w':=by
 have hl:=hG.len;have hlR:=hGR.len;rw[gr];refine JD ?_;unfold RO;refine ar fun w2 h2 hs2 hb2=>?_;have hb2:aX w2 w.heap.size=some (.cells #[.slice a L.length cp,.slice ra R.length rc] 70):=hb2;refine au hb2 rfl (by omega) ?_;have hck:=iS (ra:=ra) (rc:=rc) (cp:=cp) (hs.same h2) hG (hr.same h2) hGR;rw[gr]at hck;refine ab hck ?_;rintro v w5 ⟨rfl,h5⟩;have hb5:=h5.get hb2 (fun h=>h);have m5:=h2.trans h5;rw[aV bU];refine ac ?_;refine az rfl ?_;unfold Gk;refine ab (vu (fun _=>none) w5 most hm) ?_;rintro v w11 ⟨bR,o1,rfl,hl1,hR,h11,hr1,hbR⟩;have hb11:=h11.get hb5 (fun h=>h);have m11:=m5.trans h11;have hRl:=hR.1;refine ak rfl ?_;refine ak rfl ?_;rw[aV bU];refine ac ?_;refine az rfl ?_;unfold Gj;refine aa ?_;refine aj hb11 rfl ?_;refine aK ?_;have ho1:∀k t,dm o1 w11.heap.size k=some t→¬dW t:=fun k t e et=>by
  unfold dm at e;split at e
  ·rcases Nat.lt_or_ge k w5.heap.size with hk | hk
   ·rw[hl1 k hk]at e; cases e
   ·obtain⟨t',e1,e2⟩:=hr1 k hk;rw[e]at e1; cases e1;exact fV e2 et
  ·cases e
 refine ab (sr (dm o1 w11.heap.size) ho1 w11 L.length hl) ?_;rintro v w23 ⟨bA,o2,rfl,hl2,hA,h23⟩;have hb23:=h23.get hb11 (fun h=>h);have m23:=m11.trans h23;have hR1:fh (dm o1 w11.heap.size) w11 bR _ _:=hR.frame (aH.refl (fun _=>False) _) (fun _ _ _ _ h=>h) (bN.cut w11 o1);have hR2:=hR1.frame h23 (fun _ _ _ _ h=>h) hl2;have hsz5:=m5.size;have hsz11:=h11.size;have hsz23:=h23.size;have ho2:∀k,k<w.heap.size→o2 k=none:=fun k hk=>by
  rw[hl2 k (by omega)];unfold dm;rw[if_pos (by omega),hl1 k (by omega)]
 have hDlt:=hD.lt;refine ak rfl ?_;refine ak rfl ?_;rw[aV bU];refine ac ?_;refine az rfl ?_;have fin:∀(bsc:Nat) (wy:World) (ca:Option Addr) (cc:Nat) (rv:Value),Same w23 wy→aX wy bsc=some (.cells #[.slice ca L.length cc,rv] 70)→aZ wy ca L.length 7 (L.flatMap Comp.cells)→(∀k f,ca=some ⟨k,f,none⟩→w23.heap.size≤k∧k<wy.heap.size)→rv.oneCell'=true →
   qL (.int .i64 most) (.pointer (some ⟨bR,0,none⟩)) (ptrV bA) (.pointer (some ⟨bsc,0,none⟩)) (fun v w'=>∃b,v=.tuple #[ptrV b,.nilIface]∧∃o p,bF o w' b p (newS L most)∧(∀k,k<w.heap.size→o k=none)∧(∀k,w'.heap.size≤k→o k=none)∧Same w w') wy:=by
  intro bsc wy ca cc rv hwy hbsc hca hcf hrv;have hszy:=hwy.size;unfold qL;have hbscd:aX wy.drew bsc=_:=hbsc;refine au hbscd rfl (by omega) ?_;refine ah rfl ?_;refine yW (by omega) (by omega) fun w44 h44 hs44 hb44=>?_;have hbsc44:=h44.get hbscd (fun h=>h);refine ah (au hbsc44 rfl (by omega) ⟨rfl,rfl⟩) ?_;refine aW (cs:=[.pointer (some ⟨bR,0,none⟩),.slice ca L.length cc,rv,ptrV bA,.slice none 0 0,.slice (some ⟨wy.heap.size,0,none⟩) most most]) rfl ?_;refine ar fun w47 h47 hs47 hb47=>?_;have hb47:aX w47 w44.heap.size=some (.cells #[.pointer (some ⟨bR,0,none⟩),.slice ca L.length cc,rv,ptrV bA,.slice none 0 0,.slice (some ⟨wy.heap.size,0,none⟩) most most] 216):=hb47;have hs44:w44.heap.size=wy.heap.size+1:=hs44;have m47:Same w23 w47:=((hwy.trans (aH.refl (fun _=>False) _).drew).trans h44).trans h47;have hz:zrow (Value.agg #[.int .i64 0,.int .i64 0]).cells.toList most=(List.replicate most ((0:Nat),(0:Nat))).flatMap spotC:=mg (F:=spotC) ((0:Nat),(0:Nat)) most;rw[hz]at hb44;have hb44:aX w44 wy.heap.size=some (.cells ((List.replicate most ((0:Nat),(0:Nat))).flatMap spotC).toArray 237):=hb44;have hOs:=bV.blk (h47.get hb44 (fun h=>h)) (n:=most) (sz:=2) (by rw[List.size_toArray,flat_len spotC 2 (fun _=>rfl),List.length_replicate]) (by simp[maxLen]; omega);rw[List.toList_toArray]at hOs;generalize hbcB:(match ca with | some x=>x.block | none=>0)=bcB;have hlo:bN w23 o2 (fI o2 w23.heap.size bcB wy.heap.size w44.heap.size):=fun k hk=>by unfold fI; rw[if_pos hk]
  have hl47:fI o2 w23.heap.size bcB wy.heap.size w44.heap.size w44.heap.size=some .store:=by unfold fI; rw[if_neg (by omega),if_pos rfl]
  have hlsp:fI o2 w23.heap.size bcB wy.heap.size w44.heap.size wy.heap.size=some .spots:=by unfold fI; rw[if_neg (by omega),if_neg (by omega),if_pos rfl]
  have hP:bF (fI o2 w23.heap.size bcB wy.heap.size w44.heap.size) w47 w44.heap.size ⟨bR,bA,ca,cc,rv,.slice none 0 0,.slice (some ⟨wy.heap.size,0,none⟩) most most,fun _=>0,fun _ _=>0⟩ (newS0 L most):={
   lab:=hl47
   good:=vP hG
   tle:=by simp[newS0]
   mle:=by simp[newS0]
   sle:=by simp[newS0]; exact hm
   here:=hb47
   roll:=hR2.frame m47 (fun _ _ _ _ h=>h) hlo
   atlas:=hA.frame m47 (fun _ _ _ _ h=>h) hlo
   sch:=(hca.same (aH.refl (fun _=>False) _).drew).same (h44.trans h47)
   schl:=fun k f e=>by
    have e:ca=some ⟨k,f,none⟩:=e;obtain⟨k1,k2⟩:=hcf k f e;have hk:k=bcB:=by rw[←hbcB,e]
    refine⟨?_,by omega⟩;unfold fI;rw[if_neg (by omega),if_neg (by omega),if_neg (by omega),if_pos hk]
   tabs:=bV.nil _ _
   tabsl:=fun k e=>by obtain⟨_,_,_,e⟩:=e; cases e
   spots:=hOs
   spotsl:=fun k e=>by obtain⟨_,_,_,e⟩:=e; cases e; exact hlsp
   tab:=fun i hi=>by simp[newS0]at hi }
  have hDn:fI o2 w23.heap.size bcB wy.heap.size w44.heap.size 19=none:=by
   unfold fI;rw[if_pos (by omega)];exact ho2 _ (by omega)
  have h47':Same w w47:=m23.trans m47;refine ab (n9 (hD.same h47') hP hDn) ?_;rintro v w49 ⟨rfl,o4,p4,hl4,hP4,hm4,hc4⟩;have hn:∀k,k<w.heap.size→fI o2 w23.heap.size bcB wy.heap.size w44.heap.size k=none:=fun k hk=>by
   unfold fI;rw[if_pos (by omega)];exact ho2 k hk
  have hsz47:=h47'.size;refine⟨w44.heap.size,rfl,o4,p4,hP4,fun k hk=>by rw[hl4 k (by omega)]; exact hn k hk,hc4,h47'.trans' (hm4.mono fun k _ ⟨t,e1,_⟩=>.inr ?_)⟩;rcases Nat.lt_or_ge k w.heap.size with hk | hk
  ·rw[hn k hk]at e1; cases e1
  ·exact hk
 have hbd:aX w23.drew w.heap.size=some (.cells #[.slice a L.length cp,.slice ra R.length rc] 70):=hb23;have md:Same w23 w23.drew:=(aH.refl (fun _=>False) _).drew;have hsd:=(hs.same m23).same md;have hrd:=(hr.same m23).same md;unfold Gi;refine⟨?_,?_⟩
 ·refine aa ?_;refine aj hbd rfl ?_;refine ah rfl ?_;refine ab (fF hsd (by omega)) ?_;rintro v w33 ⟨hO,h33,hf⟩;obtain⟨ca,cn,cc,rfl,hcs,_⟩:=hO.is;have hcn:cn=L.length:=by
   have:=hcs.1;rw[flat_len Comp.cells 7 (fun _=>rfl)]at this;omega
  subst hcn;have hb33:=h33.get hbd (fun h=>h);have hfk:∀k f,ca=some ⟨k,f,none⟩→w23.heap.size≤k∧k<w33.heap.size:=fun k f e=>by
   have hv:bf (.slice ca L.length cc) k:=⟨f,_,_,by rw[e]⟩
   exact⟨hf k hv,hO.vblk_lt hv⟩
  refine⟨?_,?_⟩
  ·refine aa ?_;refine aj hb33 rfl ?_;refine ah rfl ?_;refine ah (aj hbd rfl ⟨rfl,rfl⟩) ?_;refine ab (eq (hrd.same h33) (by omega)) ?_;rintro v w37 ⟨⟨a',n',c',rfl⟩,h37⟩;refine ar fun w39 h39 hs39 hb39=>?_;have hb39':=h39.get (h37.get hb33 (fun h=>h)) (fun h=>h);refine ah (aj hb39' rfl ⟨rfl,rfl⟩) ?_;refine ah (aj hb39' rfl ⟨rfl,rfl⟩) ?_;refine aW (cs:=[.slice ca L.length cc,.slice a' n' c']) rfl ?_;refine aQ (vs:=[.slice ca L.length cc,.slice a' n' c']) hb39 rfl rfl rfl (by simp) (by simp) fun w41 h41 hs41 hb41=>?_;have m41:Same w33 w41:=(h37.trans h39).trans' (h41.mono fun k _ e=>.inr (by have:=h37.size; omega));exact fin _ w41 ca cc _ ((md.trans h33).trans m41) hb41 (hcs.same m41) (fun k f e=>by have:=hfk k f e; have:=m41.size; omega) rfl
  ·refine ar fun w39 h39 hs39 hb39=>?_;have hb39':=h39.get hb33 (fun h=>h);refine ah (aj hb39' rfl ⟨rfl,rfl⟩) ?_;refine aa ?_;refine aj hb39' rfl ?_;refine ah rfl ?_;refine ah (aj hb33 rfl ⟨rfl,rfl⟩) ?_;refine ah (aj hbd rfl ⟨rfl,rfl⟩) ?_;refine ab (eq (hrd.same (h33.trans h39)) (by omega)) ?_;rintro v w37 ⟨⟨a',n',c',rfl⟩,h37⟩;refine aW (cs:=[.slice ca L.length cc,.slice a' n' c']) rfl ?_;refine aQ (vs:=[.slice ca L.length cc,.slice a' n' c']) (h37.get hb39 (fun h=>h)) rfl rfl rfl (by simp) (by simp) fun w41 h41 hs41 hb41=>?_;have m41:Same w33 w41:=(h39.trans h37).trans' (h41.mono fun k _ e=>.inr (by omega));exact fin _ w41 ca cc _ ((md.trans h33).trans m41) hb41 (hcs.same m41) (fun k f e=>by have:=hfk k f e; have:=m41.size; omega) rfl
 ·refine ar fun w39 h39 hs39 hb39=>?_;have hb39':=h39.get hbd (fun h=>h);refine aa ?_;refine aj hb39' rfl ?_;refine ah rfl ?_;refine ah (aj hbd rfl ⟨rfl,rfl⟩) ?_;refine ab (fF (hsd.same h39) (by omega)) ?_;rintro v w33 ⟨hO,h33,hf⟩;obtain⟨ca,cn,cc,rfl,hcs,_⟩:=hO.is;have hcn:cn=L.length:=by
   have:=hcs.1;rw[flat_len Comp.cells 7 (fun _=>rfl)]at this;omega
  subst hcn;have hb33:=h33.get hb39' (fun h=>h);have hfk:∀k f,ca=some ⟨k,f,none⟩→w23.heap.size≤k∧k<w33.heap.size:=fun k f e=>by
   have hv:bf (.slice ca L.length cc) k:=⟨f,_,_,by rw[e]⟩
   have h1:=hf k hv;have h2:w23.drew.heap.size=w23.heap.size:=rfl;exact⟨by omega,hO.vblk_lt hv⟩
  refine aa ?_;refine aj hb33 rfl ?_;refine ah rfl ?_;refine ah (aj hb39' rfl ⟨rfl,rfl⟩) ?_;refine ah (aj hbd rfl ⟨rfl,rfl⟩) ?_;refine ab (eq (hrd.same (h39.trans h33)) (by omega)) ?_;rintro v w37 ⟨⟨a',n',c',rfl⟩,h37⟩;refine aW (cs:=[.slice ca L.length cc,.slice a' n' c']) rfl ?_;refine aQ (vs:=[.slice ca L.length cc,.slice a' n' c']) (h37.get (h33.get hb39 (fun h=>h)) (fun h=>h)) rfl rfl rfl (by simp) (by simp) fun w41 h41 hs41 hb41=>?_;have m41:Same w23 w41:=(((md.trans h39).trans h33).trans h37).trans' (h41.mono fun k _ e=>.inr (by have h2:w23.drew.heap.size=w23.heap.size:=rfl; omega));have m33:aH (fun k=>k=w23.heap.size) w33 w41:=(aH.of_same h37).trans h41;refine fin _ w41 ca cc _ m41 hb41 (hcs.mod m33 fun k f e ek=>?_) (fun k f e=>by have:=hfk k f e; have:=m33.size; omega) rfl;have h1:=hf k ⟨f,_,_,by rw[e]⟩;have h2:w23.drew.heap.size=w23.heap.size:=rfl;omega
theorem Aq
  (h:∀w2,Same w w2→af Tryz.prog 207 #[ptrV b,entV idx gen,.int .i64 c] w2 fun v w'=>∃x,v=.tuple #[.pointer none,.int .i64 0,x]∧cC Sa k w2.heap.size x w'∧Same w2 w') :
  af Tryz.prog 176 #[ptrV b,entV idx gen,.int .i64 c,v3,v4,v5] w fun v w'=>∃x,v=.tuple #[ky,x]∧cC Sa k w.heap.size x w'∧Same w w':=by
 refine pf ?_;unfold DP;refine ar fun w2 hm2 hs2 hb2=>?_;have hb2:aX w2 w.heap.size=some (.cells #[.int .i64 idx,.int .i64 gen] 157):=hb2;refine ar fun w4 hm4 hs4 hb4=>?_;have m4:=hm2.trans hm4;have hb2':=hm4.get hb2 (fun h=>h);refine au hb2' rfl (by omega) ?_;refine ab (h w4 m4) ?_;rintro v w7 ⟨x,rfl,hx,h7⟩;have m7:=m4.trans h7;have hb7:=h7.get hb4 (fun h=>h);obtain⟨t,y,rfl⟩:=hx.if;refine ak rfl ?_;refine ak rfl ?_;refine ak rfl ?_;rw[dB bU];refine ac ?_;refine aN rfl ?_;refine aW (cs:=[.int .i64 0,.int .i64 0,.int .i64 0,.int .i64 0,.int .i64 0,.int .i64 0]) rfl ?_;refine aQ (vs:=[.int .i64 0,.int .i64 0,.int .i64 0,.int .i64 0,.int .i64 0,.int .i64 0]) hb7 rfl rfl rfl (by simp) (by simp) fun w20 h20 hs20 hb20=>?_;have hb20:aX w20 w2.heap.size=some (.cells #[.int .i64 0,.int .i64 0,.int .i64 0,.int .i64 0,.int .i64 0,.int .i64 0] 95):=hb20;refine au hb20 rfl (by omega) ?_;exact⟨_,rfl,(hx.mod h20 fun k h1 h2 e=>by omega).mono (by omega),m7.trans' (h20.mono fun k _ e=>.inr (by omega))⟩
structure qZ (w0:World) (o:dd) (w:World) (b:Nat) (p:dJ) (S:SM) (t:Nat):Prop where
 sp:bF o w b p S
 gs:GS S t
 lo:∀k,k<w0.heap.size→o k=none
 hi:∀k,w.heap.size≤k→o k=none
 same:Same w0 w
theorem qZ.loc (h:qZ w0 o w b p S t) (m:Same w w2):qZ w0 o w2 b p S t :=
 ⟨h.sp.same m,h.gs,h.lo,fun k hk=>h.hi k (Nat.le_trans m.size hk),h.same.trans m⟩
theorem qZ.turn (h:qZ w0 o w b p S t) (T:c7 o w b S' w') (hG:GS S' t'):∃o' p',qZ w0 o' w' b p' S' t'∧bN w o o'∧aH (fun k=>o k≠none) w w':=by
 obtain⟨o',p',hl,hP,hm,hc⟩:=T;have hs:=h.same.size;have hm':aH (fun k=>o k≠none) w w':=hm.mono fun k _ ⟨t,e,_⟩=>by rw[e]; simp
 refine⟨o',p',⟨hP,hG,fun k hk=>by rw[hl k (by omega)]; exact h.lo k hk,hc,h.same.trans' (hm'.mono fun k _ e=>.inr ?_)⟩,hl,hm'⟩;rcases Nat.lt_or_ge k w0.heap.size with hk | hk
 ·exact absurd (h.lo k hk) e
 ·exact hk
end
section
def GP (x0 x1:Value) x5 (J4:Value→World→Prop) (Q:PQ) w:=kint .i64 .add x5 (.int .i64 1) fun v15=>J4 v15 w
def GQ x0 x1 x5 (J4:Value→World→Prop) (Q:PQ) (w:World):=bz (some (.slice 95)) (some 6) x0 x5 fun v9=>aB 6 v9 w.drew fun v10=>kG (w.drew=w.drew)<|bz (some (.slice 95)) (some 6) x1 x5 fun v11=>aB 6 v11 w.drew fun v12=>kG (w.drew=w.drew)<|keq Tryz.prog .neq 95 false false v10 v12 w.drew fun v13 w14=>kG (w14=w.drew)<|kB v13 fun b16=>aA b16 (Q (.bool false) w14) (GP x0 x1 x5 J4 Q w14)
def Oj (Q:PQ) w:=Q (.bool true) w
def GR x5 x0 x1 (J4:Value→World→Prop) (Q:PQ) w:=aU x0 fun v6=>kint .i64 .lss x5 v6 fun v8=>kB v8 fun b17=>aA b17 (GQ x0 x1 x5 J4 Q w) (Oj Q w)
def GT x0 x1 (Q:PQ) w:=kL fun(I:Value→World→Prop) (μ:Value→World→Nat)=>I (.int .i64 0) w∧∀(x5:Value) (w1:World),I x5 w1→GR x5 x0 x1 (fun y5 w2=>I y5 w2∧μ y5 w2<μ x5 w1) Q w1
def RX x0 x1 (Q:PQ) w:=aU x0 fun v1=>aU x1 fun v3=>kint .i64 .neq v1 v3 fun v5=>kB v5 fun b18=>aA b18 (Q (.bool false) w) (GT x0 x1 Q w)
theorem KG (h:RX x0 x1 Q w):af Tryz.prog 54 #[x0,x1] w Q :=
 ax (c:=Tryz.f54.body.get rfl) [(4,[5])] Tryz.func54 rfl rfl (args:=[x0,x1]) rfl (by kernel_rfl) h
end
section
attribute [local irreducible] kO kB bG bH kN kG aA ai aw aB bj knew bB aP ay aE bk aD aU bC bD a8 kbool kint kstr keq kun ksl bz cQ kta kmk kmm ksem ksemU bd aI aL ae kL
deriving instance DecidableEq for Part
theorem KH (h:bZ n):(Lit.int .i64 n).wf=true:=by
 simp[Lit.wf,IntKind.min,IntKind.max,IntKind.signed,IntKind.bits];exact h
theorem cellsInt:Tryz.prog.cellsOf 3=1:=by kernel_rfl
theorem cellsArr:Tryz.prog.cellsOf 93=4:=by kernel_rfl
theorem cellsPart:Tryz.prog.cellsOf 95=6:=by kernel_rfl
theorem kl_int (h:bZ n) (d:Nat):Tryz.prog.keyLits (d+1) 3 [.int .i64 n]=some [.int .i64 n]:=by
 unfold Program.keyLits;simp only[Tryz.underlying3];rw[if_pos ⟨trivial,KH h⟩]
theorem kl_arr (h1:bZ a) (h2:bZ b) (h3:bZ c) (h4:bZ e) (d:Nat) :
  Tryz.prog.keyLits (d+2) 93 [.int .i64 a,.int .i64 b,.int .i64 c,.int .i64 e]=some [.int .i64 a,.int .i64 b,.int .i64 c,.int .i64 e]:=by
 unfold Program.keyLits;simp only[Tryz.underlying93,cellsInt,cellsArr];rw[if_pos (by rfl),show List.range 4=[0,1,2,3]from rfl];simp[kl_int h1,kl_int h2,kl_int h3,kl_int h4]
theorem ud {p:Part} (h:p.ok) (d:Nat) :
  Tryz.prog.keyLits (d+3) 95 p.cells=some [.int .i64 p.comp,.int .i64 p.v0,.int .i64 p.v1,.int .i64 p.v2,.int .i64 p.v3,.int .i64 p.tick]:=by
 obtain⟨h1,h2,h3,h4,h5,h6⟩:=h;unfold Program.keyLits;simp only[Tryz.underlying95,cellsPart];rw[if_pos ⟨by rfl,by kernel_rfl⟩];simp[cellsInt,cellsArr,Part.cells,kl_int h1,kl_int h6,kl_arr h2 h3 h4 h5]
theorem Ej:Tryz.prog.keyTypeAt 10 95=true:=by kernel_rfl
theorem guardPart:Tryz.prog.eqGuardType Tryz.prog.depth 95=false:=by kernel_rfl
theorem q8 (p:Part):Value.formed Tryz.prog 95 (.agg p.cells.toArray)=true:=by
 unfold Value.formed;simp only[Tryz.underlying95,cellsPart];rfl
end
section
attribute [local irreducible] kO kB bG bH kN kG aA ai aw aB bj knew bB aP ay aE bk aD aU bC bD a8 kbool kint kstr keq kun ksl bz cQ kta kmk kmm ksem ksemU bd aI aL ae kL
def pa (c v:Int):Part:=⟨c,v,0,0,0,0⟩
def l1:List Part:=[pa 1 0,pa 0 5]
def l2:List Part:=[pa 0 0,pa 1 0]
end
section

end
section
attribute [local irreducible] kO kB bG bH kN kG aA ai aw aB bj knew bB aP ay aE bk aD aU bC bD a8 kbool kint kstr keq kun ksl bz cQ kta kmk kmm ksem ksemU bd aI aL ae kL
def Ok (w0:World) (p:dJ) (S:SM) (n r rI bm:Nat) (hn:n<S.tabs.length) (j:Nat) (x:Value) (w:World):Prop :=
 ∃seen:List Nat,seen.length=j∧seen.Nodup∧(∀i∈seen,i<(bq S.masks n).length) ∧
  aX w rI=some (.mapIter (some bm) ((bq S.masks n).map fun(c:Nat)=>((c:Int),ptrV (p.pc n c))).length seen.toArray ((bq S.masks n).map fun(c:Nat)=>((c:Int),ptrV (p.pc n c))).length) ∧
  bV w x 6 (((seenL (bq S.masks n) seen).map (partAt S.tabs[n] r)).flatMap Part.cells)∧(∀k,bf x k→rI<k)∧aH (fun k=>k=rI) w0 w
theorem Ar (h:bF o w b p S) {t:Nat} (hG:GS S t) {i:Nat} {g:Int} (hg:S.gens[i]?=some (g,true)) :
  af Tryz.prog 98 #[ptrV b,entV i g] w fun v w'=>∃sv,v=.tuple #[sv,.nilIface]∧bV w' sv 6 ((partsOf S i).flatMap Part.cells)∧(∀k,bf sv k→w.heap.size≤k)∧Same w w':=by
 obtain⟨n,r,hsp,hn,hnm,hcol,hpe,hce,hmap,hfit,hmk,hmlt,hpc⟩:=fE h hG hg;have hc64:(bq S.masks n).length≤32:=by rw[hce]; exact gG _
 rw[ptrV];refine JU ?_;unfold RQ;refine ar fun w2 hm2 hs2 hb2=>?_;have hb2:aX w2 w.heap.size=some (.cells #[.int .i64 i,.int .i64 g] 157):=hb2;refine au hb2 rfl (by omega) ?_;refine ab (jw (h.same hm2) hg hsp) ?_;rintro v w5 ⟨rfl,h5⟩;refine ak rfl ?_;refine ak rfl ?_;refine ar fun w9 h9 hs9 hb9=>?_;refine aQ (vs:=[natV n,natV r]) hb9 rfl rfl rfl (by simp) (by simp) fun w10 h10 hs10 hb10=>?_;have hb10:aX w10.drew w5.heap.size=some (.cells #[.int .i64 n,.int .i64 r] 237):=hb10;have hsz5:=h5.size;have m10:Same w w10.drew:=(((hm2.trans h5).trans h9).trans' (h10.mono fun k _ e=>.inr (by omega))).trans (aH.refl (fun _=>False) _).drew;rw[aV bU];refine ac ?_;refine az rfl ?_;unfold Gu;have hs10:w10.drew.heap.size=w5.heap.size+1:=by show w10.heap.size=_; omega
 generalize w10.drew=wa at *;have hPa:=h.same m10;have hba:=hPa.here;obtain⟨ta,tc,et,hts⟩:=hPa.ptab hn;rw[et]at hba;have hT:=hPa.tab n hn;obtain⟨q1,rv,bm,q2,q3,q4,q5,q6,q7⟩:=id hT;refine aq ?_;refine aa ?_;refine aj hba rfl ?_;refine ah rfl ?_;refine aa ?_;refine aj hb10 rfl ?_;refine ah rfl ?_;have ele:(List.range S.tabs.length).length=S.tabs.length:=List.length_range;refine cF (F:=fun i=>ptrV (p.pt i)) (c:=tc) (l:=List.range S.tabs.length) hts (show n<(List.range S.tabs.length).length by omega) rfl ?_ |>fun h=>by rw[ele]at h; exact h
 rw[List.getElem_range,ptrV];refine ah rfl ?_;refine aq ?_;refine aa ?_;refine aj q2 rfl ?_;refine ah rfl ?_;refine vi Tryz.underlying262 q6 fun w21 h21 hs21 hb21=>?_;have hlr:p.pt n<wa.heap.size:=aC q2;have hmsz:=m10.size;have hs21':w21.heap.size=wa.heap.size+1:=hs21;refine cA (bq S.masks n).length (Ok w21 p S n r wa.heap.size bm hn) ⟨c8 ?_,fun x wr hx=>?_⟩
 ·exact⟨[],rfl,List.nodup_nil,fun i hi=>by simp at hi,hb21,bV.nil _ _,(fun k hk=>by obtain⟨_,_,_,e⟩:=hk; cases e),aH.refl _ _⟩
 obtain⟨j,hj,⟨seen,hsl,hnd,hsb,hit,hOx,hfx,hmr⟩,hJ⟩:=bK hx;have hlt6:=aC q6;have q6r:eA wr bm .i64 _:=(q6.mod h21 (fun h=>h)).mod hmr (fun e=>by omega);have hmr0:Same w wr:=(m10.trans h21).trans' (hmr.mono fun k _ e=>.inr (by omega));unfold Gt;refine xX hit q6r (fun hall=>?_) (fun ix hix hnix w2' hm2' hs2' hit2=>?_)
 ·have hperm:=sF hnd hsb (fun i hi=>hall i (by simpa using hi));refine ak rfl ?_;refine ac ?_;refine az rfl ?_;refine ab (kV hOx (by simp[hperm.length_eq]; omega)) ?_;rintro v w77 ⟨L',g1,g2,g3,g4⟩;have hL':=qS (jj S.masks n) (f:=partAt S.tabs[n] r) hpc (hperm.map _) g1 g2;rw[hL']at g3;rw[hpe];exact⟨x,rfl,g3,fun k hk=>by have:=hfx k hk; omega,hmr0.trans' (g4.mono fun k _ e=>.inr (by have:=hfx k e; omega))⟩
 ·have hixc:ix<(bq S.masks n).length:=by simpa using hix
  have hgi:((bq S.masks n).map fun(c:Nat)=>((c:Int),ptrV (p.pc n c)))[ix]=(((bq S.masks n)[ix]:Int),ptrV (p.pc n (bq S.masks n)[ix])):=by simp
  have hjl:j<(bq S.masks n).length:=by
   have hnd2:(seen++[ix]).Nodup:=List.nodup_append.2 ⟨hnd,by simp,fun a ha b hb e=>by simp at hb; subst hb; subst e; exact hnix ha⟩;have:=List.Nodup.length_le_of_subset hnd2 (l₂:=List.range (bq S.masks n).length) (fun a ha=>by
    rcases List.mem_append.1 ha with h | h
    ·simpa using hsb a h
    ·simp at h; subst h; simpa using hixc)
   simp at this; omega
  refine ak rfl ?_;refine ac ?_;refine aN rfl ?_;unfold Gs;refine vj hix hit2 (q6r.mod hm2' (fun e=>by omega)) ?_;rw[hgi];generalize hc:(bq S.masks n)[ix]=c at *;have hcm:c∈bq S.masks n:=hc▸List.getElem_mem hixc;have hzr:=hmr.size;have hm02:Same w w2':=hmr0.trans' (hm2'.mono fun k _ e=>.inr (by omega));have hCol:=((h.same hm02).tab n hn).col hcm;have hb2r:aX w2' w5.heap.size=some (.cells #[.int .i64 n,.int .i64 r] 237):=hm2'.get (hmr.get (h21.get hb10 (fun h=>h)) (by omega)) (by omega);refine ak rfl ?_;refine aa ?_;refine aj hb2r rfl ?_;have hrc:=hcol c hcm;refine ab (n7 hCol hrc) ?_;rintro v w31 ⟨rfl,hm31⟩;refine ak rfl ?_;refine ak rfl ?_;refine ar fun w35 h35 hs35 hb35=>?_;refine aQ (vs:=((S.tabs[n].col c)[r]).cells) hb35 rfl rfl rfl (by simp) (by simp[Part.cells]) fun w36 h36 hs36 hb36=>?_;have hb36:aX w36 w31.heap.size=some (.cells ((S.tabs[n].col c)[r]).cells.toArray 95):=hb36;rw[aV bU];refine ac ?_;refine az rfl ?_;unfold Gr;refine au hb36 rfl (by omega) ?_;refine aR (cs:=((S.tabs[n].col c)[r]).cells) rfl fun w41 h41 hs41 hb41=>?_;have hz2:=hm2'.size;have hz31:=hm31.size;have m41:Same w2' w41:=(hm31.trans (h35.trans' (h36.mono fun k _ e=>.inr (by omega)))).trans h41;have hO41:bV w41 x 6 _:=(hOx.mod hm2' (fun k hk e=>by have:=hfx k hk; omega)).same m41;have hpl:(seenL (bq S.masks n) seen).length=j:=by simp[seenL,hsl]
  refine be D2 (by omega) hO41 (Src.ofSlIs (hk:=od.choose_spec) 1 (aZ.blk hb41 rfl) (ones_parts [(S.tabs[n].col c)[r]])) (by rw[flat_len Part.cells 6 (fun _=>rfl)]; simp[hpl,Part.cells]; omega) (by rw[flat_len Part.cells 6 (fun _=>rfl)]; simp[hpl,Part.cells]; omega) ?_;intro v' w43 ho43 hm43 hf43;have hit43:=hm43.get (m41.get hit2 (fun h=>h)) (fun e=>by have:=hfx _ e; omega);refine hJ _ _ hjl ⟨seen++[ix],by simp[hsl],?_,?_,hit43,?_,?_,?_⟩
  ·exact List.nodup_append.2 ⟨hnd,by simp,fun a ha b hb e=>by simp at hb; subst hb; subst e; exact hnix ha⟩
  ·intro a ha;rcases List.mem_append.1 ha with h | h
   ·exact hsb a h
   ·simp at h; subst h; exact hixc
  ·rw[sE _ _ _ hixc,hc,List.map_append,List.flatMap_append];have e:([c].map (partAt S.tabs[n] r)).flatMap Part.cells=((S.tabs[n].col c)[r]).cells:=by
    simp[partAt,List.getElem?_eq_getElem hrc]
   rw[e];exact ho43
  ·intro k hk;rcases hf43 k hk with h | h
   ·exact hfx k h
   ·have:=m41.size; omega
  ·have y3:aH (fun i=>i=wa.heap.size∨w21.heap.size≤i) w41 w43:=hm43.mono fun k _ e=>.inr (by have:=hfx k e; omega);exact hmr.trans' ((hm2'.mono fun k _ e=>.inl e).trans ((aH.of_same m41).trans y3))
theorem vQ {p q:Part} (hp:p.ok) (hq:q.ok) {w:World} {K:Value→World→Prop} {cx cy:Bool} :
  keq Tryz.prog .neq 95 cx cy (.agg p.cells.toArray) (.agg q.cells.toArray) w K=K (.bool (!decide (p=q))) w:=by
 obtain⟨r,hr,hiff⟩:=run_equalIn_deep (P:=Tryz.prog) 9990 10 95 Ej w 3 3 (.agg p.cells.toArray) (.agg q.cells.toArray) _ _ (q8 p) (q8 q) (ud hp 0) (ud hq 0);have hr2:r=decide (p=q):=by
  rw[Bool.eq_iff_iff,hiff,decide_eq_true_eq];cases p; cases q;simp
 rw[hr2]at hr;simp only[keq,eqW,semV,Sem.run_bind,run_eqGuard_agg w .neq 95 _ _ p.cells.toArray q.cells.toArray guardPart,Result.andThen_ok,run_neq_struct];rw[show(10000:Nat)=9990+10 from rfl,hr];rfl
theorem vR {w:World} {L:List Part} (hok:∀q∈L,q.ok) (hlen:L.length≤1000000) {a1 a2:Option Addr} {c1 c2:Nat} (h1:aZ w a1 L.length 6 (L.flatMap Part.cells)) (h2:aZ w a2 L.length 6 (L.flatMap Part.cells)) :
  af Tryz.prog 54 #[.slice a1 L.length c1,.slice a2 L.length c2] w fun v w'=>v=.bool true∧Same w w':=by
 refine KG ?_;unfold RX;refine aK ?_;refine aK ?_;refine cu ?_;rw[bT (by simp)];refine ac ?_;refine az rfl ?_;unfold GT;refine cA L.length (fun j x wr=>x=.int .i64 j∧Same w wr) ⟨c8 ⟨rfl,aH.refl _ _⟩,fun x wr hx=>?_⟩;obtain⟨j,hj,⟨rfl,hm⟩,hJ⟩:=bK hx;unfold GR;refine aK ?_;refine aM ?_;refine ac ?_;refine am (fun hlt=>?_) (fun hge=>?_)
 ·have hlt:j<L.length:=by omega
  have hq:=hok _ (List.getElem_mem hlt);have md:Same wr wr.drew:=(aH.refl (fun _=>False) _).drew;unfold GQ;refine cK (F:=Part.cells) (sz:=6) (fun _=>rfl) (by omega) (h1.same hm) hlt rfl ?_;refine ah rfl ?_;refine cK (F:=Part.cells) (sz:=6) (fun _=>rfl) (by omega) (h2.same hm) hlt rfl ?_;refine ah rfl ?_;rw[vQ hq hq];refine ah rfl ?_;refine ac ?_;refine az (by simp) ?_;unfold GP;refine aY (by omega) (by omega) ?_;rw[a7];exact hJ _ _ hlt ⟨rfl,hm.trans md⟩
 ·exact⟨rfl,hm⟩
theorem cellsEnt:Tryz.prog.cellsOf 157=2:=by kernel_rfl
theorem sQ (h1:bZ i) (h2:bZ g) (d:Nat):Tryz.prog.keyLits (d+2) 157 [.int .i64 i,.int .i64 g]=some [.int .i64 i,.int .i64 g]:=by
 unfold Program.keyLits;simp only[Tryz.underlying157,cellsEnt];rw[if_pos ⟨by rfl,by kernel_rfl⟩];simp[cellsInt,kl_int h1,kl_int h2]
theorem Au:Tryz.prog.keyTypeAt 10 157=true:=by kernel_rfl
theorem pz (i g:Int):Value.formed Tryz.prog 157 (entV i g)=true:=by
 unfold Value.formed entV;simp only[Tryz.underlying157,cellsEnt];rfl
end
end Go.Proofs.YtcmijampbjcbgaaGreatDoor
namespace Go.Ev
open Go Go.RowKit
section
section
variable {α:Type} [DecidableEq α]
def entsG (F:α→Value):Nat→List (α×Value)→List MapEntry
 | _,[]=>[]
 | i,(n,v)::r=>{ key:=F n,val:=v,born:=i }::entsG F (i+1) r
def lkG (n:α):List (α×Value)→Option (Nat×Value)
 | []=>none
 | (m,v)::r=>if n=m then some (0,v) else(lkG n r).map fun x=>(x.1+1,x.2)
def valG (n:α) (kv:List (α×Value)):Option Value:=(lkG n kv).map (·.2)
def putG (n:α) (v:Value):List (α×Value)→List (α×Value)
 | []=>[(n,v)]
 | (m,u)::r=>if n=m then(n,v)::r else(m,u)::putG n v r
def kA (F:α→Value) (w:World) (b:Nat) (kv:List (α×Value)):Prop:=aX w b=some (.map (entsG F 0 kv).toArray kv.length)
structure gM (P:Program) (kt:TypeId) (F:α→Value):Prop where
 find:∀n kv w,(Instr.findKey kt (F n) (entsG F 0 kv)).run P w=.ok (lkG n kv) w
 check:∀e a w,(Instr.checkKey e 10000 kt (F a)).run P w=.ok () w
 stays:∀a,Instr.sameBits 10000 (F a) (F a)=true
theorem mI (n m:α) (v:Value):∀kv:List (α×Value),valG n (putG m v kv)=if n=m then some v else valG n kv
 | []=>by
  by_cases h:n=m
  ·simp[valG,putG,lkG,h]
  ·simp[valG,putG,lkG,h]
 | (k,u)::r=>by
  have ih:=mI n m v r;unfold valG at ih ⊢;simp only[putG,lkG];by_cases h1:m=k
  ·subst h1;rw[if_pos rfl];simp only[lkG];by_cases h2:n=m<;>simp[h2]
  ·rw[if_neg h1];simp only[lkG];by_cases h2:n=k
   ·have h3:¬n=m:=fun e=>h1 (by rw[←e,h2]);simp[h2];exact fun e=>absurd e.symm h1
   ·simp only[h2,if_false,Option.map_map];have e1:((lkG n (putG m v r)).map ((fun x:Nat×Value=>x.2)∘fun x=>(x.1+1,x.2)))=(lkG n (putG m v r)).map (·.2):=by congr 1
    have e2:((lkG n r).map ((fun x:Nat×Value=>x.2)∘fun x=>(x.1+1,x.2)))=(lkG n r).map (·.2):=by congr 1
    rw[e1,e2]; exact ih
theorem lkG_none {n:α}:∀{kv:List (α×Value)},lkG n kv=none↔n∉kv.map (·.1)
 | []=>by simp[lkG]
 | (m,v)::r=>by
  simp only[lkG,List.map_cons,List.mem_cons,not_or];by_cases h:n=m
  ·simp[h]
  ·simp[h,lkG_none (n:=n) (kv:=r)]
theorem j3 {n:α}:∀{kv:List (α×Value)} {i:Nat} {v:Value},lkG n kv=some (i,v)→kv[i]?=some (n,v)
 | (m,u)::r,i,v,h=>by
  simp only[lkG]at h;by_cases e:n=m
  ·rw[if_pos e]at h;cases h;simp[e]
  ·rw[if_neg e]at h;obtain⟨⟨j,u'⟩,h1,h2⟩:=Option.map_eq_some_iff.1 h;cases h2;simpa using j3 h1
theorem putG_keys (n:α) (v:Value):∀kv:List (α×Value),(putG n v kv).map (·.1)=if n∈kv.map (·.1) then kv.map (·.1) else kv.map (·.1)++[n]
 | []=>by simp[putG]
 | (m,u)::r=>by
  simp only[putG];by_cases h:n=m
  ·simp[h]
  ·simp only[h,if_false,List.map_cons,List.mem_cons,false_or,putG_keys n v r];by_cases h2:n∈r.map (·.1)
   ·simp[h2]
   ·simp[h2]
theorem sR {n:α} {kv:List (α×Value)} (h:(kv.map (·.1)).Nodup):((putG n v kv).map (·.1)).Nodup:=by
 rw[putG_keys];split
 ·exact h
 ·rename_i hn;exact List.nodup_append.2 ⟨h,by simp,fun a ha b hb e=>by simp at hb; subst hb; subst e; exact hn ha⟩
variable {F:α→Value}
theorem entsG_get {β:Type} {F:β→Value}:∀(i:Nat) (kv:List (β×Value)) (j:Nat),(entsG F i kv)[j]?=kv[j]?.map fun x=>{ key:=F x.1,val:=x.2,born:=i+j }
 | _,[],_=>by simp[entsG]
 | i,(n,v)::r,0=>by simp[entsG]
 | i,(n,v)::r,j+1=>by
  simp only[entsG,List.getElem?_cons_succ,entsG_get (i+1) r j];rw[show i+1+j=i+(j+1) by omega]
theorem entsG_append {β:Type} {F:β→Value}:∀(i:Nat) (kv:List (β×Value)) (x:β×Value),entsG F i (kv++[x])=entsG F i kv++[{ key:=F x.1,val:=x.2,born:=i+kv.length }]
 | i,[],x=>by simp[entsG]
 | i,(n,v)::r,x=>by simp[entsG,entsG_append (i+1) r x]; omega
theorem j4 {n:α}:∀{kv:List (α×Value)},lkG n kv=none→putG n v kv=kv++[(n,v)]
 | [],_=>rfl
 | (m,u)::r,h=>by
  simp only[lkG]at h;by_cases e:n=m
  ·rw[if_pos e]at h; cases h
  ·rw[if_neg e]at h;simp only[putG,if_neg e];rw[j4 (by simpa using h)]; rfl
theorem mJ {n:α}:∀{kv:List (α×Value)} {i:Nat},lkG n kv=some (i,u)→putG n v kv=kv.set i (n,v)
 | (m,x)::r,i,h=>by
  simp only[lkG]at h;by_cases e:n=m
  ·rw[if_pos e]at h;cases h;simp[putG,e]
  ·rw[if_neg e]at h;obtain⟨⟨j,u'⟩,h1,h2⟩:=Option.map_eq_some_iff.1 h;cases h2;simp only[putG,if_neg e];rw[mJ h1]; rfl
theorem vS {β:Type} {F:β→Value} (i:Nat) (kv:List (β×Value)) (j:Nat) (n:β) (v:Value):entsG F i (kv.set j (n,v))=(entsG F i kv).modify j fun e=>{ e with key:=F n,val:=v }:=by
 apply List.ext_getElem?;intro k;rw[entsG_get,List.getElem?_set,List.getElem?_modify,entsG_get];by_cases h:j=k
 ·subst h;simp only[if_true];by_cases hl:j<kv.length
  ·simp[hl]
  ·simp[hl]
 ·simp[h]
section
variable {P:Program} {kt:TypeId}
theorem io (heq:∀a b w,(Op.equal kt (F a) (F b)).run P w=.ok (decide (a=b)) w) (n:α) (w:World):∀(i j:Nat) (kv:List (α×Value)),(Instr.findAsking kt (F n) (entsG F i kv) j).run P w=.ok ((lkG n kv).map fun x=>(j+x.1,x.2)) w
 | _,_,[]=>by simp[entsG,Instr.findAsking,lkG]
 | i,j,(m,v)::r=>by
  simp only[entsG,Instr.findAsking,Sem.run_bind,heq,Result.andThen_ok,lkG];by_cases h:n=m
  ·subst h; simp
  ·simp only[h,decide_false,if_false,Bool.false_eq_true];rw[io heq n w (i+1) (j+1) r];cases lkG n r with
   | none=>simp
   | some x=>simp; omega
theorem gM.ofWide (hwide:(match P.underlying kt with | some (.array _ _) | some (.struct _)=>true | _=>false)=true)
  (heq:∀a b w,(Op.equal kt (F a) (F b)).run P w=.ok (decide (a=b)) w) (hch:∀e a w,(Instr.checkKey e 10000 kt (F a)).run P w=.ok () w) (hst:∀a,Instr.sameBits 10000 (F a) (F a)=true):gM P kt F where
 find n kv w:=by
  rw[run_findKey_eq w hwide,io heq n w 0 0 kv];cases lkG n kv<;>simp
 check:=hch
 stays:=hst
theorem findNow_entsG (k:IntKind) (n:Int):∀(i j:Nat) (kv:List (Int×Value)),Instr.findNow (.int k) (.int k n) (entsG (fun n=>.int k n) i kv) j=some ((lkG n kv).map fun x=>(j+x.1,x.2))
 | _,_,[]=>by simp[entsG,Instr.findNow,lkG]
 | i,j,(m,v)::r=>by
  simp only[entsG,Instr.findNow,Instr.sameNow,if_true,lkG];by_cases h:n=m
  ·subst h; simp
  ·have hb:(n ==m)=false:=by simpa using h
   rw[hb];simp only[h,if_false];rw[findNow_entsG k n (i+1) (j+1) r];cases lkG n r with
   | none=>simp
   | some x=>simp; omega
theorem gM.int (hk:P.underlying kt=some (.int k)):gM P kt (fun n:Int=>Value.int k n) where
 find n kv w:=by
  simp only[Instr.findKey,Sem.run_bind,run_underlying hk,Result.andThen_ok,findNow_entsG,Sem.run_pure];cases lkG n kv<;>simp
 check e a w:=run_checkKey_int hk e a
 stays a:=by simp[Instr.sameBits]
theorem findKeyG (hK:gM P kt F) (n:α) (w:World) (kv:List (α×Value)):(Instr.findKey kt (F n) (entsG F 0 kv)).run P w=.ok (lkG n kv) w:=hK.find n kv w
theorem keyStaysG (hK:gM P kt F) (n:α) (w:World):(Instr.keyThatStays (F n) (F n)).run P w=.ok (F n) w:=by
 simp[Instr.keyThatStays,hK.stays]
variable {w:World}
theorem kA.mod {β:Type} {F:β→Value} {fp:Nat→Prop} {kv:List (β×Value)} (h:kA F w b kv) (hm:aH fp w w') (hf:¬fp b):kA F w' b kv:=hm.get h hf
theorem kA.same {β:Type} {F:β→Value} {kv:List (β×Value)} (h:kA F w b kv) (hm:Same w w'):kA F w' b kv:=hm.get h fun h=>h
theorem mK {t vt:TypeId} (ht:P.underlying t=some (.map kt vt)) (hK:gM P kt F) {b:Nat} {kv:List (α×Value)} (hm:kA F w b kv) (n:α) (v:Value) :
  (Instr.mapUpdate t (.map (some b)) (F n) v).run P w=.ok () (World.setBlk w b (.map (entsG F 0 (putG n v kv)).toArray (putG n v kv).length)):=by
 have hh:w.heap[b]?=some (.map (entsG F 0 kv).toArray kv.length):=hm;simp only[Instr.mapUpdate,Sem.run_bind,run_underlying ht,Result.andThen_ok,getObj,Sem.run,hh,Result.andThen,hK.check,findKeyG hK,Sem.run_pure,setObj];cases hl:lkG n kv with
 | none =>
  rw[j4 hl,entsG_append];simp[World.setBlk,Sem.run,hh]
 | some x =>
  obtain⟨i,u⟩:=x;have hi:=j3 hl;have hget:(entsG F 0 kv).toArray[i]?=some { key:=F n,val:=u,born:=0+i }:=by
   rw[List.getElem?_toArray,entsG_get,hi]; rfl
  simp only[hget,Option.map_some,Option.getD_some,Sem.run_bind,keyStaysG hK,Result.andThen_ok];rw[mJ hl,vS];simp[World.setBlk,List.length_set,Sem.run,hh]
theorem Ek {t vt:TypeId} (ht:P.underlying t=some (.map kt vt)) (hK:gM P kt F) {b:Nat} {kv:List (α×Value)} (hm:kA F w b kv) {n:α} {v:Value} {K:Value→World→Prop}
  (h:∀w2,aH (fun j=>j=b) w w2→w2.heap.size=w.heap.size→kA F w2 b (putG n v kv)→K undef w2):ksemU P (Instr.mapUpdate t (.map (some b)) (F n) v) w K:=by
 rw[lQ (mK ht hK hm n v)];refine h _ ((aH.refl _ _).setBlk _ (.inl rfl)) (dC _ _ _) ?_;unfold kA;rw[cN,if_pos rfl,show aX w b=_ from hm]; rfl
end
end
end
end Go.Ev
namespace Go.Proofs.YtcmijampbjcbgaaGreatDoor
open Go Go.Ev
section
structure EK where
 i:Int
 g:Int
 hi:bZ i
 hg:bZ g
deriving instance DecidableEq for EK
def EK.v (x:EK):Value:=entV x.i x.g
theorem EK.ext {x y:EK} (h1:x.i=y.i) (h2:x.g=y.g):x=y:=by
 cases x; cases y; cases h1; cases h2; rfl
theorem El:(match Tryz.prog.underlying 157 with | some (.array _ _) | some (.struct _)=>true | _=>false)=true:=by rw[Tryz.underlying157]
theorem GU:gM Tryz.prog 157 EK.v:=by
 refine gM.ofWide El (fun a b w=>?_) (fun e a w=>?_) (fun a=>?_)
 ·obtain⟨r,hr,hiff⟩:=run_equalIn_deep (P:=Tryz.prog) 9990 10 157 Au w 2 2 a.v b.v _ _ (pz a.i a.g) (pz b.i b.g) (sQ a.hi a.hg 0) (sQ b.hi b.hg 0);have hr2:r=decide (a=b):=by
   rw[Bool.eq_iff_iff,hiff,decide_eq_true_eq];constructor
   ·intro h;simp at h;exact EK.ext h.1 h.2
   ·rintro rfl; rfl
  rw[hr2]at hr;exact hr
 ·exact run_checkKey_deep (P:=Tryz.prog) e 9990 10 157 Au w 2 a.v _ (pz a.i a.g) (sQ a.hi a.hg 0)
 ·simp[EK.v,entV,Instr.sameBits]
theorem KI:gM Tryz.prog 3 (fun n:Int=>Value.int .i64 n):=gM.int Tryz.underlying3
end
section
def RY (Q:PQ) w:=bB w fun v1 w2=>bB w2 fun v3 w4=>aP [.map none,.map none,.slice none 0 0,.int .i64 0] [(0,1,v1),(1,1,v3),(3,1,(.int .i64 1))] fun v5=>knew (Value.cells v5) 171 w4 fun v6 w7=>Q v6 w7
theorem KJ (h:RY Q w):af Tryz.prog 65 #[] w Q :=
 ax (c:=Tryz.f65.body.get rfl) [] Tryz.func65 rfl rfl (args:=[]) rfl (by kernel_rfl) h
def Ol x0 x1 x2 (Q:PQ) w:=knew (Value.cells x2) 157 w fun v1 w2=>kN x0<|ai 2 x0 fun v3=>aw v3 w2 fun v4=>ae Tryz.prog 168 #[v4,x1] w2 fun v5 w6=>aE v5 0 fun v7=>aE v5 1 fun v8=>kN x0<|ai 2 x0 fun v9=>aw v9 w6 fun v10=>ay [.int .i64 0] 1 [(0,1,x1)] 3 w6 fun v11 w12=>ae Tryz.prog 169 #[v10,v7,v11] w12 fun v13 w14=>kN x0<|ai 2 x0 fun v15=>bj 1 v15 v13 w14 fun w16=>kN x0<|ai 0 x0 fun v17=>aw v17 w16.drew fun v18=>kG (w16.drew=w16.drew)<|kN x0<|ai 1 x0 fun v19=>aw v19 w16.drew fun v20=>kG (w16.drew=w16.drew)<|aB 2 v1 w16.drew fun v21=>kG (w16.drew=w16.drew)<|aB 2 v1 w16.drew fun v22=>kG (w16.drew=w16.drew)<|ksem Tryz.prog (Instr.mapEntry 168 v18 x1) w16.drew fun v23 w24=>kG (aB 2 v1 w24 fun v33=>v33=v22∧w24=w24)<|kG (aB 2 v1 w24 fun v32=>v32=v21∧w24=w24)<|aE v23 1 fun v25=>ksemU Tryz.prog (Instr.entryStore 168 v18 v25 v22) w24 fun _ w26=>kG (aB 2 v1 w26 fun v31=>v31=v21∧w26=w26)<|ksem Tryz.prog (Instr.mapEntry 169 v20 v21) w26 fun v27 w28=>aE v27 1 fun v29=>ksemU Tryz.prog (Instr.entryStore 169 v20 v29 x1) w28 fun _ w30=>Q (.tuple #[]) w30
theorem Em (h:Ol x0 x1 x2 Q w):af Tryz.prog 120 #[x0,x1,x2] w Q :=
 ax (c:=Tryz.f120.body.get rfl) [] Tryz.func120 rfl rfl (args:=[x0,x1,x2]) rfl (by kernel_rfl) h
def GV x0 x3 (Q:PQ) w:=kN x0<|ai 3 x0 fun v22=>aw v22 w fun v23=>kN x0<|ai 3 x0 fun v24=>aw v24 w fun v25=>kint .i64 .add v25 (.int .i64 1) fun v26=>kN x0<|ai 3 x0 fun v27=>bj 1 v27 v26 w fun w28=>aB 2 x3 w28 fun v29=>ae Tryz.prog 120 #[x0,v23,v29] w28 fun v30 w31=>Q (.tuple #[v23,.nilIface]) w31
def RZ x0 x1 (Q:PQ) w:=knew (Value.cells x1) 157 w fun v1 w2=>aB 2 v1 w2 fun v3=>ae Tryz.prog 118 #[x0,v3] w2 fun v4 w5=>aE v4 0 fun v6=>aE v4 1 fun v7=>keq Tryz.prog .eql 105 false true x0 (.pointer none) w5 fun v8 w9=>kB v8 fun b34=>aA b34 (aw (.pointer (some ⟨2,0,none⟩)) w9 fun v10=>ae Tryz.prog 119 #[v10] w9 fun v11 w12=>Q (.tuple #[.int .i64 0,v11]) w12) (kB v7 fun b33=>aA b33 (aw (.pointer (some ⟨8,0,none⟩)) w9 fun v13=>ae Tryz.prog 119 #[v13] w9 fun v14 w15=>Q (.tuple #[.int .i64 0,v14]) w15) (kN x0<|ai 3 x0 fun v16=>aw v16 w9 fun v17=>kint .i64 .gtr v17 (.int .i64 1073741824) fun v18=>kB v18 fun b32=>aA b32 (aw (.pointer (some ⟨4,0,none⟩)) w9 fun v19=>ae Tryz.prog 119 #[v19] w9 fun v20 w21=>Q (.tuple #[.int .i64 0,v20]) w21) (GV x0 v1 Q w9)))
theorem KL (h:RZ x0 x1 Q w):af Tryz.prog 73 #[x0,x1] w Q :=
 ax (c:=Tryz.f73.body.get rfl) [] Tryz.func73 rfl rfl (args:=[x0,x1]) rfl (by kernel_rfl) h
def Av x0 x1 x4 (Q:PQ) w:=kN x0<|ai 0 x0 fun v8=>aw v8 w fun v9=>ksem Tryz.prog (Instr.lookup 168 v9 x1 true) w fun v10 w11=>aE v10 0 fun v12=>aE v10 1 fun v13=>knew #[.int .i64 0,.int .i64 0] 157 w11 fun v14 w15=>bj 2 v14 v12 w15 fun w16=>aB 2 v14 w16 fun v17=>bj 2 x4 v17 w16 fun w18=>aB 2 x4 w18 fun v19=>Q (.tuple #[v19,v13]) w18
def Om x0 x1 (Q:PQ) w:=knew #[.int .i64 0,.int .i64 0] 157 w fun v1 w2=>keq Tryz.prog .eql 105 false true x0 (.pointer none) w2 fun v3 w4=>kB v3 fun b20=>aA b20 (aP [.int .i64 0,.int .i64 0] [] fun v5=>bj 2 v1 v5 w4 fun w6=>aB 2 v1 w6 fun v7=>Q (.tuple #[v7,.bool false]) w6) (Av x0 x1 v1 Q w4)
theorem En (h:Om x0 x1 Q w):af Tryz.prog 142 #[x0,x1] w Q :=
 ax (c:=Tryz.f142.body.get rfl) [] Tryz.func142 rfl rfl (args:=[x0,x1]) rfl (by kernel_rfl) h
def Aw x0 x3 (Q:PQ) (w:World):=kN x0<|ai 1 x0 fun v5=>aw v5 w.drew fun v6=>kG (w.drew=w.drew)<|aB 2 x3 w.drew fun v7=>kG (w.drew=w.drew)<|ksem Tryz.prog (Instr.lookup 169 v6 v7 true) w.drew fun v8 w9=>kG (w9=w.drew)<|aE v8 0 fun v10=>aE v8 1 fun v11=>Q (.tuple #[v10,v11]) w9
def On x0 x1 (Q:PQ) w:=knew (Value.cells x1) 157 w fun v1 w2=>keq Tryz.prog .eql 105 false true x0 (.pointer none) w2 fun v3 w4=>kB v3 fun b12=>aA b12 (Q (.tuple #[.int .i64 0,.bool false]) w4) (Aw x0 v1 Q w4)
theorem Eo (h:On x0 x1 Q w):af Tryz.prog 118 #[x0,x1] w Q :=
 ax (c:=Tryz.f118.body.get rfl) [] Tryz.func118 rfl rfl (args:=[x0,x1]) rfl (by kernel_rfl) h
def GW x0 (Q:PQ) w:=kN x0<|ai 3 x0 fun v3=>aw v3 w fun v4=>Q v4 w
def R0 x0 (Q:PQ) w:=keq Tryz.prog .eql 105 false true x0 (.pointer none) w fun v1 w2=>kB v1 fun b5=>aA b5 (Q (.int .i64 0) w2) (GW x0 Q w2)
theorem KM (h:R0 x0 Q w):af Tryz.prog 42 #[x0] w Q :=
 ax (c:=Tryz.f42.body.get rfl) [] Tryz.func42 rfl rfl (args:=[x0]) rfl (by kernel_rfl) h
def GX x0 (Q:PQ) w:=kN x0<|ai 2 x0 fun v3=>aw v3 w fun v4=>ae Tryz.prog 46 #[v4] w fun v5 w6=>Q v5 w6
def R1 x0 (Q:PQ) w:=keq Tryz.prog .eql 105 false true x0 (.pointer none) w fun v1 w2=>kB v1 fun b7=>aA b7 (Q (.slice none 0 0) w2) (GX x0 Q w2)
theorem KN (h:R1 x0 Q w):af Tryz.prog 55 #[x0] w Q :=
 ax (c:=Tryz.f55.body.get rfl) [] Tryz.func55 rfl rfl (args:=[x0]) rfl (by kernel_rfl) h
def Ax x0 x1 (x6:Value) x7 x8 (J3:Value→Value→World→Prop) (Q:PQ) w:=kint .i64 .add x7 x8 fun v4=>bk .u64 v4 fun v5=>kint .u64 .shr v5 (.int .u64 1) fun v6=>bk .i64 v6 fun v7=>bz (some (.slice 3)) (some 1) x0 v7 fun v8=>aw v8 w fun v9=>ae Tryz.prog 200 #[v9,x1] w fun v10 w11=>kB v10 fun b13=>aA b13 (kint .i64 .add v7 (.int .i64 1) fun v12=>J3 v12 x8 w11) (J3 x7 v7 w11)
def Ay x0 x1 x6 x7 (Q:PQ) w:=kint .i64 .lss x7 x6 fun v14=>kB v14 fun b15=>aA b15 (bz (some (.slice 3)) (some 1) x0 x7 fun v16=>aw v16 w fun v17=>kint .i64 .eql v17 x1 fun v18=>kB v18 fun b19=>aA (!b19) (bz (some (.slice 3)) (some 1) x0 x7 fun v20=>aw v20 w fun v21=>ae Tryz.prog 201 #[v21] w fun v22 w23=>kB v22 fun b24=>aA b24 (ae Tryz.prog 201 #[x1] w23 fun v25 w26=>Q (.tuple #[x7,v25]) w26) (Q (.tuple #[x7,.bool false]) w23)) (Q (.tuple #[x7,.bool true]) w)) (Q (.tuple #[x7,.bool false]) w)
def Az x7 x8 x0 x1 x6 (J3:Value→Value→World→Prop) (Q:PQ) w:=kint .i64 .lss x7 x8 fun v3=>kB v3 fun b27=>aA b27 (Ax x0 x1 x6 x7 x8 J3 Q w) (Ay x0 x1 x6 x7 Q w)
def Oo x0 x1 (Q:PQ) w:=aU x0 fun v1=>kL fun(I:Value→Value→World→Prop) (μ:Value→Value→World→Nat)=>I (.int .i64 0) v1 w∧∀(x7 x8:Value) (w1:World),I x7 x8 w1→Az x7 x8 x0 x1 v1 (fun y7 y8 w2=>I y7 y8 w2∧μ y7 y8 w2<μ x7 x8 w1) Q w1
theorem Ep (h:Oo x0 x1 Q w):af Tryz.prog 168 #[x0,x1] w Q :=
 ax (c:=Tryz.f168.body.get rfl) [(3,[7,8])] Tryz.func168 rfl rfl (args:=[x0,x1]) rfl (by kernel_rfl) h
def KO x0 x1 x2 x7 x8 (Q:PQ) w:=ksl (some (.slice 3)) (some 1) x0 (some x8) none fun v42=>ksem Tryz.prog (Builtin.copy_ #[49,49] 0 #[v42,x2]) w fun v43 w44=>ksl (some (.slice 3)) (some 1) x0 (some x1) none fun v45=>ae Tryz.prog 203 #[v45,x7] w44 fun v46 w47=>Q x0 w47
def KP x0 x1 x2 x7 x8 (Q:PQ) w:=kint .i64 .add x8 x7 fun v27=>ksl (some (.slice 3)) (some 1) x0 none (some v27) fun v28=>kint .i64 .add x1 x7 fun v29=>ksl (some (.slice 3)) (some 1) v28 (some v29) none fun v30=>bd Tryz.prog 202 [x2,v30] w fun v31 w32=>kun .not (some .bool) v31 fun v33=>kB v33 fun b48=>aA b48 (kint .i64 .add x1 x7 fun v34=>ksl (some (.slice 3)) (some 1) v28 (some v34) none fun v35=>ksl (some (.slice 3)) (some 1) v28 (some x1) none fun v36=>ksem Tryz.prog (Builtin.copy_ #[49,49] 0 #[v35,v36]) w32.drew fun v37 w38=>ksl (some (.slice 3)) (some 1) v28 (some x1) none fun v39=>ksem Tryz.prog (Builtin.copy_ #[49,49] 0 #[v39,x2]) w38 fun v40 w41=>Q v28 w41) (KO v28 x1 x2 x7 x8 Q w32)
def KQ x0 x1 x2 x7 x8 (Q:PQ) w:=kint .i64 .add x8 x7 fun v10=>bC x0 fun v11=>kint .i64 .gtr v10 v11 fun v13=>kB v13 fun b49=>aA b49 (ksl (some (.slice 3)) (some 1) x0 none (some x1) fun v14=>kint .i64 .add x8 x7 fun v15=>kint .i64 .sub v15 x1 fun v16=>ksem Tryz.prog (Builtin.append_ #[49,3] 0 #[v14,v16]) w fun v17 w18=>ksl (some (.slice 3)) (some 1) v17 (some x1) none fun v19=>ksem Tryz.prog (Builtin.copy_ #[49,49] 0 #[v19,x2]) w18 fun v20 w21=>kint .i64 .add x1 x7 fun v22=>ksl (some (.slice 3)) (some 1) v17 (some v22) none fun v23=>ksl (some (.slice 3)) (some 1) x0 (some x1) none fun v24=>ksem Tryz.prog (Builtin.copy_ #[49,49] 0 #[v23,v24]) w21.drew fun v25 w26=>Q v17 w26) (KP x0 x1 x2 x7 x8 Q w)
def AA x0 x1 x2 x7 (Q:PQ) w:=aU x0 fun v5=>kint .i64 .eql x1 v5 fun v7=>kB v7 fun b50=>aA b50 (ksem Tryz.prog (Builtin.append_ #[49,49] 0 #[x0,x2]) w fun v8 w9=>Q v8 w9) (KQ x0 x1 x2 x7 v5 Q w)
def Oq x0 x1 x2 (Q:PQ) w:=ksl (some (.slice 3)) (some 1) x0 (some x1) none fun v1=>aU x2 fun v2=>kint .i64 .eql v2 (.int .i64 0) fun v4=>kB v4 fun b51=>aA b51 (Q x0 w) (AA x0 x1 x2 v2 Q w)
theorem Er (h:Oq x0 x1 x2 Q w):af Tryz.prog 169 #[x0,x1,x2] w Q :=
 ax (c:=Tryz.f169.body.get rfl) [] Tryz.func169 rfl rfl (args:=[x0,x1,x2]) rfl (by kernel_rfl) h
def Ot x0 (Q:PQ) w:=kint .i64 .neq x0 x0 fun v1=>Q v1 w
theorem Es (h:Ot x0 Q w):af Tryz.prog 201 #[x0] w Q :=
 ax (c:=Tryz.f201.body.get rfl) [] Tryz.func201 rfl rfl (args:=[x0]) rfl (by kernel_rfl) h
def GY x0 (Q:PQ) w:=ay [.int .i64 0] 0 [] 3 w fun v3 w4=>ksem Tryz.prog (Builtin.append_ #[49,49] 0 #[v3,x0]) w4 fun v5 w6=>Q v5 w6
def f46 x0 (Q:PQ) w:=keq Tryz.prog .eql 49 false true x0 (.slice none 0 0) w fun v1 w2=>kB v1 fun b7=>aA b7 (Q (.slice none 0 0) w2) (GY x0 Q w2)
theorem KR (h:f46 x0 Q w):af Tryz.prog 46 #[x0] w Q :=
 ax (c:=Tryz.f46.body.get rfl) [] Tryz.func46 rfl rfl (args:=[x0]) rfl (by kernel_rfl) h
def Ou x0 x1 (Q:PQ) w:=ae Tryz.prog 213 #[x0] w fun v1 w2=>kB v1 fun b3=>aA b3 (ae Tryz.prog 213 #[x1] w2 fun v4 w5=>kun .not (some .bool) v4 fun v6=>kB v6 fun b7=>aA (!b7) (kint .i64 .lss x0 x1 fun v8=>Q v8 w5) (Q (.bool true) w5)) (kint .i64 .lss x0 x1 fun v9=>Q v9 w2)
theorem Et (h:Ou x0 x1 Q w):af Tryz.prog 200 #[x0,x1] w Q :=
 ax (c:=Tryz.f200.body.get rfl) [] Tryz.func200 rfl rfl (args:=[x0,x1]) rfl (by kernel_rfl) h
end
section
attribute [local irreducible] kO kB bG bH kN kG aA ai aw aB bj knew bB aP ay aE bk aD aU bC bD a8 kbool kint kstr keq kun ksl bz cQ kta kmk kmm ksem ksemU bd aI aL ae kL
def sS (n:Int):Value:=.int .i64 n
theorem q9:dM Tryz.prog 105=true:=by kernel_rfl
theorem GZ:eP Tryz.prog 157=some (entV 0 0):=by kernel_rfl
theorem G0:eP Tryz.prog 3=some (.int .i64 0):=by kernel_rfl
theorem vT (x y:Int) (w:World):af Tryz.prog 200 #[.int .i64 x,.int .i64 y] w fun v w'=>v=.bool (decide (x<y))∧w'=w:=by
 refine Et ?_;unfold Ou;refine ab (jv x w) ?_;rintro v w' ⟨rfl,rfl⟩;refine ac ?_;refine az rfl ?_;refine aM ?_;exact⟨rfl,rfl⟩
theorem pA:appT Tryz.prog 49 1 8=true:=by kernel_rfl
theorem i8:∃e,Tryz.prog.underlying 49=some (.slice e):=dI (by kernel_rfl)
theorem sT (hO:bV w sv 1 vs) (hn:vs.length≤1000) {bb:Nat} {x:Int} {t:TypeId} (hb:aX w bb=some (.cells #[.int .i64 x] t)) :
  af Tryz.prog 169 #[sv,natV vs.length,.slice (some ⟨bb,0,none⟩) 1 1] w fun v w'=>bV w' v 1 (vs++[.int .i64 x])∧aH (bf sv) w w'∧∀k,bf v k→bf sv k∨w.heap.size≤k:=by
 have hO':=hO;obtain⟨a,n,c,rfl,h1,h2,h3,h4⟩:=hO;have h1:n=vs.length:=by omega
 subst h1;rw[natV];refine Er ?_;unfold Oq;rw[ff rfl rfl];refine ah (by simp only[loV_int,hiV_none]; omega) ?_;refine aK ?_;refine aF ?_;rw[bT (by omega)];refine ac ?_;refine az rfl ?_;unfold AA;refine aK ?_;refine aF ?_;rw[co rfl];refine ac ?_;refine aN rfl ?_;refine be pA (by omega) hO' (Src.ofSlIs (hk:=i8.choose_spec) 1 (aZ.blk hb rfl) rfl) (by simp; omega) (by simp; omega) ?_;intro v' w' ho hm hf;exact⟨ho,hm,hf⟩
theorem vU (h:bV w v sz vs) {b:Nat} (hb:bf v b):∃arr t,aX w b=some (.cells arr t):=by
 obtain⟨a,n,c,rfl,h1,h2,h3,h4⟩:=h;obtain⟨o,n',c',e⟩:=hb;cases e;rcases h4 with⟨h4,_⟩ | ⟨b',arr,t,e,hb,_⟩
 ·cases h4
 ·cases e; exact⟨arr,t,hb⟩
theorem ue:gM Tryz.prog 3 sS:=KI
theorem re (x:Int) (w:World):af Tryz.prog 201 #[.int .i64 x] w fun v w'=>v=.bool false∧w'=w:=by
 refine Es ?_;unfold Ot;refine cu ?_;rw[bT (by simp)];exact⟨rfl,rfl⟩
end
end Go.Proofs.YtcmijampbjcbgaaGreatDoor
namespace Go.Ev
open Go Go.RowKit
section
theorem findNow_congr (kind:TypeDesc) (k:Value):∀(es es':List MapEntry) (j:Nat),es.map (fun e=>(e.key,e.val))=es'.map (fun e=>(e.key,e.val))→Instr.findNow kind k es j=Instr.findNow kind k es' j
 | [],[],_,_=>rfl
 | [],_::_,_,h=>by cases h
 | _::_,[],_,h=>by cases h
 | e::es,e'::es',j,h=>by
  simp only[List.map_cons,List.cons.injEq,Prod.mk.injEq]at h;simp only[Instr.findNow,h.1.1,h.1.2,findNow_congr kind k es es' (j+1) h.2]
theorem findAsking_congr (t:TypeId) (k:Value):∀(es es':List MapEntry) (j:Nat),es.map (fun e=>(e.key,e.val))=es'.map (fun e=>(e.key,e.val))→Instr.findAsking t k es j=Instr.findAsking t k es' j
 | [],[],_,_=>rfl
 | [],_::_,_,h=>by cases h
 | _::_,[],_,h=>by cases h
 | e::es,e'::es',j,h=>by
  simp only[List.map_cons,List.cons.injEq,Prod.mk.injEq]at h;simp only[Instr.findAsking,h.1.1,h.1.2,findAsking_congr t k es es' (j+1) h.2]
theorem nB (t:TypeId) (k:Value) (es es':List MapEntry) (h:es.map (fun e=>(e.key,e.val))=es'.map (fun e=>(e.key,e.val))):Instr.findKey t k es=Instr.findKey t k es':=by
 unfold Instr.findKey;simp only[fun kind=>findNow_congr kind k es es' 0 h,findAsking_congr t k es es' 0 h]
theorem entsG_kv {β:Type} {F:β→Value}:∀(i:Nat) (kv:List (β×Value)),(entsG F i kv).map (fun e=>(e.key,e.val))=kv.map fun x=>(F x.1,x.2)
 | _,[]=>rfl
 | i,(n,v)::r=>by simp[entsG,entsG_kv (i+1) r]
structure mL {β:Type} (F:β→Value) (es:List MapEntry) (cl:Nat) (kv:List (β×Value)):Prop where
 kv:es.map (fun e=>(e.key,e.val))=kv.map fun x=>(F x.1,x.2)
 nd:(es.map (·.born)).Nodup
 lt:∀e∈es,e.born<cl
theorem mL.len {β:Type} {F:β→Value} {kv:List (β×Value)} (h:mL F es cl kv):es.length=kv.length:=by
 have:=congrArg List.length h.kv;simpa using this
theorem mL.get {β:Type} {F:β→Value} {kv:List (β×Value)} (h:mL F es cl kv) {i:Nat} {n:β} {v:Value} (hi:kv[i]?=some (n,v)):∃bn,es[i]?=some { key:=F n,val:=v,born:=bn }:=by
 have h1:=congrArg (fun l:List (Value×Value)=>l[i]?) h.kv;simp only[List.getElem?_map,hi,Option.map_some]at h1;cases he:es[i]? with
 | none=>rw[he]at h1; cases h1
 | some e =>
  rw[he]at h1;simp only[Option.map_some,Option.some.injEq,Prod.mk.injEq]at h1;refine⟨e.born,?_⟩;cases e;simp only at h1;rw[h1.1,h1.2]
def fN {β:Type} [DecidableEq β] (F:β→Value) (w:World) (b:Nat) (f:β→Option Value):Prop :=
 ∃es cl kv,Ev.aX w b=some (.map (List.toArray es) cl)∧mL F es cl kv∧(kv.map (·.1)).Nodup∧∀n,valG n kv=f n
theorem fN.mod {β:Type} [DecidableEq β] {F:β→Value} {w:World} {b:Nat} {f:β→Option Value} {fp:Nat→Prop} {w':World} (h:fN F w b f) (hm:aH fp w w') (hf:¬fp b):fN F w' b f:=by
 obtain⟨es,cl,kv,h1,h2⟩:=h;exact⟨es,cl,kv,hm.get h1 hf,h2⟩
theorem fN.same {β:Type} [DecidableEq β] {F:β→Value} {w:World} {b:Nat} {f:β→Option Value} {w':World} (h:fN F w b f) (hm:Same w w'):fN F w' b f:=h.mod hm fun h=>h
theorem fN.lt {β:Type} [DecidableEq β] {F:β→Value} {w:World} {b:Nat} {f:β→Option Value} (h:fN F w b f):b<w.heap.size:=by
 obtain⟨es,cl,kv,h1,h2⟩:=h;exact aC h1
theorem fN.cells {β:Type} [DecidableEq β] {F:β→Value} {w:World} {b:Nat} {f:β→Option Value} (h:fN F w b f) {cs:Array Value} {t:TypeId} {z:Nat×Nat} (hb:Ev.aX w b=some (.cells cs t z)):False:=by
 obtain⟨es,cl,kv,h1,h2⟩:=h;rw[hb]at h1; cases h1
theorem fN.new {β:Type} [DecidableEq β] {F:β→Value} {w:World} {b:Nat} (h:Ev.aX w b=some (.map #[] 0)):fN F w b fun _=>none :=
 ⟨[],0,[],h,⟨rfl,List.nodup_nil,fun e he=>by cases he⟩,List.nodup_nil,fun n=>rfl⟩
section
variable {P:Program} {kt:TypeId}
theorem findKeyE {α:Type} [DecidableEq α] {F:α→Value} (hK:gM P kt F) (n:α) (w:World) {es:List MapEntry} {cl:Nat} {kv:List (α×Value)} (h:mL F es cl kv):(Instr.findKey kt (F n) es).run P w=.ok (lkG n kv) w:=by
 rw[nB kt (F n) es (entsG F 0 kv) (by rw[h.kv,entsG_kv])];exact hK.find n kv w
theorem rf {α:Type} [DecidableEq α] {F:α→Value} {w:World} {t vt:TypeId} {z:Value} (ht:P.underlying t=some (.map kt vt)) (hK:gM P kt F) (hz:eP P vt=some z) {b:Nat} {f:α→Option Value} (hm:fN F w b f) (n:α) (ok:Bool) :
  (Instr.lookup t (.map (some b)) (F n) ok).run P w=.ok (match f n with | some v=>if ok then .tuple #[v,.bool true] else v | none=>if ok then .tuple #[z,.bool false] else z) w:=by
 obtain⟨es,cl,kv,hb,he,_,hf⟩:=hm;have hh:w.heap[b]?=some (.map es.toArray cl):=hb;rw[←hf];simp only[Instr.lookup,Sem.run_bind,run_underlying ht,getObj,Sem.run,hh,Result.andThen,hK.check,findKeyE hK n w he,Sem.run_pure,valG];cases lkG n kv with
 | none=>cases ok<;>simp[Sem.run,run_zero' hz]
 | some x=>cases ok<;>simp[Sem.run]
theorem rg {α:Type} [DecidableEq α] {F:α→Value} {w:World} {t vt:TypeId} {z:Value} (ht:P.underlying t=some (.map kt vt)) (hK:gM P kt F) (hz:eP P vt=some z) {b:Nat} {f:α→Option Value} (hm:fN F w b f) (n:α) {K:Value→World→Prop}
  (h:K (.tuple #[(f n).getD z,.bool (f n).isSome]) w):ksem P (Instr.lookup t (.map (some b)) (F n) true) w K:=by
 rw[dA (rf ht hK hz hm n true)];cases hv:f n with
 | none=>rw[hv]at h; exact h
 | some x=>rw[hv]at h; exact h
def Ov {α:Type} [DecidableEq α] (F:α→Value) (w:World) (b:Nat) (f:α→Option Value) (n:α) (s:Nat):Prop :=
 ∃(es:List MapEntry) (cl:Nat) (kv:List (α×Value)) (j:Nat),Ev.aX w b=some (.map (List.toArray es) cl)∧mL F es cl kv∧(kv.map (·.1)).Nodup∧(∀m,m≠n→valG m kv=f m)∧(∃u,kv[j]?=some (n,u))∧(es[j]?).map (fun e:MapEntry=>e.born)=some s
theorem nC {es:List MapEntry} {i:Nat} {k v:Value} {bn:Nat} (h:es[i]?=some { key:=k,val:=v,born:=bn }):(es.modify i fun e=>{ e with key:=k })=es:=by
 apply List.ext_getElem?;intro j;rw[List.getElem?_modify];by_cases hj:i=j
 ·subst hj;rw[h];simp
 ·simp[hj]
theorem mM {α:Type} [DecidableEq α] {F:α→Value} {w:World} {t vt:TypeId} {z:Value} (ht:P.underlying t=some (.map kt vt)) (hK:gM P kt F) (hz:eP P vt=some z) {b:Nat} {f:α→Option Value} (hm:fN F w b f) (n:α) {K:Value→World→Prop}
  (h:∀w2 s,aH (fun j=>j=b) w w2→w2.heap.size=w.heap.size→Ov F w2 b f n s→K (.tuple #[(f n).getD z,.int .i64 (s:Nat)]) w2):ksem P (Instr.mapEntry t (.map (some b)) (F n)) w K:=by
 obtain⟨es,cl,kv,hb,he,hnd,hf⟩:=hm;have hh:w.heap[b]?=some (.map es.toArray cl):=hb;cases hl:lkG n kv with
 | none =>
  have hr:(Instr.mapEntry t (.map (some b)) (F n)).run P w=.ok (.tuple #[z,.int .i64 cl]) (World.setBlk w b (.map (es++[({ key:=F n,val:=z,born:=cl }:MapEntry)]).toArray (cl+1))):=by
   simp only[Instr.mapEntry,Sem.run_bind,run_underlying ht,getObj,Sem.run,hh,Result.andThen,hK.check,findKeyE hK n w he,Sem.run_pure,setObj,hl];simp[World.setBlk,Sem.run,hh,run_zero' hz,goInt]
  rw[dA hr];have hfn:f n=none:=by rw[←hf]; unfold valG; rw[hl]; rfl
  have:=h (World.setBlk w b (.map (es++[({ key:=F n,val:=z,born:=cl }:MapEntry)]).toArray (cl+1))) cl ((aH.refl _ _).setBlk _ (.inl rfl)) (dC _ _ _)
   ⟨es++[({ key:=F n,val:=z,born:=cl }:MapEntry)],cl+1,kv++[(n,z)],es.length,by rw[cN,if_pos rfl,hb]; rfl,⟨by rw[List.map_append,List.map_append,he.kv]; rfl,?_,fun e hmem=>?_⟩,?_,fun m hmn=>?_,⟨z,by rw[he.len]; simp⟩,by simp⟩
  ·rw[hfn]at this; exact this
  ·rw[List.map_append];refine List.nodup_append.2 ⟨he.nd,by simp,fun x hx y hy e=>?_⟩;obtain⟨e1,h1,rfl⟩:=List.mem_map.1 hx;have:=he.lt _ h1;simp at hy;omega
  ·rcases List.mem_append.1 hmem with h1 | h1
   ·have:=he.lt _ h1; omega
   ·have:e={ key:=F n,val:=z,born:=cl }:=by simpa using h1
    rw[this]; simp
  ·rw[←j4 hl];exact sR hnd
  ·rw[←j4 hl,mI,if_neg hmn];exact hf m
 | some x =>
  obtain⟨i,u⟩:=x;have hi:=j3 hl;obtain⟨bn,hg⟩:=he.get hi;have hr:(Instr.mapEntry t (.map (some b)) (F n)).run P w=.ok (.tuple #[u,.int .i64 bn]) (World.setBlk w b (.map es.toArray cl)):=by
   have hget:es.toArray[i]?=some { key:=F n,val:=u,born:=bn }:=by rw[List.getElem?_toArray]; exact hg
   simp only[Instr.mapEntry,Sem.run_bind,run_underlying ht,getObj,Sem.run,hh,Result.andThen,hK.check,findKeyE hK n w he,Sem.run_pure,setObj,hl,hget,Option.map_some,Option.getD_some,keyStaysG hK];have e1:=nC hg;simp[World.setBlk,Sem.run,hh,goInt,e1]
  rw[dA hr];have hfn:f n=some u:=by rw[←hf]; unfold valG; rw[hl]; rfl
  have:=h (World.setBlk w b (.map es.toArray cl)) bn ((aH.refl _ _).setBlk _ (.inl rfl)) (dC _ _ _)
   ⟨es,cl,kv,i,by rw[cN,if_pos rfl,hb]; rfl,he,hnd,fun m _=>hf m,⟨u,hi⟩,by rw[hg]; rfl⟩
  rw[hfn]at this;exact this
theorem AB {es:List MapEntry} (hnd:(es.map (·.born)).Nodup) {j s:Nat} (hj:(es[j]?).map (·.born)=some s):es.findIdx? (fun e=>(e.born:Int) ==(s:Int))=some j:=by
 obtain⟨e,he,rfl⟩:=Option.map_eq_some_iff.1 hj;obtain⟨hjl,hje⟩:=List.getElem?_eq_some_iff.1 he;rw[List.findIdx?_eq_some_iff_getElem];refine⟨hjl,by rw[hje]; simp,fun i hi=>?_⟩;simp only[Bool.not_eq_true,beq_eq_false_iff_ne,ne_eq];intro e2;have h1:(es.map (·.born))[i]?=some e.born:=by rw[List.getElem?_map,List.getElem?_eq_getElem (by omega)]; simp; omega
 have h2:(es.map (·.born))[j]?=some e.born:=by rw[List.getElem?_map,he]; rfl
 have hil:i<(es.map (·.born)).length:=by simp; omega
 have:=(List.getElem?_inj hil hnd).1 (h1.trans h2.symm);omega
theorem j5 {α:Type} [DecidableEq α] {F:α→Value} {w:World} {t:TypeId} {b:Nat} {f:α→Option Value} {n:α} {s:Nat} (hm:Ov F w b f n s) {v:Value} {K:Value→World→Prop}
  (h:∀w2,aH (fun j=>j=b) w w2→w2.heap.size=w.heap.size→fN F w2 b (fun m=>if m=n then some v else f m)→K undef w2):ksemU P (Instr.entryStore t (.map (some b)) (.int .i64 s) v) w K:=by
 obtain⟨es,cl,kv,j,hb,he,hnd,hf,⟨u,hj⟩,hs⟩:=hm;have hh:w.heap[b]?=some (.map es.toArray cl):=hb;have hfi:=AB he.nd hs;have hr:(Instr.entryStore t (.map (some b)) (.int .i64 s) v).run P w=.ok () (World.setBlk w b (.map (es.modify j fun e=>{ e with val:=v }).toArray cl)):=by
  simp only[Instr.entryStore,Sem.run_bind,getObj,Sem.run,hh,Result.andThen,Sem.run_pure,setObj,asInt];simp[World.setBlk,Sem.run,hh,asIntOf,hfi]
 rw[lQ hr];obtain⟨bn,hg⟩:=he.get hj;have hjl:=(List.getElem?_eq_some_iff.1 hj).1;refine h _ ((aH.refl _ _).setBlk _ (.inl rfl)) (dC _ _ _) ⟨_,cl,kv.set j (n,v),by rw[cN,if_pos rfl,hb]; rfl,⟨?_,?_,fun e hmem=>?_⟩,?_,fun m=>?_⟩
 ·apply List.ext_getElem?;intro k;have hk:=congrArg (fun l:List (Value×Value)=>l[k]?) he.kv;simp only[List.getElem?_map]at hk;rw[List.getElem?_map,List.getElem?_map,List.getElem?_modify,List.getElem?_set];by_cases hjk:j=k
  ·subst hjk;simp[hg,hjl]
  ·simp only[hjk,if_false,id_eq];simpa using hk
 ·have:(es.modify j fun e=>{ e with val:=v }).map (·.born)=es.map (·.born):=by
   apply List.ext_getElem?;intro k;rw[List.getElem?_map,List.getElem?_map,List.getElem?_modify];by_cases hjk:j=k
   ·subst hjk; simp[hg]
   ·simp[hjk]
  rw[this]; exact he.nd
 ·obtain⟨k,hk⟩:=List.mem_iff_getElem?.1 hmem;rw[List.getElem?_modify]at hk;by_cases hjk:j=k
  ·subst hjk;rw[hg]at hk;simp at hk;rw[←hk];show bn<cl;have:=he.lt _ (List.mem_of_getElem? hg);exact this
  ·simp only[hjk,if_false]at hk;exact he.lt _ (List.mem_of_getElem? (by simpa using hk))
 ·have:(kv.set j (n,v)).map (·.1)=kv.map (·.1):=by
   apply List.ext_getElem?;intro k;rw[List.getElem?_map,List.getElem?_map,List.getElem?_set];by_cases hjk:j=k
   ·subst hjk;rw[if_pos rfl,if_pos hjl,hj]; rfl
   ·simp[hjk]
  rw[this]; exact hnd
 ·have hl:∃y,lkG n kv=some (j,y):=by
   cases hl:lkG n kv with
   | none=>exact absurd (List.mem_map.2 ⟨_,List.mem_of_getElem? hj,rfl⟩) (lkG_none.1 hl)
   | some x =>
    obtain⟨i,y⟩:=x;have hi:=j3 hl;have hil:=(List.getElem?_eq_some_iff.1 hi).1;have h1:(kv.map (·.1))[i]?=some n:=by rw[List.getElem?_map,hi]; rfl
    have h2:(kv.map (·.1))[j]?=some n:=by rw[List.getElem?_map,hj]; rfl
    have:=(List.getElem?_inj (by simpa using hil) hnd).1 (h1.trans h2.symm);subst this;exact⟨y,rfl⟩
  obtain⟨y,hl⟩:=hl;show valG m (kv.set j (n,v))=if m=n then some v else f m
  rw[←mJ hl,mI];by_cases hmn:m=n
  ·rw[if_pos hmn,if_pos hmn]
  ·rw[if_neg hmn,if_neg hmn]; exact hf m hmn
end
end
end Go.Ev
namespace Go.Proofs.YtcmijampbjcbgaaGreatDoor
open Go Go.Ev
section
attribute [local irreducible] kO kB bG bH kN kG aA ai aw aB bj knew bB aP ay aE bk aD aU bC bD a8 kbool kint kstr keq kun ksl bz cQ kta kmk kmm ksem ksemU bd aI aL ae kL
theorem pB {l:List Int} (h:l.Pairwise (fun x y=>x<y)) {i j:Nat} (hij:i<j) (hj:j<l.length):l[i]<l[j]:=(List.pairwise_iff_getElem.1 h) i j (by omega) hj hij
theorem AC {l:List Int} (hn:l.length≤1000000) (hs:aZ w a l.length 1 (l.map nV)) (hl:l.Pairwise (fun x y=>x<y)) (x:Int) :
  af Tryz.prog 168 #[.slice a l.length c,.int .i64 x] w fun v w'=>Same w w'∧∃k:Nat,k≤l.length∧(∀i (hi:i<l.length),i<k→l[i]<x)∧(∀i (hi:i<l.length),k≤i→x≤l[i])∧v=.tuple #[.int .i64 k,.bool (decide (x∈l))]:=by
 refine Ep ?_;unfold Oo;refine aK ?_;refine ib l.length (fun r p q wr=>∃i j:Nat,j-i+r≤l.length∧i≤j∧j≤l.length∧(∀m (hm:m<l.length),m<i→l[m]<x)∧(∀m (hm:m<l.length),j≤m→x≤l[m])∧p=.int .i64 i∧q=.int .i64 j∧Same w wr) ⟨jP ⟨0,l.length,by omega,by omega,by omega,fun m _ h=>by omega,fun m hm h=>by omega,rfl,rfl,aH.refl _ _⟩,fun p q wr hp=>?_⟩;obtain⟨r,hr,⟨i,j,hj,hij,hjl,hlo,hhi,rfl,rfl,hm⟩,hJ⟩:=eX hp;unfold Az;refine aM ?_;refine ac ?_;refine am (fun hlt=>?_) (fun hge=>?_)
 ·have hlt:i<j:=by omega
  unfold Ax;refine aY (by omega) (by omega) ?_;rw[cD,xC (by omega) (by omega),dz];refine ah (by omega) ?_;have e2:ishr .u64 ((i:Int)+(j:Int)) 1=(((i+j)/2:Nat):Int):=by
   have:=iZ (k:=.u64) (i+j) 1 (by decide);rw[show((i+j:Nat):Int)=(i:Int)+(j:Int) by omega]at this;exact this
  rw[e2,cD,dV (by omega) (by omega)];have hh1:(i+j)/2<j:=by omega
  have hh2:i≤(i+j)/2:=by omega
  generalize (i+j)/2=h at *;have hhl:h<l.length:=by omega
  refine cF (F:=nV) (l:=l) (c:=c) (hs.same hm) hhl rfl ?_;rw[nV];refine ab (vT _ _ _) ?_;rintro v w' ⟨rfl,rfl⟩;refine ac ?_;refine am (fun hc=>?_) (fun hc=>?_)
  ·refine aY (by omega) (by omega) ?_;rw[show(h:Int)+1=((h+1:Nat):Int) by omega];refine hJ _ _ _ (by omega) ⟨h+1,j,by omega,by omega,hjl,fun m hml hmh=>?_,hhi,rfl,rfl,hm⟩;by_cases he:m=h
   ·subst he; exact hc
   ·have:=pB hl (show m<h by omega) hhl;omega
  ·refine hJ _ _ _ (by omega) ⟨i,h,by omega,hh2,by omega,hlo,fun m hml hmh=>?_,rfl,rfl,hm⟩;by_cases he:m=h
   ·subst he; omega
   ·have:=pB hl (show h<m by omega) hml;omega
 ·have:i=j:=by omega
  subst this;unfold Ay;refine aM ?_;refine ac ?_;refine am (fun hlt=>?_) (fun hge=>?_)
  ·have hil:i<l.length:=by omega
   have hxi:=hhi i hil (Nat.le_refl _);refine cF (F:=nV) (l:=l) (c:=c) (hs.same hm) hil rfl ?_;rw[nV];refine aF ?_;refine ac ?_;by_cases he:l[i]=x
   ·rw[co he];refine az rfl ?_;refine⟨hm,i,hjl,hlo,hhi,?_⟩;rw[co (he▸List.getElem_mem hil)]
   ·rw[bT he];refine aN rfl ?_;refine cF (F:=nV) (l:=l) (c:=c) (hs.same hm) hil rfl ?_;rw[nV];refine ab (re _ _) ?_;rintro v w' ⟨rfl,rfl⟩;refine ac ?_;refine az rfl ?_;refine⟨hm,i,hjl,hlo,hhi,?_⟩;have hx:x∉l:=fun hmem=>by
     obtain⟨m,hml,e⟩:=List.mem_iff_getElem.1 hmem;rcases Nat.lt_trichotomy m i with h | h | h
     ·have:=hlo m hml h; omega
     ·subst h; exact he e
     ·have:=pB hl h hml; omega
    rw[bT hx]
  ·refine⟨hm,i,hjl,hlo,hhi,?_⟩;have hx:x∉l:=fun hmem=>by
    obtain⟨m,hml,e⟩:=List.mem_iff_getElem.1 hmem;have:=hlo m hml (by omega);omega
   rw[bT hx]
structure BdM where
 l:List (Nat×EK)
 nx:Nat
def BdM.own (B:BdM) (n:Int):Option Value:=(B.l.find? fun x=>decide (((x.1:Nat):Int)=n)).map fun x=>x.2.v
def BdM.ids (B:BdM) (e:EK):Option Value:=(B.l.find? fun x=>decide (x.2=e)).map fun x=>natV x.1
def BdM.nums (B:BdM):List Int:=B.l.map fun x=>((x.1:Nat):Int)
structure BdM.WF (B:BdM):Prop where
 asc:(B.l.map (·.1)).Pairwise (fun x y=>x<y)
 lt:∀x∈B.l,1≤x.1∧x.1<B.nx
 nd:(B.l.map (·.2)).Nodup
 pos:1≤B.nx
theorem BdM.WF.ascI {B:BdM} (h:B.WF):B.nums.Pairwise (fun x y=>x<y):=by
 have:=h.asc;unfold BdM.nums;rw[List.pairwise_map]at this ⊢;exact this.imp fun h=>by omega
structure KS (U:Nat→Prop) (w:World) (b:Nat) (B:BdM) (bo bi:Nat) (sv:Value):Prop where
 here:aX w b=some (.cells #[.map (some bo),.map (some bi),sv,natV B.nx] 171)
 own:fN sS w bo B.own
 ids:fN EK.v w bi B.ids
 nums:bV w sv 1 (B.nums.map nV)
 ub:U b
 uo:U bo
 ui:U bi
 us:∀k,bf sv k→U k
 ne:bo≠bi
 ns:∀k,bf sv k→k≠b
 wf:B.WF
 le:B.l.length≤64
def ij (U:Nat→Prop) (w:World) (b:Nat) (B:BdM):Prop:=∃bo bi sv,KS U w b B bo bi sv
theorem KS.mod {U fp:Nat→Prop} (h:KS U w b B bo bi sv) (m:aH fp w w') (hf:∀k,U k→¬fp k):KS U w' b B bo bi sv :=
 ⟨m.get h.here (hf _ h.ub),h.own.mod m (hf _ h.uo),h.ids.mod m (hf _ h.ui),h.nums.mod m fun k hk=>hf k (h.us k hk),h.ub,h.uo,h.ui,h.us,h.ne,h.ns,h.wf,h.le⟩
theorem ij.mod {U fp:Nat→Prop} (h:ij U w b B) (m:aH fp w w') (hf:∀k,U k→¬fp k):ij U w' b B:=by
 obtain⟨bo,bi,sv,h⟩:=h;exact⟨bo,bi,sv,h.mod m hf⟩
theorem ij.same (h:ij U w b B) (m:Same w w'):ij U w' b B:=h.mod m fun _ _ h=>h
theorem ij.mono {U U':Nat→Prop} (h:ij U w b B) (hU:∀k,k<w.heap.size→U k→U' k):ij U' w b B:=by
 obtain⟨bo,bi,sv,h⟩:=h
 exact⟨bo,bi,sv,h.here,h.own,h.ids,h.nums,hU _ (aC h.here) h.ub,hU _ h.own.lt h.uo,hU _ h.ids.lt h.ui,fun k hk=>hU _ (h.nums.vblk_lt hk) (h.us k hk),h.ne,h.ns,h.wf,h.le⟩
theorem KS.apart (h:KS U w b B bo bi sv):bo≠b∧bi≠b∧∀k,bf sv k→k≠bo∧k≠bi:=by
 refine⟨fun e=>?_,fun e=>?_,fun k hk=>?_⟩
 ·exact(e▸h.own).cells h.here
 ·exact(e▸h.ids).cells h.here
 ·obtain⟨arr,t,hk⟩:=vU h.nums hk
  exact⟨fun e=>(e▸h.own).cells hk,fun e=>(e▸h.ids).cells hk⟩
theorem Ow (w:World):af Tryz.prog 65 #[] w fun v w'=>∃b,v=.pointer (some ⟨b,0,none⟩)∧ij (fun k=>w.heap.size≤k) w' b ⟨[],1⟩∧Same w w':=by
 refine KJ ?_;unfold RY;refine jS fun w2 h2 hs2 hm2=>?_;refine jS fun w4 h4 hs4 hm4=>?_;refine aW (cs:=[.map (some w.heap.size),.map (some w2.heap.size),.slice none 0 0,.int .i64 1]) rfl ?_;refine ar fun w6 h6 hs6 hb6=>?_;refine⟨w4.heap.size,rfl,⟨w.heap.size,w2.heap.size,.slice none 0 0,hb6,?_,?_,bV.nil _ _,by omega,by omega,by omega,fun k hk=>?_,by omega,fun k hk=>?_,⟨List.Pairwise.nil,(fun x hx=>by cases hx),List.nodup_nil,Nat.le_refl _⟩,by simp⟩,(h2.trans h4).trans h6⟩
 ·have e:aX w2 w.heap.size=some (.map #[] 0):=hm2 .i64;exact fN.new ((h4.trans h6).get e (fun h=>h))
 ·have e:aX w4 w2.heap.size=some (.map #[] 0):=hm4 .i64;exact fN.new (h6.get e (fun h=>h))
 ·obtain⟨_,_,_,e⟩:=hk; cases e
 ·obtain⟨_,_,_,e⟩:=hk; cases e
theorem rh (h:ij U w b B) (x:Int) :
  af Tryz.prog 142 #[.pointer (some ⟨b,0,none⟩),.int .i64 x] w fun v w'=>v=.tuple #[(match B.l.find? fun y=>decide (((y.1:Nat):Int)=x)with | some y=>y.2.v | none=>entV 0 0),.bool (B.l.find? fun y=>decide (((y.1:Nat):Int)=x)).isSome]∧Same w w':=by
 obtain⟨bo,bi,sv,h⟩:=h
 refine En ?_
 unfold Om
 refine ar fun w2 h2 hs2 hb2=>?_
 rw[aJ q9]
 refine ac ?_
 refine az rfl ?_
 unfold Av
 have q2:=h.mod h2 (fun _ _ h=>h)
 have hh:=q2.here
 refine aq ?_
 refine aa ?_
 refine aj hh rfl ?_
 refine rg (F:=sS) Tryz.underlying168 ue GZ q2.own x ?_
 obtain⟨i,g,hig⟩:∃i g:Int,(B.own x).getD (entV 0 0)=entV i g:=by
  unfold BdM.own
  cases B.l.find? fun y=>decide (((y.1:Nat):Int)=x)with
  | none=>exact⟨0,0,rfl⟩
  | some y=>exact⟨y.2.i,y.2.g,rfl⟩
 have hres:(match B.l.find? fun y=>decide (((y.1:Nat):Int)=x)with | some y=>y.2.v | none=>entV 0 0)=entV i g:=by
  rw[←hig]
  unfold BdM.own
  cases B.l.find? fun y=>decide (((y.1:Nat):Int)=x)<;>rfl
 have hsome:(B.own x).isSome=(B.l.find? fun y=>decide (((y.1:Nat):Int)=x)).isSome:=by unfold BdM.own; simp
 rw[hig,hres,hsome]
 have hz2:=h2.size
 refine ak rfl ?_
 refine ak rfl ?_
 refine ar fun w14 h14 hs14 hb14=>?_
 refine aQ (vs:=[.int .i64 i,.int .i64 g]) hb14 rfl rfl rfl (by simp) (by simp) fun w16 h16 hs16 hb16=>?_
 have hb16:aX w16 w2.heap.size=some (.cells #[.int .i64 i,.int .i64 g] 157):=hb16
 refine au (cs:=[.int .i64 i,.int .i64 g]) hb16 rfl (by omega) ?_
 have m14:Same w w14:=h2.trans h14
 have m16:Same w w16:=m14.trans' (h16.mono fun k _ e=>.inr (by omega))
 have hb2':∃arr,aX w16 w.heap.size=some (.cells arr 157)∧arr.size=2:=⟨_,h16.get (h14.get hb2 (fun h=>h)) (by omega),rfl⟩
 obtain⟨arr,hb2',ha2⟩:=hb2'
 refine aQ (vs:=[.int .i64 i,.int .i64 g]) hb2' rfl rfl rfl (by omega) (by simp) fun w18 h18 hs18 hb18=>?_
 have hb18:aX w18 w.heap.size=some (.cells (setAll [.int .i64 i,.int .i64 g] arr 0) 157):=hb18
 have e18:segL (setAll [Value.int .i64 i,.int .i64 g] arr 0).toList 0 2=some [.int .i64 i,.int .i64 g]:=by
  have hal:arr=#[arr[0],arr[1]]:=by
   apply Array.ext
   ·simp[ha2]
   ·intro i h1 h2
    have:i=0∨i=1:=by omega
    rcases this with rfl | rfl<;>simp
  rw[hal]; rfl
 refine au (cs:=[.int .i64 i,.int .i64 g]) hb18 e18 (by omega) ?_
 exact⟨rfl,m16.trans' (h18.mono fun k _ e=>.inr (by omega))⟩
theorem QB (h:ij U w b B) (e:EK) :
  af Tryz.prog 118 #[.pointer (some ⟨b,0,none⟩),e.v] w fun v w'=>v=.tuple #[(B.ids e).getD (.int .i64 0),.bool (B.ids e).isSome]∧Same w w':=by
 obtain⟨bo,bi,sv,h⟩:=h;refine Eo ?_;unfold On;refine ar fun w2 hm2 hs2 hb2=>?_;have hb2:aX w2.drew w.heap.size=some (.cells #[.int .i64 e.i,.int .i64 e.g] 157):=hb2;rw[aJ q9];refine ac ?_;refine az rfl ?_;unfold Aw;have m2:Same w w2.drew:=hm2.drew;have h2:=h.mod m2 (fun _ _ h=>h);generalize w2.drew=wa at *;have hh:=h2.here;refine aq ?_;refine aa ?_;refine aj hh rfl ?_;refine ah rfl ?_;refine au (cs:=[.int .i64 e.i,.int .i64 e.g]) hb2 rfl (by omega) ?_;refine ah rfl ?_;refine rg Tryz.underlying169 GU G0 h2.ids e ?_;refine ah rfl ?_;refine ak rfl ?_;refine ak rfl ?_;exact⟨rfl,m2⟩
theorem kY {α:Type} (p:α→Bool) (l:List α) (x:α):(l++[x]).find? p=(l.find? p).or (if p x then some x else none):=by
 rw[List.find?_append];congr 1;simp only[List.find?_cons,List.find?_nil];cases p x<;>rfl
theorem BdM.own_none {B:BdM}:B.own n=none↔∀x∈B.l,((x.1:Nat):Int)≠n:=by
 unfold BdM.own;rw[Option.map_eq_none_iff,List.find?_eq_none];simp
theorem BdM.ids_none {B:BdM}:B.ids e=none↔∀x∈B.l,x.2≠e:=by
 unfold BdM.ids;rw[Option.map_eq_none_iff,List.find?_eq_none];simp
theorem BdM.own_snoc (B:BdM) (n nx:Nat) (e:EK) (h:B.own n=none):(BdM.mk (B.l++[(n,e)]) nx).own=fun m=>if m=((n:Nat):Int) then some e.v else B.own m:=by
 funext m;show((B.l++[(n,e)]).find? fun x=>decide (((x.1:Nat):Int)=m)).map (fun x=>x.2.v)=_;rw[kY];by_cases hm:m=((n:Nat):Int)
 ·subst hm;have:(B.l.find? fun x=>decide (((x.1:Nat):Int)=((n:Nat):Int)))=none:=by
   unfold BdM.own at h;exact Option.map_eq_none_iff.1 h
  rw[this,if_pos rfl];simp
 ·rw[if_neg hm];unfold BdM.own;have:decide (((n:Nat):Int)=m)=false:=bT (fun e=>hm e.symm);simp only[this];cases (B.l.find? fun x=>decide (((x.1:Nat):Int)=m))<;>rfl
theorem BdM.ids_snoc (B:BdM) (n nx:Nat) (e:EK) (h:B.ids e=none):(BdM.mk (B.l++[(n,e)]) nx).ids=fun m=>if m=e then some (natV n) else B.ids m:=by
 funext m;show((B.l++[(n,e)]).find? fun x=>decide (x.2=m)).map (fun x=>natV x.1)=_;rw[kY];by_cases hm:m=e
 ·subst hm;have:(B.l.find? fun x=>decide (x.2=m))=none:=by
   unfold BdM.ids at h;exact Option.map_eq_none_iff.1 h
  rw[this,if_pos rfl];simp
 ·rw[if_neg hm];unfold BdM.ids;have:decide (e=m)=false:=bT (fun e=>hm e.symm);simp only[this];cases (B.l.find? fun x=>decide (x.2=m))<;>rfl
theorem Ox (h:KS U w b B bo bi sv) {w1:World} (hb:aX w1 b=some (.cells #[.map (some bo),.map (some bi),sv,nx] 171)) (ho:fN sS w1 bo B.own) (hi:fN EK.v w1 bi B.ids) (hs:bV w1 sv 1 (B.nums.map nV)) (hle:B.l.length<64) (e:EK) (he:B.ids e=none) :
  af Tryz.prog 120 #[.pointer (some ⟨b,0,none⟩),natV B.nx,e.v] w1 fun v w'=>v=.tuple #[]∧∃sv',aX w' b=some (.cells #[.map (some bo),.map (some bi),sv',nx] 171)∧fN sS w' bo (BdM.mk (B.l++[(B.nx,e)]) (B.nx+1)).own∧fN EK.v w' bi (BdM.mk (B.l++[(B.nx,e)]) (B.nx+1)).ids ∧
   bV w' sv' 1 ((BdM.mk (B.l++[(B.nx,e)]) (B.nx+1)).nums.map nV)∧(∀k,bf sv' k→bf sv k∨w1.heap.size≤k)∧aH (fun k=>k=b∨k=bo∨k=bi∨bf sv k) w1 w':=by
 have hsO:=hs;obtain⟨sa,sn,sc,rfl,hsl,hsn⟩:=hs.is;have hsn:sn=B.nums.length:=by simpa using hsn rfl
 subst hsn;have hnl:B.nums.length=B.l.length:=by unfold BdM.nums; simp
 obtain⟨hnb,hnb2,hnv⟩:=h.apart;have ne:=h.ne;have ns:=h.ns;have lb:=aC hb;have lo:=ho.lt;have li:=hi.lt;rw[natV];refine Em ?_;unfold Ol;refine ar fun w2 h2 hs2 hb2=>?_;have he2:aX w2 w1.heap.size=some (.cells #[.int .i64 e.i,.int .i64 e.g] 157):=hb2;have hbw2:=h2.get hb (fun h=>h);refine aq ?_;refine aa ?_;refine aj hbw2 rfl ?_;refine ab (AC (by omega) (hsl.same h2) h.wf.ascI (B.nx:Int)) ?_;rintro v w6 ⟨h6,k,hk,hk1,hk2,rfl⟩;have hkl:k=B.nums.length:=by
  by_cases hlt:k<B.nums.length
  ·have h1:=hk2 k hlt (Nat.le_refl _);have hkL:k<B.l.length:=by omega
   have h2:B.nums[k]=((B.l[k].1:Nat):Int):=by simp[BdM.nums]
   have:=h.wf.lt _ (List.getElem_mem hkL);omega
  ·omega
 subst hkl;have m6:=h2.trans h6;have hbw6:=m6.get hb (fun h=>h);refine ak rfl ?_;refine ak rfl ?_;refine aq ?_;refine aa ?_;refine aj hbw6 rfl ?_;refine aR (cs:=[.int .i64 ((B.nx:Nat):Int)]) rfl fun w12 h12 hs12 hb12=>?_;have m12:=m6.trans h12;have hO12:=hsO.same m12;have hlen:(B.nums.map nV).length=B.nums.length:=by simp
 refine ab (by have:=sT hO12 (by rw[hlen]; omega) (x:=((B.nx:Nat):Int)) hb12; rw[hlen,natV]at this; exact this) ?_;rintro v w14 ⟨hO14,h14,hf14⟩;have eN:B.nums.map nV++[Value.int .i64 ((B.nx:Nat):Int)]=(BdM.mk (B.l++[(B.nx,e)]) (B.nx+1)).nums.map nV:=by unfold BdM.nums; simp[nV]
 rw[eN]at hO14;obtain⟨va,vn,vc,rfl,_,_⟩:=hO14.is;have hbw14:=h14.get (m12.get hb (fun h=>h)) (fun hk=>ns _ hk rfl);have he14:=h14.get ((h6.trans h12).get he2 (fun h=>h)) (fun hk=>by have:=hsO.vblk_lt hk; omega);have ho14:=(ho.same m12).mod h14 (fun hk=>(hnv _ hk).1 rfl);have hi14:=(hi.same m12).mod h14 (fun hk=>(hnv _ hk).2 rfl);refine aq ?_;refine aa ?_;refine aQ (vs:=[.slice va vn vc]) hbw14 rfl rfl rfl (by simp) (by simp) fun w16 h16 hs16 hb16=>?_;have hbw16:aX w16.drew b=some (.cells #[.map (some bo),.map (some bi),.slice va vn vc,nx] 171):=hb16;have hd16:aH (fun k=>k=b) w14 w16.drew:=h16.drew;have he16:=hd16.get he14 (by omega);have ho16:=ho14.mod hd16 hnb;have hi16:=hi14.mod hd16 hnb2;have hz12:=m12.size;have hO16:=hO14.mod hd16 (fun k hk e=>by
  rcases hf14 k hk with h | h
  ·exact ns k h e
  ·omega)
 generalize w16.drew=wa at *;refine aq ?_;refine aa ?_;refine aj hbw16 rfl ?_;refine ah rfl ?_;refine aq ?_;refine aa ?_;refine aj hbw16 rfl ?_;refine ah rfl ?_;refine au (cs:=[.int .i64 e.i,.int .i64 e.g]) he16 rfl (by omega) ?_;refine ah rfl ?_;refine au (cs:=[.int .i64 e.i,.int .i64 e.g]) he16 rfl (by omega) ?_;refine ah rfl ?_;have hon:B.own (B.nx:Int)=none:=BdM.own_none.2 fun x hx=>by have:=(h.wf.lt x hx).2; omega
 refine mM (F:=sS) Tryz.underlying168 ue GZ ho16 ((B.nx:Nat):Int) fun w24 s24 h24 hs24 hm24=>?_;have hz16:=hd16.size;have hz14:=h14.size;have he24:=h24.get he16 (by omega);rw[hon];refine ah (au (cs:=[.int .i64 e.i,.int .i64 e.g]) he24 rfl (by omega) ⟨rfl,rfl⟩) ?_;refine ah (au (cs:=[.int .i64 e.i,.int .i64 e.g]) he24 rfl (by omega) ⟨rfl,rfl⟩) ?_;refine ak rfl ?_;refine j5 (F:=sS) hm24 fun w26 h26 hs26 hm26=>?_;have he26:=h26.get he24 (by omega);refine ah (au (cs:=[.int .i64 e.i,.int .i64 e.g]) he26 rfl (by omega) ⟨rfl,rfl⟩) ?_;have m26:aH (fun k=>k=bo) wa w26:=h24.trans h26;have hi26:=hi16.mod m26 (fun h=>ne h.symm);refine mM (F:=EK.v) Tryz.underlying169 GU G0 hi26 e fun w28 s28 h28 hs28 hm28=>?_;rw[he];refine ak rfl ?_;refine j5 (F:=EK.v) hm28 fun w30 h30 hs30 hm30=>?_;have m30:aH (fun k=>k=bi) w26 w30:=h28.trans h30;refine⟨rfl,_,m30.get (m26.get hbw16 (fun h=>hnb h.symm)) (fun h=>hnb2 h.symm),?_,?_,?_,fun k hk=>?_,?_⟩
 ·rw[BdM.own_snoc B B.nx (B.nx+1) e hon];exact hm26.mod m30 ne
 ·rw[BdM.ids_snoc B B.nx (B.nx+1) e he];exact hm30
 ·refine(hO16.mod m26 fun k hk e=>?_).mod m30 fun k hk e=>?_
  ·rcases hf14 k hk with h | h
   ·exact(hnv k h).1 e
   ·omega
  ·rcases hf14 k hk with h | h
   ·exact(hnv k h).2 e
   ·omega
 ·rcases hf14 k hk with h | h
  ·exact .inl h
  ·exact .inr (by omega)
 ·exact(aH.of_same m12).trans ((h14.mono fun k _ h=>.inr (.inr (.inr h))).trans ((hd16.mono fun k _ h=>.inl h).trans ((m26.mono fun k _ h=>.inr (.inl h)).trans (m30.mono fun k _ h=>.inr (.inr (.inl h))))))
theorem KT (h:ij U w b B) (e:EK) (he:B.ids e=none) (hle:B.l.length<64) (hnx:B.nx≤1073741824) :
  af Tryz.prog 73 #[.pointer (some ⟨b,0,none⟩),e.v] w fun v w'=>v=.tuple #[natV B.nx,.nilIface]∧ij (fun k=>U k∨w.heap.size≤k) w' b ⟨B.l++[(B.nx,e)],B.nx+1⟩∧aH U w w':=by
 have hA:=h
 obtain⟨bo,bi,sv,h⟩:=h
 refine KL ?_
 unfold RZ
 refine ar fun w2 h2 hs2 hb2=>?_
 have he2:aX w2 w.heap.size=some (.cells #[.int .i64 e.i,.int .i64 e.g] 157):=hb2
 refine au (cs:=[.int .i64 e.i,.int .i64 e.g]) he2 rfl (by omega) ?_
 refine ab (QB (hA.same h2) e) ?_
 rintro v w5 ⟨rfl,h5⟩
 rw[he]
 refine ak rfl ?_
 refine ak rfl ?_
 rw[aJ q9]
 refine ac ?_
 refine az rfl ?_
 refine ac ?_
 refine az rfl ?_
 have m5:=h2.trans h5
 have h5':=h.mod m5 (fun _ _ h=>h)
 have he5:=h5.get he2 (fun h=>h)
 have hh:=h5'.here
 rw[natV]at hh ⊢
 refine aq ?_
 refine aa ?_
 refine ao (v:=.int .i64 ((B.nx:Nat):Int)) hh rfl ?_
 refine bO ?_
 rw[bT (by omega)]
 refine ac ?_
 refine az rfl ?_
 unfold GV
 refine aq ?_
 refine aa ?_
 refine ao (v:=.int .i64 ((B.nx:Nat):Int)) hh rfl ?_
 refine aq ?_
 refine aa ?_
 refine ao (v:=.int .i64 ((B.nx:Nat):Int)) hh rfl ?_
 refine aY (by omega) (by omega) ?_
 refine aq ?_
 refine aa ?_
 refine aQ (vs:=[.int .i64 (((B.nx:Nat):Int)+1)]) hh rfl rfl rfl (by simp) (by simp) fun w28 h28 hs28 hb28=>?_
 have hb28:aX w28 b=some (.cells #[.map (some bo),.map (some bi),sv,.int .i64 (((B.nx:Nat):Int)+1)] 171):=hb28
 obtain⟨hnb,hnb2,hnv⟩:=h.apart
 have lb:=aC h.here
 have he28:=h28.get he5 (by omega)
 refine au (cs:=[.int .i64 e.i,.int .i64 e.g]) he28 rfl (by omega) ?_
 refine ab (Ox h hb28 (h5'.own.mod h28 hnb) (h5'.ids.mod h28 hnb2) (h5'.nums.mod h28 fun k hk=>h5'.ns k hk) hle e he) ?_
 rintro v w31 ⟨rfl,sv',g1,g2,g3,g4,g5,g6⟩
 have hz5:=m5.size
 refine⟨rfl,⟨bo,bi,sv',?_,g2,g3,g4,.inl h.ub,.inl h.uo,.inl h.ui,fun k hk=>?_,h.ne,fun k hk=>?_,?_,by simp; omega⟩,?_⟩
 ·have:(((B.nx:Nat):Int)+1)=((B.nx+1:Nat):Int):=by omega
  rw[this]at g1
  exact g1
 ·rcases g5 k hk with h1 | h1
  ·exact .inl (h.us k h1)
  ·exact .inr (by omega)
 ·rcases g5 k hk with h1 | h1
  ·exact h.ns k h1
  ·omega
 ·refine⟨?_,fun x hx=>?_,?_,Nat.le_succ_of_le h.wf.pos⟩
  ·rw[List.map_append,List.pairwise_append]
   refine⟨h.wf.asc,by simp,fun x hx y hy=>?_⟩
   obtain⟨z,hz,rfl⟩:=List.mem_map.1 hx
   have:=(h.wf.lt z hz).2
   simp at hy
   omega
  ·rcases List.mem_append.1 hx with h1 | h1
   ·have:=h.wf.lt x h1
    exact⟨this.1,Nat.lt_succ_of_lt this.2⟩
   ·have hx1:x=(B.nx,e):=by simpa using h1
    subst hx1
    have hnx1:1≤B.nx:=h.wf.pos
    exact⟨hnx1,Nat.lt_succ_self _⟩
  ·rw[List.map_append]
   refine List.nodup_append.2 ⟨h.wf.nd,by simp,fun x hx y hy e1=>?_⟩
   obtain⟨z,hz,rfl⟩:=List.mem_map.1 hx
   have hy1:y=e:=by simpa using hy
   exact BdM.ids_none.1 he z hz (by rw[e1,hy1])
 ·refine(aH.of_same m5).trans ((h28.mono fun k _ e=>by rw[e]; exact h.ub).trans (g6.mono fun k _ e=>?_))
  rcases e with rfl | rfl | rfl | e
  ·exact h.ub
  ·exact h.uo
  ·exact h.ui
  ·exact h.us k e
end
section

end
section
attribute [local irreducible] kO kB bG bH kN kG aA ai aw aB bj knew bB aP ay aE bk aD aU bC bD a8 kbool kint kstr keq kun ksl bz cQ kta kmk kmm ksem ksemU bd aI aL ae kL
end
section
def oe (L:List Part):Prop:=L.Pairwise (fun x y=>x.comp≤y.comp)
theorem AD:∀{A:List Part},fa A→∀x∈A,∀y∈A,x.comp=y.comp→x=y
 | [],_,x,hx,_,_,_=>by cases hx
 | a::A,h,x,hx,y,hy,e=>by
  have h':=List.nodup_cons.1 (show(a.comp::A.map (·.comp)).Nodup from h);rcases List.mem_cons.1 hx with hxa | hxA
  ·rcases List.mem_cons.1 hy with hya | hyA
   ·rw[hxa,hya]
   ·exact absurd (show a.comp∈A.map (·.comp)from List.mem_map.2 ⟨y,hyA,by rw[←hxa]; exact e.symm⟩) h'.1
  ·rcases List.mem_cons.1 hy with hya | hyA
   ·exact absurd (show a.comp∈A.map (·.comp)from List.mem_map.2 ⟨x,hxA,by rw[←hya]; exact e⟩) h'.1
   ·exact AD h'.2 x hxA y hyA e
theorem nD {A B:List Part} (hp:A.Perm B) (hA:oe A) (hB:oe B) (hn:fa A):A=B :=
 List.Perm.eq_of_pairwise (le:=fun x y:Part=>x.comp≤y.comp) (fun a b ha hb h1 h2=>AD hn a ha b (hp.mem_iff.2 hb) (by omega)) hA hB hp
end
section
attribute [local irreducible] kO kB bG bH kN kG aA ai aw aB bj knew bB aP ay aE bk aD aU bC bD a8 kbool kint kstr keq kun ksl bz cQ kta kmk kmm ksem ksemU bd aI aL ae kL
theorem qZ.turnN {o:dd} (h:qZ w0 o w b p S t) (T:c7 o w b S' w') (hG:GS S' t'):∃o' p',qZ w0 o' w' b p' S' t'∧(∀k,k<w.heap.size→o k=none→o' k=none)∧aH (fun k=>o k≠none) w w':=by
 obtain⟨o',p',C,hl,hm⟩:=h.turn T hG;exact⟨o',p',C,fun k hk e=>by rw[hl k hk]; exact e,hm⟩
end
section
theorem uf (h:bF o w b p S) {t:Nat} (hG:GS S t) {i:Nat} {g:Int} (hg:S.gens[i]?=some (g,true)) {c:Int} (hno:∀x∈partsOf S i,x.comp≠c) :
  ∃n r,S.spots[i]?=some (n,r)∧∃hn:n<S.tabs.length,∀x∈bq S.masks n,(x:Int)≠c:=by
 obtain⟨n,r,hsp,hn,hnm,_,hpe,hce,hmap,_⟩:=fE h hG hg;refine⟨n,r,hsp,hn,fun x hx e=>?_⟩;rw[hce]at hx;have h1:(x:Int)∈(partsOf S i).map (·.comp):=hmap▸List.mem_map.2 ⟨x,hx,rfl⟩;obtain⟨y,hy,e2⟩:=List.mem_map.1 h1;exact hno y hy (e2.trans e)
end
section
theorem qZ.modQ {o:dd} (h:qZ w0 o w b p S t) {fp:Nat→Prop} (m:aH fp w w2) (hf:∀k,fp k→w0.heap.size≤k∧o k=none):qZ w0 o w2 b p S t :=
 ⟨h.sp.frame m (fun k t e hk=>by rw[(hf k hk).2]at e; cases e) (bN.refl _ _),h.gs,h.lo,fun k hk=>h.hi k (Nat.le_trans m.size hk),h.same.trans' (m.mono fun k _ e=>.inr (hf k e).1)⟩
def mN (w0:World) (fx:Nat→Prop) (bs bb:Nat) (w:World) (S:SM) (t:Nat) (B:BdM):Prop :=
 ∃o p U,qZ w0 o w bs p S t∧ij U w bb B∧(∀k,U k→w0.heap.size≤k∧o k=none∧¬fx k)∧∀k,fx k→w0.heap.size≤k∧k<w.heap.size∧o k=none
theorem mN.same0 (h:mN w0 fx bs bb w S t B):Same w0 w:=by
 obtain⟨o,p,U,C,_⟩:=h;exact C.same
theorem mN.lt {fx:Nat→Prop} (h:mN w0 fx bs bb w S t B) {k:Nat} (hk:fx k):w0.heap.size≤k∧k<w.heap.size:=by
 obtain⟨o,p,U,_,_,_,hf⟩:=h;exact⟨(hf k hk).1,(hf k hk).2.1⟩
theorem mN.loc (h:mN w0 fx bs bb w S t B) (m:Same w w'):mN w0 fx bs bb w' S t B:=by
 obtain⟨o,p,U,C,hb,hU,hf⟩:=h;exact⟨o,p,U,C.loc m,hb.same m,hU,fun k hk=>⟨(hf k hk).1,Nat.lt_of_lt_of_le (hf k hk).2.1 m.size,(hf k hk).2.2⟩⟩
theorem mN.less {fx fx':Nat→Prop} (h:mN w0 fx bs bb w S t B) (hs:∀k,fx' k→fx k):mN w0 fx' bs bb w S t B:=by
 obtain⟨o,p,U,C,hb,hU,hf⟩:=h;exact⟨o,p,U,C,hb,fun k hk=>⟨(hU k hk).1,(hU k hk).2.1,fun h=>(hU k hk).2.2 (hs k h)⟩,fun k hk=>hf k (hs k hk)⟩
theorem mN.other {fx fp:Nat→Prop} (h:mN w0 fx bs bb w S t B) (m:aH fp w w') (hfp:∀k,fp k→fx k):mN w0 (fun k=>fx k∨(w.heap.size≤k∧k<w'.heap.size)) bs bb w' S t B:=by
 obtain⟨o,p,U,C,hb,hU,hf⟩:=h;have hz:=m.size;have hz0:=C.same.size;refine⟨o,p,fun k=>U k∧k<w.heap.size,C.modQ m fun k hk=>⟨(hf k (hfp k hk)).1,(hf k (hfp k hk)).2.2⟩,(hb.mono (U':=fun k=>U k∧k<w.heap.size) fun k hk hu=>⟨hu,hk⟩).mod m fun k hk hp=>(hU k hk.1).2.2 (hfp k hp),fun k hk=>⟨(hU k hk.1).1,(hU k hk.1).2.1,fun h=>?_⟩,fun k hk=>?_⟩
 ·rcases h with h | h
  ·exact(hU k hk.1).2.2 h
  ·have:=hk.2; omega
 ·rcases hk with h | h
  ·exact⟨(hf k h).1,by have:=(hf k h).2.1; omega,(hf k h).2.2⟩
  ·exact⟨by omega,h.2,C.hi k h.1⟩
theorem mN.turned {fx:Nat→Prop} {o:dd} {U:Nat→Prop} (C:qZ w0 o w bs p S t) (hb:ij U w bb B) (hU:∀k,U k→w0.heap.size≤k∧o k=none∧¬fx k) (hf:∀k,fx k→w0.heap.size≤k∧k<w.heap.size∧o k=none)
  (T:c7 o w bs S' w') (hG:GS S' t'):mN w0 fx bs bb w' S' t' B∧aH (fun k=>w0.heap.size≤k∧¬fx k) w w':=by
 obtain⟨o',p',C',hk,hm⟩:=C.turnN T hG;have hz:=hm.size;refine⟨⟨o',p',fun k=>U k∧k<w.heap.size,C',(hb.mono (U':=fun k=>U k∧k<w.heap.size) fun k hk hu=>⟨hu,hk⟩).mod hm fun k hk' hne=>hne (hU k hk'.1).2.1,fun k hk'=>⟨(hU k hk'.1).1,hk k hk'.2 (hU k hk'.1).2.1,(hU k hk'.1).2.2⟩,fun k hk'=>⟨(hf k hk').1,by have:=(hf k hk').2.1; omega,hk k (hf k hk').2.1 (hf k hk').2.2⟩⟩,hm.mono fun k _ hne=>⟨?_,fun h=>hne (hf k h).2.2⟩⟩;rcases Nat.lt_or_ge k w0.heap.size with h | h
 ·exact absurd (C.lo k h) hne
 ·exact h
theorem mN.badged {fx:Nat→Prop} {o:dd} {U:Nat→Prop} (C:qZ w0 o w bs p S t) (hU:∀k,U k→w0.heap.size≤k∧o k=none∧¬fx k) (hf:∀k,fx k→w0.heap.size≤k∧k<w.heap.size∧o k=none)
  (hb:ij (fun k=>U k∨w.heap.size≤k) w' bb B') (hm:aH U w w'):mN w0 fx bs bb w' S t B'∧aH (fun k=>w0.heap.size≤k∧¬fx k) w w':=by
 have hz:=hm.size;have hz0:=C.same.size;refine⟨⟨o,p,fun k=>U k∨w.heap.size≤k,C.modQ hm fun k hk=>⟨(hU k hk).1,(hU k hk).2.1⟩,hb,fun k hk=>?_,fun k hk=>⟨(hf k hk).1,by have:=(hf k hk).2.1; omega,(hf k hk).2.2⟩⟩,hm.mono fun k _ hu=>⟨(hU k hu).1,(hU k hu).2.2⟩⟩;rcases hk with h | h
 ·exact hU k h
 ·exact⟨by omega,C.hi k h,fun hx=>by have:=(hf k hx).2.1; omega⟩
structure iw (S:SM) (B:BdM):Prop where
 live:∀x∈B.l,∃i:Nat,x.2.i=(i:Int)∧S.gens[i]?=some (x.2.g,true)
 all:∀(i:Nat) (g:Int),S.gens[i]?=some (g,true)→∃n,∃e:EK,(n,e)∈B.l∧e.i=(i:Int)∧e.g=g
 tm:S.tabs.length=S.masks.length
 cnt:S.free.length+B.l.length=S.gens.length
end
section
def bX (S:SM) (B:BdM):List (Nat×List Part):=B.l.map fun x=>(x.1,partsOf S x.2.i.toNat)
def gt (V:List (Nat×List Part)) (x:Int):Option (Nat×List Part):=V.find? fun y=>decide (((y.1:Nat):Int)=x)
def ln (V:List (Nat×List Part)) (n:Nat) (L:List Part):List (Nat×List Part):=V.map fun y=>if y.1=n then(n,L) else y
theorem mP (S:SM) (B:BdM) (x:Int):gt (bX S B) x=(B.l.find? fun y=>decide (((y.1:Nat):Int)=x)).map fun y=>(y.1,partsOf S y.2.i.toNat):=by
 unfold gt bX;rw[List.find?_map];rfl
theorem KU {B:BdM} (h:B.WF) {a b:Nat×EK} (ha:a∈B.l) (hb:b∈B.l) (e:a.2=b.2):a=b:=by
 obtain⟨i,hi,rfl⟩:=List.mem_iff_getElem.1 ha;obtain⟨j,hj,rfl⟩:=List.mem_iff_getElem.1 hb;have h1:(B.l.map (·.2))[i]?=some (B.l[i]).2:=by rw[List.getElem?_map,List.getElem?_eq_getElem hi]; rfl
 have h2:(B.l.map (·.2))[j]?=some (B.l[j]).2:=by rw[List.getElem?_map,List.getElem?_eq_getElem hj]; rfl
 have hij:i=j:=(List.getElem?_inj (by simpa using hi) h.nd).1 (by rw[h1,e]; exact h2.symm);subst hij; rfl
theorem AE {B:BdM} (h:B.WF) {a b:Nat×EK} (ha:a∈B.l) (hb:b∈B.l) (e:a.1=b.1):a=b:=by
 obtain⟨i,hi,rfl⟩:=List.mem_iff_getElem.1 ha;obtain⟨j,hj,rfl⟩:=List.mem_iff_getElem.1 hb;have hnd:(B.l.map (·.1)).Nodup:=h.asc.imp fun h e=>by omega
 have h1:(B.l.map (·.1))[i]?=some (B.l[i]).1:=by rw[List.getElem?_map,List.getElem?_eq_getElem hi]; rfl
 have h2:(B.l.map (·.1))[j]?=some (B.l[j]).1:=by rw[List.getElem?_map,List.getElem?_eq_getElem hj]; rfl
 have hij:i=j:=(List.getElem?_inj (by simpa using hi) hnd).1 (by rw[h1,e]; exact h2.symm);subst hij; rfl
theorem iw.index (h:iw S B) {a b:Nat×EK} (ha:a∈B.l) (hb:b∈B.l) (e:a.2.i=b.2.i):a.2=b.2:=by
 obtain⟨i,h1,h2⟩:=h.live a ha;obtain⟨j,h3,h4⟩:=h.live b hb;have hij:i=j:=by omega
 subst hij;rw[h2]at h4;have:a.2.g=b.2.g:=by simpa using h4
 exact EK.ext e this
theorem iw.born (h:iw S B) (hfr:S.free≠[]) {L':List Part} {i:Nat} {g:Int} {g0:Int} (hb:D3 S S' L' i g) (hg:S.gens[i]?=some (g0,false)) {e:EK} (h1:e.i=(i:Int)) (h2:e.g=g):iw S' ⟨B.l++[(B.nx,e)],B.nx+1⟩ where
 live x hx:=by
  have hil:=(List.getElem?_eq_some_iff.1 hg).1;rcases List.mem_append.1 hx with hx | hx
  ·obtain⟨j,h3,h4⟩:=h.live x hx;refine⟨j,h3,?_⟩;rw[hb.gens,List.getElem?_set_ne (fun e=>?_)]
   ·exact h4
   ·subst e; rw[hg]at h4; cases h4
  ·have hx:x=(B.nx,e):=by simpa using hx
   subst hx;refine⟨i,h1,?_⟩;rw[hb.gens,List.getElem?_set,if_pos rfl,if_pos hil,h2]
 all j gj hj:=by
  by_cases hji:i=j
  ·subst hji;refine⟨B.nx,e,by simp,h1,?_⟩;rw[hb.gens,List.getElem?_set,if_pos rfl]at hj;split at hj
   ·have:g=gj:=by simpa using hj
    rw[h2,this]
   ·cases hj
  ·rw[hb.gens,List.getElem?_set_ne hji]at hj;obtain⟨n,e',h3,h4,h5⟩:=h.all j gj hj;exact⟨n,e',List.mem_append_left _ h3,h4,h5⟩
 tm:=hb.tabs
 cnt:=by
  have h1:=h.cnt;have h2:0<S.free.length:=List.length_pos_iff.2 hfr;rw[hb.free,hb.gens,List.length_dropLast,List.length_set,List.length_append,List.length_singleton];omega
theorem vV (h:iw S B) {L':List Part} {i:Nat} {g:Int} {g0:Int} (hb:D3 S S' L' i g) (hg:S.gens[i]?=some (g0,false)) {e:EK} (h1:e.i=(i:Int)):bX S' ⟨B.l++[(B.nx,e)],B.nx+1⟩=bX S B++[(B.nx,L')]:=by
 unfold bX;rw[List.map_append];congr 1
 ·apply List.map_congr_left;intro x hx;obtain⟨j,h3,h4⟩:=h.live x hx;rw[h3,Int.toNat_natCast,hb.others j _ (fun e=>?_) h4];subst e; rw[hg]at h4; cases h4
 ·show[(B.nx,partsOf S' e.i.toNat)]=_;rw[h1,Int.toNat_natCast,hb.parts]
end
end Go.Proofs.YtcmijampbjcbgaaGreatDoor
section

end
namespace Go.Proofs.YtcmijampbjcbgaaGreatDoor
open Go Go.Ev Go.Sort Go.RowKit
section
attribute [local irreducible] kO kB bG bH kN kG aA ai aw aB bj knew bB aP ay aE bk aD aU bC bD a8 kbool kint kstr keq kun ksl bz cQ kta kmk kmm ksem ksemU bd aI aL ae kL
theorem AF (h:ij U w b B):af Tryz.prog 42 #[.pointer (some ⟨b,0,none⟩)] w fun v w'=>v=natV B.nx∧w'=w:=by
 obtain⟨bo,bi,sv,h⟩:=h;have hh:=h.here;refine KM ?_;unfold R0;rw[aJ q9];refine ac ?_;refine az rfl ?_;unfold GW;refine aq ?_;refine aa ?_;refine ao (v:=natV B.nx) hh rfl ?_;exact⟨rfl,rfl⟩
end
end Go.Proofs.YtcmijampbjcbgaaGreatDoor
namespace Go.Proofs.YtcmijampbjcbgaaGreatDoor
open Go Go.Ev
section
def oh x2 x3 x8 x10 x11 (Q:PQ) (w:World):=aB 2 x11 w.drew fun v33=>kG (w.drew=w.drew)<|ae Tryz.prog 65 #[] w.drew fun v34 w35=>kG (aB 2 x11 w35 fun v44=>v44=v33∧w35=w35)<|aB 2 x3 w35 fun v36=>kG (w35=w35)<|kG (aB 2 x3 w.drew fun v43=>v43=v36∧w.drew=w.drew)<|ae Tryz.prog 66 #[v36] w35 fun v37 w38=>kG (aB 2 x11 w38 fun v42=>v42=v33∧w38=w38)<|aP [.slice none 0 0,.slice none 0 0,.pointer none,.pointer none,.pointer none,.int .u32 0,.int .i64 0,.int .i64 0,.pointer none] [(0,2,v33),(2,1,x8),(3,1,v34),(4,1,x10),(5,1,v37),(7,1,x2)] fun v39=>knew (Value.cells v39) 109 w38 fun v40 w41=>Q (.tuple #[v40,.nilIface]) w41
def G1 x2 x3 x8 x10 (Q:PQ) (w:World):=(ai 0 x3 fun v21=>aw v21 w.drew fun v22=>kG (w.drew=w.drew)<|ae Tryz.prog 63 #[v22] w.drew fun v23 w24=>(ai 1 x3 fun v25=>aw v25 w24 fun v26=>kG (w24=w24)<|kG (aw v25 w.drew fun v47=>v47=v26∧w.drew=w.drew)<|ae Tryz.prog 64 #[v26] w24 fun v27 w28=>knew #[.slice none 0 0,.slice none 0 0] 70 w28 fun v29 w30=>kG (aw v25 w30 fun v46=>v46=v26∧w30=w30)<|kG (aw v21 w30 fun v45=>v45=v22∧w30=w30)<|aP [.slice none 0 0,.slice none 0 0] [(0,1,v23),(1,1,v27)] fun v31=>bj 2 v29 v31 w30 fun w32=>oh x2 x3 x8 x10 v29 Q w32)∧(knew #[.slice none 0 0,.slice none 0 0] 70 w24 fun v48 w49=>kG (aw v21 w49 fun v58=>v58=v22∧w49=w49)<|ai 1 x3 fun v50=>aw v50 w49 fun v51=>kG (w49=w49)<|kG (aw v50 w24 fun v57=>v57=v51∧w24=w24)<|kG (aw v50 w.drew fun v56=>v56=v51∧w.drew=w.drew)<|ae Tryz.prog 64 #[v51] w49 fun v52 w53=>aP [.slice none 0 0,.slice none 0 0] [(0,1,v23),(1,1,v52)] fun v54=>bj 2 v48 v54 w53 fun w55=>oh x2 x3 x8 x10 v48 Q w55))∧(knew #[.slice none 0 0,.slice none 0 0] 70 w.drew fun v59 w60=>ai 0 x3 fun v61=>aw v61 w60 fun v62=>kG (w60=w60)<|kG (aw v61 w.drew fun v73=>v73=v62∧w.drew=w.drew)<|ae Tryz.prog 63 #[v62] w60 fun v63 w64=>ai 1 x3 fun v65=>aw v65 w64 fun v66=>kG (w64=w64)<|kG (aw v65 w60 fun v72=>v72=v66∧w60=w60)<|kG (aw v65 w.drew fun v71=>v71=v66∧w.drew=w.drew)<|ae Tryz.prog 64 #[v66] w64 fun v67 w68=>aP [.slice none 0 0,.slice none 0 0] [(0,1,v63),(1,1,v67)] fun v69=>bj 2 v59 v69 w68 fun w70=>oh x2 x3 x8 x10 v59 Q w70)
def G2 x2 x3 x8 (Q:PQ) w:=aB 2 x3 w fun v12=>ae Tryz.prog 62 #[v12] w fun v13 w14=>aE v13 0 fun v15=>aE v13 1 fun v16=>keq Tryz.prog .neq 37 false true v16 .nilIface w14 fun v17 w18=>kB v17 fun b74=>aA b74 (ae Tryz.prog 61 #[v16] w18 fun v19 w20=>Q (.tuple #[.pointer none,v19]) w20) (G1 x2 x3 x8 v15 Q w18)
def f29 x0 x1 x2 (Q:PQ) w:=knew (Value.cells x0) 70 w fun v1 w2=>aB 2 v1 w2 fun v3=>ae Tryz.prog 60 #[v3,x1] w2 fun v4 w5=>aE v4 0 fun v6=>aE v4 1 fun v7=>keq Tryz.prog .neq 37 false true v7 .nilIface w5 fun v8 w9=>kB v8 fun b75=>aA b75 (ae Tryz.prog 61 #[v7] w9 fun v10 w11=>Q (.tuple #[.pointer none,v10]) w11) (G2 x2 v1 v6 Q w9)
theorem KV (h:f29 x0 x1 x2 Q w):af Tryz.prog 29 #[x0,x1,x2] w Q :=
 ax (c:=Tryz.f29.body.get rfl) [] Tryz.func29 rfl rfl (args:=[x0,x1,x2]) rfl (by kernel_rfl) h
def R2 x0 (Q:PQ) w:=ae Tryz.prog 80 #[(.string ⟨#[119,111,114,108,100]⟩),x0] w fun v1 w2=>Q v1 w2
theorem KW (h:R2 x0 Q w):af Tryz.prog 61 #[x0] w Q :=
 ax (c:=Tryz.f61.body.get rfl) [] Tryz.func61 rfl rfl (args:=[x0]) rfl (by kernel_rfl) h
def R3 x0 x1 (Q:PQ) w:=knew (Value.cells x1) 155 w fun v1 w2=>kN x0<|ai 8 x0 fun v3=>aw v3 w2 fun v4=>keq Tryz.prog .neq 107 false true v4 (.pointer none) w2 fun v5 w6=>kB v5 fun b12=>aA b12 (kN x0<|ai 8 x0 fun v7=>aw v7 w6.drew fun v8=>kG (w6.drew=w6.drew)<|aB 11 v1 w6.drew fun v9=>kG (w6.drew=w6.drew)<|ae Tryz.prog 113 #[v8,v9] w6.drew fun v10 w11=>Q (.tuple #[]) w11) (Q (.tuple #[]) w6)
theorem KX (h:R3 x0 x1 Q w):af Tryz.prog 70 #[x0,x1] w Q :=
 ax (c:=Tryz.f70.body.get rfl) [] Tryz.func70 rfl rfl (args:=[x0,x1]) rfl (by kernel_rfl) h
def Oy x0 x1 x2 x3 (Q:PQ) w:=knew (Value.cells x3) 95 w fun v1 w2=>kN x0<|ai 5 x0 fun v3=>aw v3 w2.drew fun v4=>kG (w2.drew=w2.drew)<|ai 0 v1 fun v5=>aw v5 w2.drew fun v6=>kG (w2.drew=w2.drew)<|ae Tryz.prog 41 #[v4,v6] w2.drew fun v7 w8=>kB v7 fun b13=>aA b13 (aB 6 v1 w8 fun v9=>aP [.int .i64 0,.int .i64 0,.int .i64 0,.int .i64 0,.int .i64 0,.int .i64 0,.int .i64 0,.int .i64 0,.slice none 0 0,.int .i64 0,.int .i64 0] [(0,1,x1),(1,1,x2),(2,6,v9)] fun v10=>ae Tryz.prog 70 #[x0,v10] w8 fun v11 w12=>Q (.tuple #[]) w12) (Q (.tuple #[]) w8)
theorem Eu (h:Oy x0 x1 x2 x3 Q w):af Tryz.prog 177 #[x0,x1,x2,x3] w Q :=
 ax (c:=Tryz.f177.body.get rfl) [] Tryz.func177 rfl rfl (args:=[x0,x1,x2,x3]) rfl (by kernel_rfl) h
def G3 x4 x6 (Q:PQ) w:=aB 2 x6 w fun v27=>bj 2 x4 v27 w fun w28=>aB 2 x4 w28 fun v29=>Q (.tuple #[v29,.nilIface]) w28
def AG x0 x1 x4 (Q:PQ) w:=kN x0<|ai 3 x0 fun v11=>aw v11 w fun v12=>ae Tryz.prog 142 #[v12,x1] w fun v13 w14=>aE v13 0 fun v15=>aE v13 1 fun v16=>knew #[.int .i64 0,.int .i64 0] 157 w14 fun v17 w18=>bj 2 v17 v15 w18 fun w19=>kun .not (some .bool) v16 fun v20=>kB v20 fun b30=>aA b30 (aP [.int .i64 0,.int .i64 0] [] fun v21=>aw (.pointer (some ⟨16,0,none⟩)) w19 fun v22=>ae Tryz.prog 61 #[v22] w19 fun v23 w24=>bj 2 x4 v21 w24 fun w25=>aB 2 x4 w25 fun v26=>Q (.tuple #[v26,v23]) w25) (G3 x4 v17 Q w19)
def Qh x0 x1 (Q:PQ) w:=knew #[.int .i64 0,.int .i64 0] 157 w fun v1 w2=>keq Tryz.prog .eql 40 false true x0 (.pointer none) w2 fun v3 w4=>kB v3 fun b31=>aA b31 (aP [.int .i64 0,.int .i64 0] [] fun v5=>aw (.pointer (some ⟨2,0,none⟩)) w4 fun v6=>ae Tryz.prog 61 #[v6] w4 fun v7 w8=>bj 2 v1 v5 w8 fun w9=>aB 2 v1 w9 fun v10=>Q (.tuple #[v10,v7]) w9) (AG x0 x1 v1 Q w4)
theorem sU (h:Qh x0 x1 Q w):af Tryz.prog 97 #[x0,x1] w Q :=
 ax (c:=Tryz.f97.body.get rfl) [] Tryz.func97 rfl rfl (args:=[x0,x1]) rfl (by kernel_rfl) h
def G4 x0 x8 x9 (Q:PQ) w:=aP [.int .i64 0,.int .i64 0,.int .i64 0,.int .i64 0,.int .i64 0,.int .i64 0,.int .i64 0,.int .i64 0,.slice none 0 0,.int .i64 0,.int .i64 0] [(0,1,(.int .i64 7)),(10,1,x8)] fun v39=>ae Tryz.prog 70 #[x0,v39] w fun v40 w41=>aP [.int .i64 0,.int .i64 0,.int .i64 0,.int .i64 0,.int .i64 0,.int .i64 0,.int .i64 0,.int .i64 0,.slice none 0 0,.int .i64 0,.int .i64 0] [(0,1,(.int .i64 2)),(1,1,x9)] fun v42=>ae Tryz.prog 70 #[x0,v42] w41 fun v43 w44=>Q (.tuple #[x9,.nilIface]) w44
def G5 x0 x6 (Q:PQ) w:=kN x0<|ai 3 x0 fun v19=>aw v19 w fun v20=>ae Tryz.prog 42 #[v20] w fun v21 w22=>kN x0<|ai 3 x0 fun v23=>aw v23 w22.drew fun v24=>kG (w22.drew=w22.drew)<|aB 2 x6 w22.drew fun v25=>kG (w22.drew=w22.drew)<|ae Tryz.prog 73 #[v24,v25] w22.drew fun v26 w27=>aE v26 0 fun v28=>aE v26 1 fun v29=>keq Tryz.prog .neq 37 false true v29 .nilIface w27 fun v30 w31=>kB v30 fun b45=>aA b45 (kN x0<|ai 2 x0 fun v32=>aw v32 w31.drew fun v33=>kG (w31.drew=w31.drew)<|aB 2 x6 w31.drew fun v34=>kG (w31.drew=w31.drew)<|ae Tryz.prog 74 #[v33,v34] w31.drew fun v35 w36=>ae Tryz.prog 61 #[v29] w36 fun v37 w38=>Q (.tuple #[.int .i64 0,v37]) w38) (G4 x0 v21 v28 Q w31)
def G6 x0 x1 (Q:PQ) w:=kN x0<|ai 2 x0 fun v6=>aw v6 w fun v7=>ae Tryz.prog 72 #[v7,x1] w fun v8 w9=>aE v8 0 fun v10=>aE v8 1 fun v11=>knew #[.int .i64 0,.int .i64 0] 157 w9 fun v12 w13=>bj 2 v12 v10 w13 fun w14=>keq Tryz.prog .neq 37 false true v11 .nilIface w14 fun v15 w16=>kB v15 fun b46=>aA b46 (ae Tryz.prog 61 #[v11] w16 fun v17 w18=>Q (.tuple #[.int .i64 0,v17]) w18) (G5 x0 v12 Q w16)
def R4 x0 x1 (Q:PQ) w:=keq Tryz.prog .eql 40 false true x0 (.pointer none) w fun v1 w2=>kB v1 fun b47=>aA b47 (aw (.pointer (some ⟨2,0,none⟩)) w2 fun v3=>ae Tryz.prog 61 #[v3] w2 fun v4 w5=>Q (.tuple #[.int .i64 0,v4]) w5) (G6 x0 x1 Q w2)
theorem KY (h:R4 x0 x1 Q w):af Tryz.prog 36 #[x0,x1] w Q :=
 ax (c:=Tryz.f36.body.get rfl) [] Tryz.func36 rfl rfl (args:=[x0,x1]) rfl (by kernel_rfl) h
def AH x6 x10 (Q:PQ) w:=aB 6 x10 w fun v32=>bj 6 x6 v32 w fun w33=>aB 6 x6 w33 fun v34=>Q (.tuple #[v34,.nilIface]) w33
def kC x6 x9 x10 (Q:PQ) w:=keq Tryz.prog .neq 37 false true x9 .nilIface w fun v25 w26=>kB v25 fun b35=>aA b35 (aP [.int .i64 0,.int .i64 0,.int .i64 0,.int .i64 0,.int .i64 0,.int .i64 0] [] fun v27=>ae Tryz.prog 61 #[x9] w26 fun v28 w29=>bj 6 x6 v27 w29 fun w30=>aB 6 x6 w30 fun v31=>Q (.tuple #[v31,v28]) w30) (AH x6 x10 Q w26)
def sV x0 x2 x6 x8 (Q:PQ) (w:World):=(kN x0<|ai 2 x0 fun v15=>aw v15 w.drew fun v16=>kG (w.drew=w.drew)<|aB 2 x8 w.drew fun v17=>kG (w.drew=w.drew)<|ae Tryz.prog 204 #[v16,v17,x2] w.drew fun v18 w19=>knew #[.int .i64 0,.int .i64 0,.int .i64 0,.int .i64 0,.int .i64 0,.int .i64 0] 95 w19 fun v20 w21=>kG (aB 2 x8 w21 fun v37=>v37=v17∧w21=w21)<|kG (aw v15 w21 fun v36=>v36=v16∧w21=w21)<|aE v18 0 fun v22=>bj 6 v20 v22 w21 fun w23=>aE v18 1 fun v24=>kC x6 v24 v20 Q w23)∧(knew #[.int .i64 0,.int .i64 0,.int .i64 0,.int .i64 0,.int .i64 0,.int .i64 0] 95 w.drew fun v38 w39=>kN x0<|ai 2 x0 fun v40=>aw v40 w39 fun v41=>kG (w39=w39)<|kG (aw v40 w.drew fun v49=>v49=v41∧w.drew=w.drew)<|aB 2 x8 w39 fun v42=>kG (w39=w39)<|kG (aB 2 x8 w.drew fun v48=>v48=v42∧w.drew=w.drew)<|ae Tryz.prog 204 #[v41,v42,x2] w39 fun v43 w44=>aE v43 0 fun v45=>bj 6 v38 v45 w44 fun w46=>aE v43 1 fun v47=>kC x6 v47 v38 Q w46)
def Ew x0 x1 x2 (Q:PQ) w:=knew #[.int .i64 0,.int .i64 0,.int .i64 0,.int .i64 0,.int .i64 0,.int .i64 0] 95 w fun v1 w2=>ae Tryz.prog 97 #[x0,x1] w2 fun v3 w4=>aE v3 0 fun v5=>aE v3 1 fun v6=>knew #[.int .i64 0,.int .i64 0] 157 w4 fun v7 w8=>bj 2 v7 v5 w8 fun w9=>keq Tryz.prog .neq 37 false true v6 .nilIface w9 fun v10 w11=>kB v10 fun b50=>aA b50 (aP [.int .i64 0,.int .i64 0,.int .i64 0,.int .i64 0,.int .i64 0,.int .i64 0] [] fun v12=>bj 6 v1 v12 w11 fun w13=>aB 6 v1 w13 fun v14=>Q (.tuple #[v14,v6]) w13) (sV x0 x2 v1 v7 Q w11)
theorem pC (h:Ew x0 x1 x2 Q w):af Tryz.prog 173 #[x0,x1,x2] w Q :=
 ax (c:=Tryz.f173.body.get rfl) [] Tryz.func173 rfl rfl (args:=[x0,x1,x2]) rfl (by kernel_rfl) h
def G7 x8 (Q:PQ) w:=Q (.tuple #[x8,.nilIface]) w
def G8 x0 x6 (Q:PQ) (w:World):=kN x0<|ai 2 x0 fun v10=>aw v10 w.drew fun v11=>kG (w.drew=w.drew)<|aB 2 x6 w.drew fun v12=>kG (w.drew=w.drew)<|ae Tryz.prog 98 #[v11,v12] w.drew fun v13 w14=>aE v13 0 fun v15=>aE v13 1 fun v16=>keq Tryz.prog .neq 37 false true v16 .nilIface w14 fun v17 w18=>kB v17 fun b21=>aA b21 (ae Tryz.prog 61 #[v16] w18 fun v19 w20=>Q (.tuple #[.slice none 0 0,v19]) w20) (G7 v15 Q w18)
def R5 x0 x1 (Q:PQ) w:=ae Tryz.prog 97 #[x0,x1] w fun v1 w2=>aE v1 0 fun v3=>aE v1 1 fun v4=>knew #[.int .i64 0,.int .i64 0] 157 w2 fun v5 w6=>bj 2 v5 v3 w6 fun w7=>keq Tryz.prog .neq 37 false true v4 .nilIface w7 fun v8 w9=>kB v8 fun b22=>aA b22 (Q (.tuple #[.slice none 0 0,v4]) w9) (G8 x0 v5 Q w9)
theorem KZ (h:R5 x0 x1 Q w):af Tryz.prog 56 #[x0,x1] w Q :=
 ax (c:=Tryz.f56.body.get rfl) [] Tryz.func56 rfl rfl (args:=[x0,x1]) rfl (by kernel_rfl) h
def AI x0 (Q:PQ) w:=kN x0<|ai 6 x0 fun v3=>aw v3 w fun v4=>Q v4 w
def K0 x0 (Q:PQ) w:=keq Tryz.prog .eql 40 false true x0 (.pointer none) w fun v1 w2=>kB v1 fun b5=>aA b5 (Q (.int .i64 0) w2) (AI x0 Q w2)
theorem ug (h:K0 x0 Q w):af Tryz.prog 130 #[x0] w Q :=
 ax (c:=Tryz.f130.body.get rfl) [] Tryz.func130 rfl rfl (args:=[x0]) rfl (by kernel_rfl) h
def AJ x0 x1 x13 (Q:PQ) w:=aB 6 x13 w fun v26=>ae Tryz.prog 177 #[x0,.int .i64 1,x1,v26] w fun v27 w28=>Q .nilIface w28
def pD x0 x1 x12 x13 (Q:PQ) w:=keq Tryz.prog .neq 37 false true x12 .nilIface w fun v22 w23=>kB v22 fun b29=>aA b29 (ae Tryz.prog 61 #[x12] w23 fun v24 w25=>Q v24 w25) (AJ x0 x1 x13 Q w23)
def AK x0 x1 x2 x3 x4 x11 (Q:PQ) (w:World):=(kN x0<|ai 2 x0 fun v10=>aw v10 w.drew fun v11=>kG (w.drew=w.drew)<|aB 2 x11 w.drew fun v12=>kG (w.drew=w.drew)<|kN x0<|ai 6 x0 fun v13=>aw v13 w.drew fun v14=>kG (w.drew=w.drew)<|ae Tryz.prog 176 #[v11,v12,x2,x3,x4,v14] w.drew fun v15 w16=>knew #[.int .i64 0,.int .i64 0,.int .i64 0,.int .i64 0,.int .i64 0,.int .i64 0] 95 w16 fun v17 w18=>kG (aw v13 w18 fun v32=>v32=v14∧w18=w18)<|kG (aB 2 x11 w18 fun v31=>v31=v12∧w18=w18)<|kG (aw v10 w18 fun v30=>v30=v11∧w18=w18)<|aE v15 0 fun v19=>bj 6 v17 v19 w18 fun w20=>aE v15 1 fun v21=>pD x0 x1 v21 v17 Q w20)∧(knew #[.int .i64 0,.int .i64 0,.int .i64 0,.int .i64 0,.int .i64 0,.int .i64 0] 95 w.drew fun v33 w34=>kN x0<|ai 2 x0 fun v35=>aw v35 w34 fun v36=>kG (w34=w34)<|kG (aw v35 w.drew fun v47=>v47=v36∧w.drew=w.drew)<|aB 2 x11 w34 fun v37=>kG (w34=w34)<|kG (aB 2 x11 w.drew fun v46=>v46=v37∧w.drew=w.drew)<|kN x0<|ai 6 x0 fun v38=>aw v38 w34 fun v39=>kG (w34=w34)<|kG (aw v38 w.drew fun v45=>v45=v39∧w.drew=w.drew)<|ae Tryz.prog 176 #[v36,v37,x2,x3,x4,v39] w34 fun v40 w41=>aE v40 0 fun v42=>bj 6 v33 v42 w41 fun w43=>aE v40 1 fun v44=>pD x0 x1 v44 v33 Q w43)
def K1 x0 x1 x2 x3 x4 (Q:PQ) w:=ae Tryz.prog 97 #[x0,x1] w fun v1 w2=>aE v1 0 fun v3=>aE v1 1 fun v4=>knew #[.int .i64 0,.int .i64 0] 157 w2 fun v5 w6=>bj 2 v5 v3 w6 fun w7=>keq Tryz.prog .neq 37 false true v4 .nilIface w7 fun v8 w9=>kB v8 fun b48=>aA b48 (Q v4 w9) (AK x0 x1 x2 x3 x4 v5 Q w9)
theorem uh (h:K1 x0 x1 x2 x3 x4 Q w):af Tryz.prog 132 #[x0,x1,x2,x3,x4] w Q :=
 ax (c:=Tryz.f132.body.get rfl) [] Tryz.func132 rfl rfl (args:=[x0,x1,x2,x3,x4]) rfl (by kernel_rfl) h
def AL x0 x1 x7 (Q:PQ) w:=aP [.int .i64 0,.int .i64 0,.int .i64 0,.int .i64 0,.int .i64 0,.int .i64 0,.int .i64 0,.int .i64 0,.slice none 0 0,.int .i64 0,.int .i64 0] [(0,1,(.int .i64 6)),(9,1,x1),(10,1,x7)] fun v16=>ae Tryz.prog 70 #[x0,v16] w fun v17 w18=>Q .nilIface w18
def AM x0 x1 x2 (Q:PQ) w:=kN x0<|ai 4 x0 fun v6=>aw v6 w fun v7=>ae Tryz.prog 178 #[v7,x1,x2] w fun v8 w9=>aE v8 0 fun v10=>aE v8 1 fun v11=>keq Tryz.prog .neq 37 false true v11 .nilIface w9 fun v12 w13=>kB v12 fun b19=>aA b19 (ae Tryz.prog 61 #[v11] w13 fun v14 w15=>Q v14 w15) (AL x0 x1 v10 Q w13)
def K2 x0 x1 x2 (Q:PQ) w:=keq Tryz.prog .eql 40 false true x0 (.pointer none) w fun v1 w2=>kB v1 fun b20=>aA b20 (aw (.pointer (some ⟨2,0,none⟩)) w2 fun v3=>ae Tryz.prog 61 #[v3] w2 fun v4 w5=>Q v4 w5) (AM x0 x1 x2 Q w2)
theorem uj (h:K2 x0 x1 x2 Q w):af Tryz.prog 133 #[x0,x1,x2] w Q :=
 ax (c:=Tryz.f133.body.get rfl) [] Tryz.func133 rfl rfl (args:=[x0,x1,x2]) rfl (by kernel_rfl) h
def AN x0 x1 (Q:PQ) w:=kN x0<|ai 7 x0 fun v6=>aw v6 w fun v7=>aP [.int .i64 0,.int .i64 0,.int .i64 0,.int .i64 0,.int .i64 0,.int .i64 0,.int .i64 0,.int .i64 0,.slice none 0 0,.int .i64 0,.int .i64 0] [(0,1,(.int .i64 8)),(10,1,v7)] fun v8=>ae Tryz.prog 70 #[x0,v8] w fun v9 w10=>kN x0<|ai 7 x0 fun v11=>aw v11 w10 fun v12=>ae Tryz.prog 175 #[v12,x1] w10 fun v13 w14=>aE v13 0 fun v15=>aE v13 1 fun v16=>kN x0<|ai 7 x0 fun v17=>bj 1 v17 v15 w14 fun w18=>Q (.tuple #[v16,.nilIface]) w18
def K3 x0 x1 (Q:PQ) w:=keq Tryz.prog .eql 40 false true x0 (.pointer none) w fun v1 w2=>kB v1 fun b19=>aA b19 (aw (.pointer (some ⟨2,0,none⟩)) w2 fun v3=>ae Tryz.prog 61 #[v3] w2 fun v4 w5=>Q (.tuple #[.int .i64 0,v4]) w5) (AN x0 x1 Q w2)
theorem uk (h:K3 x0 x1 Q w):af Tryz.prog 131 #[x0,x1] w Q :=
 ax (c:=Tryz.f131.body.get rfl) [] Tryz.func131 rfl rfl (args:=[x0,x1]) rfl (by kernel_rfl) h
def G9 x0 (Q:PQ) w:=kN x0<|ai 6 x0 fun v12=>aw v12 w fun v13=>aP [.int .i64 0,.int .i64 0,.int .i64 0,.int .i64 0,.int .i64 0,.int .i64 0,.int .i64 0,.int .i64 0,.slice none 0 0,.int .i64 0,.int .i64 0] [(0,1,(.int .i64 9)),(10,1,v13)] fun v14=>ae Tryz.prog 70 #[x0,v14] w fun v15 w16=>kN x0<|ai 6 x0 fun v17=>aw v17 w16 fun v18=>kint .i64 .add v18 (.int .i64 1) fun v19=>kN x0<|ai 6 x0 fun v20=>bj 1 v20 v19 w16 fun w21=>Q .nilIface w21
def R6 x0 (Q:PQ) w:=keq Tryz.prog .eql 40 false true x0 (.pointer none) w fun v1 w2=>kB v1 fun b23=>aA b23 (aw (.pointer (some ⟨2,0,none⟩)) w2 fun v3=>ae Tryz.prog 61 #[v3] w2 fun v4 w5=>Q v4 w5) (kN x0<|ai 6 x0 fun v6=>aw v6 w2 fun v7=>kint .i64 .geq v7 (.int .i64 1073741824) fun v8=>kB v8 fun b22=>aA b22 (aw (.pointer (some ⟨4,0,none⟩)) w2 fun v9=>ae Tryz.prog 61 #[v9] w2 fun v10 w11=>Q v10 w11) (G9 x0 Q w2))
theorem K4 (h:R6 x0 Q w):af Tryz.prog 34 #[x0] w Q :=
 ax (c:=Tryz.f34.body.get rfl) [] Tryz.func34 rfl rfl (args:=[x0]) rfl (by kernel_rfl) h
def AO x0 x1 (Q:PQ) w:=kN x0<|ai 4 x0 fun v3=>aw v3 w fun v4=>ae Tryz.prog 174 #[v4,x1] w fun v5 w6=>aE v5 0 fun v7=>aE v5 1 fun v8=>Q (.tuple #[v7,v8]) w6
def K5 x0 x1 (Q:PQ) w:=keq Tryz.prog .eql 40 false true x0 (.pointer none) w fun v1 w2=>kB v1 fun b9=>aA b9 (Q (.tuple #[.int .i64 0,.bool false]) w2) (AO x0 x1 Q w2)
theorem ul (h:K5 x0 x1 Q w):af Tryz.prog 129 #[x0,x1] w Q :=
 ax (c:=Tryz.f129.body.get rfl) [] Tryz.func129 rfl rfl (args:=[x0,x1]) rfl (by kernel_rfl) h
def AP x1 x6 x7 (Q:PQ) (w:World):=bk .u64 x1 fun v6=>kint .u64 .rem x7 v6 fun v7=>bk .i64 v7 fun v8=>Q (.tuple #[x6,v8]) w.drew
def Oz x0 x1 (Q:PQ) w:=ae Tryz.prog 206 #[x0] w fun v1 w2=>aE v1 0 fun v3=>aE v1 1 fun v4=>kint .i64 .leq x1 (.int .i64 0) fun v5=>kB v5 fun b9=>aA b9 (Q (.tuple #[v3,.int .i64 0]) w2) (AP x1 v3 v4 Q w2)
theorem Ex (h:Oz x0 x1 Q w):af Tryz.prog 175 #[x0,x1] w Q :=
 ax (c:=Tryz.f175.body.get rfl) [] Tryz.func175 rfl rfl (args:=[x0,x1]) rfl (by kernel_rfl) h
def OA x0 (Q:PQ) w:=ae Tryz.prog 217 #[x0,.int .i64 1] w fun v1 w2=>bk .u64 v1 fun v3=>ae Tryz.prog 218 #[v3] w2 fun v4 w5=>Q (.tuple #[v1,v4]) w5
theorem Ey (h:OA x0 Q w):af Tryz.prog 206 #[x0] w Q :=
 ax (c:=Tryz.f206.body.get rfl) [] Tryz.func206 rfl rfl (args:=[x0]) rfl (by kernel_rfl) h
def OB x0 x1 (Q:PQ) w:=bk .u64 x0 fun v1=>bk .u64 x1 fun v2=>kint .u64 .mul v2 (.int .u64 11400714819323198485) fun v3=>kint .u64 .add v1 v3 fun v4=>bk .i64 v4 fun v5=>Q v5 w
theorem Ez (h:OB x0 x1 Q w):af Tryz.prog 217 #[x0,x1] w Q :=
 ax (c:=Tryz.f217.body.get rfl) [] Tryz.func217 rfl rfl (args:=[x0,x1]) rfl (by kernel_rfl) h
def OD x0 (Q:PQ) w:=kint .u64 .shr x0 (.int .u64 30) fun v1=>kint .u64 .xor x0 v1 fun v2=>kint .u64 .mul v2 (.int .u64 13787848793156543929) fun v3=>kint .u64 .shr v3 (.int .u64 27) fun v4=>kint .u64 .xor v3 v4 fun v5=>kint .u64 .mul v5 (.int .u64 10723151780598845931) fun v6=>kint .u64 .shr v6 (.int .u64 31) fun v7=>kint .u64 .xor v6 v7 fun v8=>Q v8 w
theorem EA (h:OD x0 Q w):af Tryz.prog 218 #[x0] w Q :=
 ax (c:=Tryz.f218.body.get rfl) [] Tryz.func218 rfl rfl (args:=[x0]) rfl (by kernel_rfl) h
def AQ (x0:Value) x2 (x13 x14:Value) x15 (J4:Value→Value→World→Prop) (Q:PQ) w:=kint .i64 .add x15 (.int .i64 1) fun v18=>J4 x2 v18 w
def Ha x0 x2 x4 x5 x13 x14 x15 (J4:Value→Value→World→Prop) (Q:PQ) w:=aP [.int .i64 0,.slice none 0 0] [(0,1,x4),(1,1,x5)] fun v19=>ay [.int .i64 0,.slice none 0 0] 1 [(0,2,v19)] 101 w fun v20 w21=>ksem Tryz.prog (Builtin.append_ #[48,48] 0 #[x2,v20]) w21 fun v22 w23=>AQ x0 v22 x13 x14 x15 J4 Q w23
def Hb x0 x2 x13 x14 x15 (J4:Value→Value→World→Prop) (Q:PQ) w:=bz (some (.slice 3)) (some 1) x13 x15 fun v10=>aw v10 w fun v11=>ae Tryz.prog 56 #[x0,v11] w fun v12 w13=>aE v12 0 fun v14=>aE v12 1 fun v15=>keq Tryz.prog .neq 37 false true v15 .nilIface w13 fun v16 w17=>kB v16 fun b24=>aA b24 (AQ x0 x2 x13 x14 x15 J4 Q w17) (Ha x0 x2 v11 v14 x13 x14 x15 J4 Q w17)
def Hc x2 (Q:PQ) w:=Q x2 w
def Hd x2 x15 x0 x13 x14 (J4:Value→Value→World→Prop) (Q:PQ) w:=kint .i64 .lss x15 x14 fun v9=>kB v9 fun b25=>aA b25 (Hb x0 x2 x13 x14 x15 J4 Q w) (Hc x2 Q w)
def He x0 x2 (Q:PQ) w:=kN x0<|ai 3 x0 fun v3=>aw v3 w fun v4=>ae Tryz.prog 55 #[v4] w fun v5 w6=>aU v5 fun v7=>kL fun(I:Value→Value→World→Prop) (μ:Value→Value→World→Nat)=>I x2 (.int .i64 0) w6∧∀(x2 x15:Value) (w1:World),I x2 x15 w1→Hd x2 x15 x0 v5 v7 (fun y2 y15 w2=>I y2 y15 w2∧μ y2 y15 w2<μ x2 x15 w1) Q w1
def f24 x0 (Q:PQ) w:=keq Tryz.prog .eql 40 false true x0 (.pointer none) w fun v1 w2=>kB v1 fun b26=>aA b26 (Q (.slice none 0 0) w2) (He x0 (.slice none 0 0) Q w2)
theorem K6 (h:f24 x0 Q w):af Tryz.prog 24 #[x0] w Q :=
 ax (c:=Tryz.f24.body.get rfl) [(4,[2,15])] Tryz.func24 rfl rfl (args:=[x0]) rfl (by kernel_rfl) h
def Hf (x1 x2 x3 x12:Value) x13 (J5:Value→World→Prop) (Q:PQ) w:=kint .i64 .add x13 (.int .i64 1) fun v24=>J5 v24 w
def Hg x1 x2 x3 x12 x13 (J5:Value→World→Prop) (Q:PQ) w:=bz (some (.slice 101)) (some 2) x3 x13 fun v17=>kN v17<|ai 1 v17 fun v18=>aw v18 w fun v19=>ae Tryz.prog 39 #[v19,(.func (.func 40) #[] #[x1])] w fun v20 w21=>kN v17<|ai 1 v17 fun v22=>bj 1 v22 v20 w21 fun w23=>Hf x1 x2 x3 x12 x13 J5 Q w23
def Hh x1 x2 x3 (Q:PQ) (w:World):=aw x1 w.drew fun v25=>kG (w.drew=w.drew)<|kN v25<|ai 6 v25 fun v26=>aw v26 w.drew fun v27=>kG (w.drew=w.drew)<|aw x1 w.drew fun v28=>kG (w.drew=w.drew)<|kN v28<|ai 3 v28 fun v29=>aw v29 w.drew fun v30=>kG (w.drew=w.drew)<|ae Tryz.prog 42 #[v30] w.drew fun v31 w32=>kG (aw v26 w32 fun v53=>v53=v27∧w32=w32)<|kG (aw x1 w32 fun v52=>v52=v25∧w32=w32)<|aw x1 w32 fun v33=>kG (w32=w32)<|kG (aw x1 w.drew fun v51=>v51=v33∧w.drew=w.drew)<|kN v33<|ai 7 v33 fun v34=>aw v34 w32 fun v35=>kG (w32=w32)<|kG (aw v34 w.drew fun v50=>v50=v35∧w.drew=w.drew)<|aw x1 w32 fun v36=>kG (w32=w32)<|kG (aw x1 w.drew fun v49=>v49=v36∧w.drew=w.drew)<|kN v36<|ai 4 v36 fun v37=>aw v37 w32 fun v38=>kG (w32=w32)<|kG (aw v37 w.drew fun v48=>v48=v38∧w.drew=w.drew)<|ae Tryz.prog 43 #[v38] w32 fun v39 w40=>kG (aw v34 w40 fun v47=>v47=v35∧w40=w40)<|kG (aw x1 w40 fun v46=>v46=v33∧w40=w40)<|kG (aw v26 w40 fun v45=>v45=v27∧w40=w40)<|kG (aw x1 w40 fun v44=>v44=v25∧w40=w40)<|aP [.int .i64 0,.int .i64 0,.int .i64 0,.slice none 0 0,.slice none 0 0] [(0,1,v27),(1,1,v31),(2,1,v35),(3,1,x3),(4,1,v39)] fun v41=>bj 5 x2 v41 w40 fun w42=>aB 5 x2 w42 fun v43=>Q v43 w42
def Hi x13 x1 x2 x3 x12 (J5:Value→World→Prop) (Q:PQ) w:=kint .i64 .lss x13 x12 fun v16=>kB v16 fun b54=>aA b54 (Hg x1 x2 x3 x12 x13 J5 Q w) (Hh x1 x2 x3 Q w)
def Hj x1 x2 (Q:PQ) w:=aw x1 w fun v11=>ae Tryz.prog 24 #[v11] w fun v12 w13=>aU v12 fun v14=>kL fun(I:Value→World→Prop) (μ:Value→World→Nat)=>I (.int .i64 0) w13∧∀(x13:Value) (w1:World),I x13 w1→Hi x13 x1 x2 v12 v14 (fun y13 w2=>I y13 w2∧μ y13 w2<μ x13 w1) Q w1
def R7 x0 (Q:PQ) w:=knew (Value.cells x0) 40 w fun v1 w2=>knew #[.int .i64 0,.int .i64 0,.int .i64 0,.slice none 0 0,.slice none 0 0] 51 w2 fun v3 w4=>aw v1 w4 fun v5=>keq Tryz.prog .eql 40 false true v5 (.pointer none) w4 fun v6 w7=>kB v6 fun b55=>aA b55 (aP [.int .i64 0,.int .i64 0,.int .i64 0,.slice none 0 0,.slice none 0 0] [] fun v8=>bj 5 v3 v8 w7 fun w9=>aB 5 v3 w9 fun v10=>Q v10 w9) (Hj v1 v3 Q w7)
theorem K7 (h:R7 x0 Q w):af Tryz.prog 12 #[x0] w Q :=
 ax (c:=Tryz.f12.body.get rfl) [(5,[13])] Tryz.func12 rfl rfl (args:=[x0]) rfl (by kernel_rfl) h
def R8 x0 x1 (Q:PQ) w:=knew (Value.cells x0) 95 w fun v1 w2=>aw x1 w2.drew fun v3=>kG (w2.drew=w2.drew)<|kN v3<|ai 5 v3 fun v4=>aw v4 w2.drew fun v5=>kG (w2.drew=w2.drew)<|ai 0 v1 fun v6=>aw v6 w2.drew fun v7=>kG (w2.drew=w2.drew)<|ae Tryz.prog 41 #[v5,v7] w2.drew fun v8 w9=>kun .not (some .bool) v8 fun v10=>Q v10 w9
theorem K8 (h:R8 x0 x1 Q w):af Tryz.prog 40 #[x0,x1] w Q :=
 ax (c:=Tryz.f40.body.get rfl) [] Tryz.func40 rfl rfl (args:=[x0,x1]) rfl (by kernel_rfl) h
def R9 x0 (Q:PQ) w:=knew (Value.cells x0) 70 w fun v1 w2=>aB 2 v1 w2 fun v3=>ae Tryz.prog 104 #[v3,.bool true] w2 fun v4 w5=>Q v4 w5
theorem K9 (h:R9 x0 Q w):af Tryz.prog 66 #[x0] w Q :=
 ax (c:=Tryz.f66.body.get rfl) [] Tryz.func66 rfl rfl (args:=[x0]) rfl (by kernel_rfl) h
def pE (x1:Value) x4 (x8 x9:Value) x10 (J2:Value→Value→World→Prop) (Q:PQ) w:=kint .i64 .add x10 (.int .i64 1) fun v18=>J2 x4 v18 w
def AR x1 x4 x8 x9 x10 (J2:Value→Value→World→Prop) (Q:PQ) w:=bz (some (.slice 144)) (some 7) x8 x10 fun v8=>aB 7 v8 w fun v9=>knew #[(.string ⟨#[]⟩),.int .i64 0,.bool false,.int .i64 0,.int .i64 0,.int .i64 0,.int .i64 0] 144 w fun v10 w11=>bj 7 v10 v9 w11 fun w12=>ai 2 v10 fun v13=>aw v13 w12 fun v14=>kbool .eql v14 x1 fun v15=>kB v15 fun b19=>aA b19 (ae Tryz.prog 152 #[x4,x10] w12 fun v16 w17=>pE x1 v16 x8 x9 x10 J2 Q w17) (pE x1 x4 x8 x9 x10 J2 Q w12)
def AU x4 (Q:PQ) w:=Q x4 w
def AW x4 x10 x1 x8 x9 (J2:Value→Value→World→Prop) (Q:PQ) w:=kint .i64 .lss x10 x9 fun v7=>kB v7 fun b20=>aA b20 (AR x1 x4 x8 x9 x10 J2 Q w) (AU x4 Q w)
def OE x0 x1 (Q:PQ) w:=knew (Value.cells x0) 70 w fun v1 w2=>ai 0 v1 fun v3=>aw v3 w2 fun v4=>aU v4 fun v5=>kL fun(I:Value→Value→World→Prop) (μ:Value→Value→World→Nat)=>I (.int .u32 0) (.int .i64 0) w2∧∀(x4 x10:Value) (w1:World),I x4 x10 w1→AW x4 x10 x1 v4 v5 (fun y4 y10 w2=>I y4 y10 w2∧μ y4 y10 w2<μ x4 x10 w1) Q w1
theorem EB (h:OE x0 x1 Q w):af Tryz.prog 104 #[x0,x1] w Q :=
 ax (c:=Tryz.f104.body.get rfl) [(2,[4,10])] Tryz.func104 rfl rfl (args:=[x0,x1]) rfl (by kernel_rfl) h
end
end Go.Proofs.YtcmijampbjcbgaaGreatDoor
