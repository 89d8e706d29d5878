/-
Lemmas for the statements of this seat: no statement of the seat is proved in this part (6 of 8); the conditions stand in each theorem.
-/
import Derived.Test.YtcmijampbjcbgaaGreatDoorMruns5
import Derived.Test.YtcmijampbjcbgaaGreatDoorProg
set_option autoImplicit true
set_option relaxedAutoImplicit true
set_option linter.unusedSimpArgs false
set_option linter.unusedVariables false
set_option maxRecDepth 100000
namespace Go.Proofs.YtcmijampbjcbgaaGreatDoor
open Go Go.Ev
section
attribute [local irreducible] kO kB bG bH kN kG aA ai aw aB bj knew bB aP ay aE bk aD aU bC bD a8 kbool kint kstr keq kun ksl bz cQ kta kmk kmm ksem ksemU bd aI aL ae kL
structure WM (σ:Type) where
 get:σ→Int→Option Part
 res:σ→Int→Option Int
 fr:σ→Int
 set:σ→Int→Int→Int→σ
 asg:σ→Int→Int→σ
 dr:σ→Int→σ×Int
 add:σ→OrdM→σ
def jl (q:Part) (i:Int):Int:=if i=0 then q.v0 else if i=1 then q.v1 else if i=2 then q.v2 else q.v3
def iW (g:Option Part) (i:Int):Int:=match g with
 | some q=>if i<0∨4≤i then 0 else jl q i
 | none=>0
def nG (h:HC) (i:Int):Int:=if i<0∨2≤i then 0 else if i=0 then h.i0 else h.i1
def eu (h:HC) (x:IN):OrdM :=
 if x.op=31 then⟨1,0,(IntKind.u32.wrap x.a).toNat,0⟩ else if x.op=32 then⟨2,h.who,0,0⟩ else if x.op=33 then⟨3,h.who,0,x.a⟩ else⟨4,h.who,0,x.a⟩
def bW {σ:Type} (W:WM σ) (h:HC):dE σ where
 rd s x:=if x.op=1 then some x.a else if x.op=22 then some (iW (W.get s x.a) x.b) else if x.op=24 then some (fe (W.get s x.a).isSome)
  else if x.op=25 then some (nG h x.a) else if x.op=26 then some ((W.res s x.a).getD 0) else if x.op=29 then some h.who else if x.op=30 then some (W.fr s) else none
 wr s x n:=if x.op=23 then W.set s x.a x.b n else if x.op=27 then W.asg s x.a n else W.add s (eu h x)
 dr:=W.dr
structure WI {σ:Type} (W:WM σ) (h:HC) (w0:World) (cost:σ→Nat) (I:(Nat→Prop)→World→σ→Prop):Prop where
 base:∀{X w s},I X w s→Same w0 w
 lt:∀{X w s},I X w s→∀k,X k→w0.heap.size≤k∧k<w.heap.size
 loc:∀{X w w' s},I X w s→Same w w'→I X w' s
 less:∀{X X' w s},I X w s→(∀k,X' k→X k)→I X' w s
 grow:∀{X fp w w' s},I X w s→aH fp w w'→(∀k,fp k→X k)→I (cX w w' X) w' s
 get:∀{X w s} (c:Int),I X w s→bZ c→af Tryz.prog 173 #[.pointer h.wp,nV h.who,nV c] w fun v w'=>(∃q e,v=.tuple #[.agg q.cells.toArray,e]∧(W.get s c=some q∧e=.nilIface∨W.get s c=none∧sX e))∧Same w w'
 res:∀{X w s} (i:Int),I X w s→af Tryz.prog 129 #[.pointer h.wp,nV i] w fun v w'=>(∃b:Bool,v=.tuple #[nV ((W.res s i).getD 0),.bool b])∧Same w w'
 fr:∀{X w s},I X w s→af Tryz.prog 130 #[.pointer h.wp] w fun v w'=>v=nV (W.fr s)∧Same w w'
 set:∀{X w s} (c i n:Int),I X w s→bZ c→cost s≤5000→bZ n→af Tryz.prog 132 #[.pointer h.wp,nV h.who,nV c,nV i,nV n] w fun v w'=>I X w' (W.set s c i n)∧aH (fun k=>w0.heap.size≤k∧¬X k) w w'
 asg:∀{X w s} (i n:Int),I X w s→cost s≤5000→bZ n→af Tryz.prog 133 #[.pointer h.wp,nV i,nV n] w fun v w'=>I X w' (W.asg s i n)∧aH (fun k=>w0.heap.size≤k∧¬X k) w w'
 dr:∀{X w s} (n:Int),I X w s→cost s≤5000→bZ n→af Tryz.prog 131 #[.pointer h.wp,nV n] w fun v w'=>(∃e,v=.tuple #[nV (W.dr s n).2,e])∧I X w' (W.dr s n).1∧aH (fun k=>w0.heap.size≤k∧¬X k) w w'
 add:∀{X w s} (x:OrdM),I X w s→x.ok→cost s≤5000→af Tryz.prog 134 #[.pointer h.op,x.val] w fun v w'=>I X w' (W.add s x)∧aH (fun k=>w0.heap.size≤k∧¬X k) w w'
 get64:∀{X w s c q},I X w s→W.get s c=some q→q.ok
 res64:∀{X w s i v},I X w s→W.res s i=some v→bZ v
 fr64:∀{X w s},I X w s→bZ (W.fr s)
 dr64:∀s n,bZ (W.dr s n).2
 in64:bZ h.i0∧bZ h.i1∧bZ h.who
 cset:∀s c i n,cost (W.set s c i n)≤cost s+1
 casg:∀s i n,cost (W.asg s i n)≤cost s+1
 cdr:∀s n,cost (W.dr s n).1≤cost s+1
 cadd:∀s x,cost (W.add s x)≤cost s+1
def okIN (x:IN):Prop:=bZ x.a
section
variable {σ:Type} {W:WM σ} {h:HC} {w0:World} {cost:σ→Nat} {I:(Nat→Prop)→World→σ→Prop} {X:Nat→Prop} {w:World} {s:σ} {b:Nat}
theorem wW.same (hb:wW h b w) (m:Same w w'):wW h b w':=by
 obtain⟨la,n,lc,pl,sv,fu,ov,hb⟩:=hb;exact⟨la,n,lc,pl,sv,fu,ov,m.get hb fun h=>h⟩
theorem Hv (hW:WI W h w0 cost I) (hi:I X w s) (hb:wW h b w) {c:Int} (hc:bZ c):af Tryz.prog 128 #[.pointer (some ⟨b,0,none⟩),nV c] w fun v w'=>(∃q,v=.tuple #[.agg q.cells.toArray,.bool (W.get s c).isSome]∧(W.get s c=some q∨W.get s c=none))∧Same w w':=by
 refine Di ?_;unfold Nk;refine ar fun w2 h2 hs2 hb2=>?_;have m2:Same w w2.drew:=h2.drew;have hb2:aX w2.drew w.heap.size=_:=hb2;generalize w2.drew=wd at *;have hbd:=hb.same m2;obtain⟨la,n,lc,pl,sv,fu,ov,hbd⟩:=hbd;have hz2:w.heap.size<wd.heap.size:=aC hb2;have tail:∀(w1:World) (bp:Nat) (q:Part) (e:Value),Same wd w1→bp≠w.heap.size→aX w1 bp=some (.cells q.cells.toArray 95)→(W.get s c=some q∧e=.nilIface∨W.get s c=none∧sX e)→o7 (.pointer (some ⟨w.heap.size,0,none⟩)) (.pointer (some ⟨bp,0,none⟩)) e (fun v w'=>(∃q,v=.tuple #[.agg q.cells.toArray,.bool (W.get s c).isSome]∧(W.get s c=some q∨W.get s c=none))∧Same w w') w1:=by
  intro w1 bp q e m hne hbp he;unfold o7;have md:Same w1 w1.drew:=(aH.refl (fun _=>False) _).drew;have mm:=m2.trans (m.trans md);have hbp:=md.get hbp (fun h=>h);have hb2:=(m.trans md).get hb2 (fun h=>h);generalize w1.drew=wz at *;refine au hbp rfl (by omega) ?_;refine ah rfl ?_;have keq:∀(wy:World) (K:Value→World→Prop),K (.bool (W.get s c).isSome) wy→keq Tryz.prog .eql 37 false true e .nilIface wy K:=by
   intro wy K hK;rcases he with⟨hg,rfl⟩ | ⟨hg,ty,y,rfl⟩
   ·rw[gp bU]; rw[hg]at hK; exact hK
   ·rw[dT bU]; rw[hg]at hK; exact hK
  refine keq _ _ ?_;refine ah rfl ?_;refine aQ (vs:=q.cells) hb2 rfl rfl rfl (by simp) (by simp[Part.cells]) fun w33 h33 hs33 hb33=>?_;have hb33:aX w33 w.heap.size=some (.cells q.cells.toArray 95):=hb33;refine ah (keq _ _ ⟨rfl,rfl⟩) ?_;refine au hb33 rfl (by omega) ?_;exact⟨⟨q,rfl,he.imp (fun h=>h.1) (fun h=>h.1)⟩,mm.trans' (h33.mono fun k _ e=>.inr (by omega))⟩
 refine⟨?_,?_⟩
 ·repeat (first | refine aq ?_ | refine ac ?_ | refine aa ?_ | refine ak rfl ?_ | refine aj hbd rfl ?_ | refine au hbd rfl (by omega) ?_ | refine ah (by first | exact rfl | omega) ?_ | refine aK ?_ | refine aF ?_ | refine cu ?_ | refine aM ?_ | refine db ?_ | refine bO ?_ | refine bI ?_ | refine aY (by omega) (by omega) ?_ | refine cM (by omega) (by omega) ?_ | refine bP ?_ | refine ey ?_ | refine df rfl ?_ | refine cP rfl ?_ | refine dg ?_ | refine bQ ?_ | refine dP ?_ | refine dN ?_ | refine aN (by first | exact rfl | exact co (by omega) | exact fG (bT (by omega))) ?_ | refine az (by first | exact rfl | exact bT (by omega) | exact gy (co (by omega))) ?_)
  refine ab (hW.get c (hW.loc hi m2) hc) ?_;rintro v w8 ⟨⟨q,e,rfl,he⟩,h8⟩;refine ar fun w10 h10 hs10 hb10=>?_;have hb10':=(h8.trans h10).get hbd (fun h=>h);refine ah (aj hb10' rfl ⟨rfl,rfl⟩) ?_;refine ah (aj hb10' rfl ⟨rfl,rfl⟩) ?_;refine ak rfl ?_;refine aQ (vs:=q.cells) hb10 rfl rfl rfl (by simp) (by simp[Part.cells]) fun w12 h12 hs12 hb12=>?_;have hb12:aX w12 w8.heap.size=some (.cells q.cells.toArray 95):=hb12;refine ak rfl ?_;have hz8:=h8.size;exact tail _ _ q e (h8.trans (h10.trans' (h12.mono fun k _ e=>.inr (by omega)))) (by omega) hb12 he
 ·refine ar fun w24 h24 hs24 hb24=>?_;have hb24':=h24.get hbd (fun h=>h);refine aq ?_;refine aa ?_;refine aj hb24' rfl ?_;refine ah rfl ?_;refine ah (aj hbd rfl ⟨rfl,rfl⟩) ?_;refine aq ?_;refine aa ?_;refine aj hb24' rfl ?_;refine ah rfl ?_;refine ah (aj hbd rfl ⟨rfl,rfl⟩) ?_;refine ab (hW.get c (hW.loc hi (m2.trans h24)) hc) ?_;rintro v w30 ⟨⟨q,e,rfl,he⟩,h30⟩;refine ak rfl ?_;refine aQ (vs:=q.cells) (h30.get hb24 (fun h=>h)) rfl rfl rfl (by simp) (by simp[Part.cells]) fun w12 h12 hs12 hb12=>?_;have hb12:aX w12 wd.heap.size=some (.cells q.cells.toArray 95):=hb12;refine ak rfl ?_;exact tail _ _ q e ((h24.trans h30).trans' (h12.mono fun k _ e=>.inr (by omega))) (by omega) hb12 he
theorem OZ (hW:WI W h w0 cost I) (hi:I X w s) (hb:wW h b w) {c:Int} (hc:bZ c) (i:Int):af Tryz.prog 127 #[.pointer (some ⟨b,0,none⟩),nV c,nV i] w fun v w'=>v=nV (iW (W.get s c) i)∧Same w w':=by
 refine Dh ?_;unfold Nj;refine ab (Hv hW hi hb hc) ?_;rintro v w2 ⟨⟨q,rfl,hq⟩,h2⟩;refine ak rfl ?_;refine ak rfl ?_;refine ar fun w6 h6 hs6 hb6=>?_;refine aQ (vs:=q.cells) hb6 rfl rfl rfl (by simp) (by simp[Part.cells]) fun w7 h7 hs7 hb7=>?_;have hb7:aX w7 w2.heap.size=some (.cells q.cells.toArray 95):=hb7;have m7:Same w w7:=h2.trans (h6.trans' (h7.mono fun k _ e=>.inr (by omega)));have zero:∀Q:PQ,Q (nV 0) w7→kn (nV i) (.pointer (some ⟨w2.heap.size,0,none⟩)) (.bool true) Q w7:=by
  intro Q hQ;unfold kn;refine ac ?_;exact aN rfl hQ
 refine bP ?_;refine ac ?_;rcases hq with hq | hq
 ·rw[hq];refine aN rfl ?_;have el:iW (some q) i=if i<0∨4≤i then 0 else jl q i:=rfl
  rw[el];refine aM ?_;refine ac ?_;refine cz (fun h0=>?_) (fun h0=>zero _ ⟨by rw[if_pos (.inl h0)],m7⟩);refine bI ?_;by_cases h4:4≤i
  ·rw[decide_eq_true h4];exact zero _ ⟨by rw[if_pos (.inr h4)],m7⟩
  ·rw[decide_eq_false h4,if_neg (by omega)];unfold kn;refine ac ?_;refine az rfl ?_;unfold yy;refine aa ?_;unfold nV;rw[dy];refine ah (by omega) ?_;unfold jl;have hi4:i=0∨i=1∨i=2∨i=3:=by omega
   rcases hi4 with rfl | rfl | rfl | rfl
   ·exact aj hb7 rfl ⟨rfl,m7⟩
   ·exact aj hb7 rfl ⟨rfl,m7⟩
   ·exact aj hb7 rfl ⟨rfl,m7⟩
   ·exact aj hb7 rfl ⟨rfl,m7⟩
 ·rw[hq];refine az rfl ?_;exact zero _ ⟨rfl,m7⟩
theorem O0 (hW:WI W h w0 cost I) (hi:I X w s) (hb:wW h b w) {x:IN} (hx:okIN x):af Tryz.prog 84 #[.pointer (some ⟨b,0,none⟩),.agg x.cells.toArray] w fun v w'=>v=.tuple #[nV (((bW W h).rd s x).getD 0),.bool ((bW W h).rd s x).isSome]∧Same w w':=by
 refine yx ?_;unfold Qu;refine ar fun w2 h2 hs2 hb2=>?_;have hb2:aX w2 w.heap.size=some (.cells x.cells.toArray 80):=hb2;have hi2:=hW.loc hi h2;have hH2:=hb.same h2;have er:(bW W h).rd s x=if x.op=1 then some x.a else if x.op=22 then some (iW (W.get s x.a) x.b) else if x.op=24 then some (fe (W.get s x.a).isSome) else if x.op=25 then some (nG h x.a) else if x.op=26 then some ((W.res s x.a).getD 0) else if x.op=29 then some h.who else if x.op=30 then some (W.fr s) else none:=rfl
 rw[er];refine aa ?_;refine ao (v:=.int .i64 x.op) hb2 rfl ?_;refine aF ?_;refine ac ?_;refine am (fun h1=>?_) (fun h1=>?_)
 ·rw[if_pos h1];refine aa ?_;refine ao (v:=.int .i64 x.a) hb2 rfl ?_;exact⟨rfl,h2⟩
 rw[if_neg h1];refine aF ?_;refine ac ?_;refine am (fun h1=>?_) (fun h1=>?_)
 ·rw[if_pos h1];refine aa ?_;refine ao (v:=nV x.a) hb2 rfl ?_;refine aa ?_;refine ao (v:=nV x.b) hb2 rfl ?_;refine ab (OZ hW hi2 hH2 hx x.b) ?_;rintro v w6 ⟨rfl,h6⟩;exact⟨rfl,h2.trans h6⟩
 rw[if_neg h1];refine aF ?_;refine ac ?_;refine am (fun h1=>?_) (fun h1=>?_)
 ·rw[if_pos h1];refine aa ?_;refine ao (v:=nV x.a) hb2 rfl ?_;refine ab (Hv hW hi2 hH2 hx) ?_;rintro v w6 ⟨⟨q,rfl,_⟩,h6⟩;refine ak rfl ?_;refine ak rfl ?_;refine ar fun w8 h8 hs8 hb8=>?_;refine aQ (vs:=q.cells) hb8 rfl rfl rfl (by simp) (by simp[Part.cells]) fun w9 h9 hs9 hb9=>?_;refine ab (i3 _ w9) ?_;rintro v w10 ⟨rfl,rfl⟩;exact⟨rfl,h2.trans (h6.trans (h8.trans' (h9.mono fun k _ e=>.inr (by omega))))⟩
 rw[if_neg h1];refine aF ?_;refine ac ?_;refine am (fun h1=>?_) (fun h1=>?_)
 ·rw[if_pos h1];refine aa ?_;refine ao (v:=.int .i64 x.a) hb2 rfl ?_;refine aM ?_;refine ac ?_;refine cz (fun h0=>?_) (fun h0=>?_)
  ·refine aa ?_;refine ao (v:=.int .i64 x.a) hb2 rfl ?_;refine bI ?_;by_cases h4:2≤x.a
   ·rw[decide_eq_true h4];unfold qD;refine ac ?_;refine aN rfl ?_;exact⟨by unfold nG; rw[if_pos (.inr h4)]; rfl,h2⟩
   ·rw[decide_eq_false h4];unfold qD;refine ac ?_;refine az rfl ?_;unfold Gb;have m2:Same w w2.drew:=h2.drew;obtain⟨la,n,lc,pl,sv,fu,ov,hbd⟩:=hb.same m2;have hb2:aX w2.drew w.heap.size=some (.cells x.cells.toArray 80):=hb2;generalize w2.drew=wd at *;refine aa ?_;refine ao (v:=.int .i64 x.a) hb2 rfl ?_;refine ah rfl ?_;refine aq ?_;refine aa ?_;rw[dy];refine ah (by omega) ?_;have ha:x.a=0∨x.a=1:=by omega
    unfold nG;rw[if_neg (by omega)];rcases ha with ha | ha
    ·rw[ha];refine aj hbd rfl ?_;refine ah rfl ?_;exact⟨rfl,m2⟩
    ·rw[ha];refine aj hbd rfl ?_;refine ah rfl ?_;exact⟨rfl,m2⟩
  ·unfold qD;refine ac ?_;refine aN rfl ?_;exact⟨by unfold nG; rw[if_pos (.inl h0)]; rfl,h2⟩
 rw[if_neg h1];obtain⟨la,n,lc,pl,sv,fu,ov,hbd⟩:=hH2;refine aF ?_;refine ac ?_;refine am (fun h1=>?_) (fun h1=>?_)
 ·rw[if_pos h1];have hbd':aX w2.drew b=_:=hbd;have hb2':aX w2.drew w.heap.size=some (.cells x.cells.toArray 80):=hb2;repeat (first | refine aq ?_ | refine ac ?_ | refine aa ?_ | refine ak rfl ?_ | refine aj hbd' rfl ?_ | refine au hbd' rfl (by omega) ?_ | refine ah (by first | exact rfl | omega) ?_ | refine aK ?_ | refine aF ?_ | refine cu ?_ | refine aM ?_ | refine db ?_ | refine bO ?_ | refine bI ?_ | refine aY (by omega) (by omega) ?_ | refine cM (by omega) (by omega) ?_ | refine bP ?_ | refine ey ?_ | refine df rfl ?_ | refine cP rfl ?_ | refine dg ?_ | refine bQ ?_ | refine dP ?_ | refine dN ?_ | refine aN (by first | exact rfl | exact co (by omega) | exact fG (bT (by omega))) ?_ | refine az (by first | exact rfl | exact bT (by omega) | exact gy (co (by omega))) ?_)
  refine ao (v:=nV x.a) hb2' rfl ?_;refine ah rfl ?_;refine ab (hW.res x.a (hW.loc hi h2.drew)) ?_;rintro v w6 ⟨⟨bb,rfl⟩,h6⟩;refine ak rfl ?_;refine ak rfl ?_;exact⟨rfl,h2.drew.trans h6⟩
 rw[if_neg h1];refine aF ?_;refine ac ?_;refine am (fun h1=>?_) (fun h1=>?_)
 ·rw[if_pos h1];refine aq ?_;refine aa ?_;refine aj hbd rfl ?_;exact⟨rfl,h2⟩
 rw[if_neg h1];refine aF ?_;refine ac ?_;refine am (fun h1=>?_) (fun h1=>?_)
 ·rw[if_pos h1];refine aq ?_;refine aa ?_;refine aj hbd rfl ?_;refine ab (hW.fr hi2) ?_;rintro v w6 ⟨rfl,h6⟩;exact⟨rfl,h2.trans h6⟩
 rw[if_neg h1];exact⟨rfl,h2⟩
theorem O1 (hW:WI W h w0 cost I) (hi:I X w s) (hb:wW h b w) (hc:cost s≤5000) (n:Int) (hn:bZ n):af Tryz.prog 87 #[.pointer (some ⟨b,0,none⟩),nV n] w fun v w'=>v=nV (W.dr s n).2∧I X w' (W.dr s n).1∧aH (fun k=>w0.heap.size≤k∧¬X k) w w':=by
 obtain⟨la,k,lc,pl,sv,fu,ov,hbd⟩:=hb;refine I8 ?_;unfold RH;refine aq ?_;refine aa ?_;refine aa ?_;refine aj hbd rfl ?_;refine ab (hW.dr n hi hc hn) ?_;rintro v w6 ⟨⟨e,rfl⟩,h1,h2⟩;refine ak rfl ?_;refine ak rfl ?_;exact⟨rfl,h1,h2⟩
theorem pM (hwho:bZ h.who) {x:IN} (hx:okIN x):(eu h x).ok:=by
 have z:bZ 0:=by unfold bZ; omega
 have u:∀n:Int,0≤n∧n≤10→bZ n:=fun n hn=>by unfold bZ; omega
 unfold eu OrdM.ok;split
 ·refine⟨u 1 (by omega),z,?_,z⟩;show(x.a%4294967296).toNat<4294967296;omega
 ·split
  ·exact⟨u 2 (by omega),hwho,by show(0:Nat)<4294967296; omega,z⟩
  ·split
   ·exact⟨u 3 (by omega),hwho,by show(0:Nat)<4294967296; omega,hx⟩
   ·exact⟨u 4 (by omega),hwho,by show(0:Nat)<4294967296; omega,hx⟩
theorem Ln (hW:WI W h w0 cost I) (hi:I X w s) (hb:wW h b w) {x:IN} (hx:okIN x) (ho:x.op=23∨x.op=27∨x.op=31∨x.op=32∨x.op=33∨x.op=34) (hc:cost s≤5000) (top:Int) (h64:bZ top) :
  af Tryz.prog 88 #[.pointer (some ⟨b,0,none⟩),.agg x.cells.toArray,nV top] w fun v w'=>I X w' ((bW W h).wr s x top)∧aH (fun k=>w0.heap.size≤k∧¬X k) w w':=by
 have er:(bW W h).wr s x top=if x.op=23 then W.set s x.a x.b top else if x.op=27 then W.asg s x.a top else W.add s (eu h x):=rfl
 rw[er];refine Jb ?_;unfold RK;refine ar fun w2 h2 hs2 hb2=>?_;obtain⟨la,k,lc,pl,sv,fu,ov,hbd⟩:=hb.same h2;refine aq ?_;refine aa ?_;refine aj hbd rfl ?_;refine aW (cs:=(⟨0,h.who,0,0⟩:OrdM).cells) rfl ?_;refine ar fun w7 h7 hs7 hb7=>?_;refine aQ (vs:=(⟨0,h.who,0,0⟩:OrdM).cells) hb7 rfl rfl rfl (by simp) (by simp[OrdM.cells]) fun w8 h8 hs8 hb8=>?_;have hb8:aX w8 w2.heap.size=some (.cells (⟨0,h.who,0,0⟩:OrdM).cells.toArray 130):=hb8;have h28:Same w2 w8:=h7.trans' (h8.mono fun k _ e=>.inr (by omega));have m8:=h2.trans h28;have hb28:aX w8 w.heap.size=some (.cells x.cells.toArray 80):=h28.get hb2 (fun h=>h);have hz:w.heap.size≠w2.heap.size:=by have:=aC hb2; omega
 have hbd8:=h28.get hbd (fun h=>h);have m8d:Same w w8.drew:=m8.drew;have hb28d:aX w8.drew w.heap.size=some (.cells x.cells.toArray 80):=hb28;have hbd8d:aX w8.drew b=_:=hbd8;have hb8d:aX w8.drew w2.heap.size=some (.cells (⟨0,h.who,0,0⟩:OrdM).cells.toArray 130):=hb8;have md:Same w2 w8.drew:=h28.drew;clear h7 hb7 h8 hs8;refine aa ?_;refine ao (v:=.int .i64 x.op) hb28 rfl ?_;refine aF ?_;refine ac ?_;refine am (fun h1=>?_) (fun h1=>?_)
 ·rw[if_pos h1];generalize w8.drew=wd at *;repeat (first | refine aq ?_ | refine ac ?_ | refine aa ?_ | refine ak rfl ?_ | refine aj hbd8d rfl ?_ | refine au hbd8d rfl (by omega) ?_ | refine ah (by first | exact rfl | omega) ?_ | refine aK ?_ | refine aF ?_ | refine cu ?_ | refine aM ?_ | refine db ?_ | refine bO ?_ | refine bI ?_ | refine aY (by omega) (by omega) ?_ | refine cM (by omega) (by omega) ?_ | refine bP ?_ | refine ey ?_ | refine df rfl ?_ | refine cP rfl ?_ | refine dg ?_ | refine bQ ?_ | refine dP ?_ | refine dN ?_ | refine aN (by first | exact rfl | exact co (by omega) | exact fG (bT (by omega))) ?_ | refine az (by first | exact rfl | exact bT (by omega) | exact gy (co (by omega))) ?_)
  refine ao (v:=nV x.a) hb28d rfl ?_;refine ah rfl ?_;refine aa ?_;refine ao (v:=nV x.b) hb28d rfl ?_;refine ah rfl ?_;refine ab (hW.set x.a x.b top (hW.loc hi m8d) hx hc h64) ?_;rintro v w6 ⟨h1,h2⟩;exact⟨h1,(aH.of_same m8d).trans h2⟩
 rw[if_neg h1];refine aF ?_;refine ac ?_;refine am (fun h2=>?_) (fun h2=>?_)
 ·rw[if_pos h2];generalize w8.drew=wd at *;repeat (first | refine aq ?_ | refine ac ?_ | refine aa ?_ | refine ak rfl ?_ | refine aj hbd8d rfl ?_ | refine au hbd8d rfl (by omega) ?_ | refine ah (by first | exact rfl | omega) ?_ | refine aK ?_ | refine aF ?_ | refine cu ?_ | refine aM ?_ | refine db ?_ | refine bO ?_ | refine bI ?_ | refine aY (by omega) (by omega) ?_ | refine cM (by omega) (by omega) ?_ | refine bP ?_ | refine ey ?_ | refine df rfl ?_ | refine cP rfl ?_ | refine dg ?_ | refine bQ ?_ | refine dP ?_ | refine dN ?_ | refine aN (by first | exact rfl | exact co (by omega) | exact fG (bT (by omega))) ?_ | refine az (by first | exact rfl | exact bT (by omega) | exact gy (co (by omega))) ?_)
  refine ao (v:=nV x.a) hb28d rfl ?_;refine ah rfl ?_;refine ab (hW.asg x.a top (hW.loc hi m8d) hc h64) ?_;rintro v w6 ⟨h1,h2⟩;exact⟨h1,(aH.of_same m8d).trans h2⟩
 rw[if_neg h2];have hok:=pM (h:=h) hW.in64.2.2 hx;have fin:∀wz:World,Same w2 wz∨aH (fun k=>k=w2.heap.size) w2 wz→aX wz w2.heap.size=some (.cells (eu h x).cells.toArray 130)→l9 (.pointer (some ⟨b,0,none⟩)) (.pointer (some ⟨w2.heap.size,0,none⟩)) (fun v w'=>I X w' (W.add s (eu h x))∧aH (fun k=>w0.heap.size≤k∧¬X k) w w') wz:=by
  intro wz hm hbo;have mz:Same w wz:=by
   rcases hm with hm | hm
   ·exact ‹Same w w2›.trans hm
   ·exact ‹Same w w2›.trans' (hm.mono fun k _ e=>.inr (by have:=aC hb2; omega))
  have mzd:Same w wz.drew:=mz.drew;obtain⟨la,k,lc,pl,sv,fu,ov,hbz⟩:=hb.same mzd;have hbo:aX wz.drew w2.heap.size=some (.cells (eu h x).cells.toArray 130):=hbo;unfold l9;generalize wz.drew=wd at *;repeat (first | refine aq ?_ | refine ac ?_ | refine aa ?_ | refine ak rfl ?_ | refine aj hbz rfl ?_ | refine au hbz rfl (by omega) ?_ | refine ah (by first | exact rfl | omega) ?_ | refine aK ?_ | refine aF ?_ | refine cu ?_ | refine aM ?_ | refine db ?_ | refine bO ?_ | refine bI ?_ | refine aY (by omega) (by omega) ?_ | refine cM (by omega) (by omega) ?_ | refine bP ?_ | refine ey ?_ | refine df rfl ?_ | refine cP rfl ?_ | refine dg ?_ | refine bQ ?_ | refine dP ?_ | refine dN ?_ | refine aN (by first | exact rfl | exact co (by omega) | exact fG (bT (by omega))) ?_ | refine az (by first | exact rfl | exact bT (by omega) | exact gy (co (by omega))) ?_)
  refine au hbo rfl (by omega) ?_;refine ah rfl ?_;refine ab (hW.add (eu h x) (hW.loc hi mzd) hok hc) ?_;rintro v w6 ⟨h1,h2⟩;exact⟨h1,(aH.of_same mzd).trans h2⟩
 have ofil:∀n:Int,(x.op=33∧n=3∨x.op=34∧n=4)→eu h x=⟨n,h.who,0,x.a⟩:=by
  intro n hn;unfold eu;rw[if_neg (by omega),if_neg (by omega)];rcases hn with⟨h,rfl⟩ | ⟨h,rfl⟩
  ·rw[if_pos h]
  ·rw[if_neg (by omega)]
 refine aF ?_;refine ac ?_;refine am (fun h3=>?_) (fun h3=>?_)
 ·refine aa ?_;refine ao (v:=.int .i64 x.a) hb28 rfl ?_;rw[cD];have em:(.int .u32 (IntKind.u32.wrap x.a):Value)=msk (IntKind.u32.wrap x.a).toNat:=by
   have hp:0≤IntKind.u32.wrap x.a:=by show 0≤x.a%4294967296; omega
   unfold msk;rw[Int.toNat_of_nonneg hp]
  rw[em];have eo:eu h x=⟨1,0,(IntKind.u32.wrap x.a).toNat,0⟩:=by unfold eu; rw[if_pos h3]
  refine aW (cs:=(eu h x).cells) (by rw[eo]; rfl) ?_;refine aQ (vs:=(eu h x).cells) hb8 rfl rfl (by rw[eo]; rfl) (by simp[OrdM.cells]) (by simp[OrdM.cells]) fun w34 h34 hs34 hb34=>?_;exact fin w34 (.inr ((aH.of_same h28).trans h34)) hb34
 refine aF ?_;refine ac ?_;refine am (fun h3'=>?_) (fun h3'=>?_)
 ·have eo:eu h x=⟨2,h.who,0,0⟩:=by unfold eu; rw[if_neg h3,if_pos h3']
  refine aa ?_;refine bJ hb8 rfl rfl (by simp[OrdM.cells]) fun w34 h34 hs34 hb34=>?_;exact fin w34 (.inr ((aH.of_same h28).trans h34)) (by rw[eo]; exact hb34)
 have tl:∀n:Int,(x.op=33∧n=3∨x.op=34∧n=4)→(ai 1 (.pointer (some ⟨w.heap.size,0,none⟩)) fun v44=>aw v44 w8.drew fun v45=>kG (w8.drew=w8.drew)<|ai 0 (.pointer (some ⟨w2.heap.size,0,none⟩)) fun v46=>bj 1 v46 (.int .i64 n) w8.drew fun w47=>kG (aw v44 w47 fun v50=>v50=v45∧w47=w47)<|ai 3 (.pointer (some ⟨w2.heap.size,0,none⟩)) fun v48=>bj 1 v48 v45 w47 fun w49=>l9 (.pointer (some ⟨b,0,none⟩)) (.pointer (some ⟨w2.heap.size,0,none⟩)) (fun v w'=>I X w' (W.add s (eu h x))∧aH (fun k=>w0.heap.size≤k∧¬X k) w w') w49):=by
  intro n hn;have eo:=ofil n hn;generalize w8.drew=wd at *;refine aa ?_;refine ao (v:=.int .i64 x.a) hb28d rfl ?_;refine ah rfl ?_;refine aa ?_;refine bJ hb8d rfl rfl (by simp[OrdM.cells]) fun w47 h47 hs47 hb47=>?_;refine ah (ao (v:=.int .i64 x.a) (h47.get hb28d hz) rfl ⟨rfl,rfl⟩) ?_;refine aa ?_;refine bJ hb47 rfl rfl (by simp[OrdM.cells]) fun w49 h49 hs49 hb49=>?_;exact fin w49 (.inr ((aH.of_same md).trans (h47.trans h49))) (by rw[eo]; exact hb49)
 refine aF ?_;refine ac ?_;refine am (fun h3''=>?_) (fun h3''=>?_)
 ·exact tl 3 (.inl ⟨h3'',rfl⟩)
 refine aF ?_;refine ac ?_;refine aN (co (by omega)) ?_;exact tl 4 (.inr ⟨by omega,rfl⟩)
theorem ut (h:∀q,g=some q→q.ok) (i:Int):bZ (iW g i):=by
 cases g with
 | none=>exact eE
 | some q =>
  obtain⟨_,h0,h1,h2,h3,_⟩:=h q rfl;exact aG (P:=bZ) (fun _=>eE) (fun _=>aG (P:=bZ) (fun _=>h0) (fun _=>aG (P:=bZ) (fun _=>h1) (fun _=>aG (P:=bZ) (fun _=>h2) (fun _=>h3))))
theorem uv (hW:WI W h w0 cost I):j6 (bW W h) h w0 okIN cost I where
 base:=hW.base
 lt:=hW.lt
 loc:=hW.loc
 less:=hW.less
 grow:=hW.grow
 rdo s x hr:=by
  unfold du;refine Classical.byContradiction fun hn=>hr ?_;show(if x.op=1 then some x.a else if x.op=22 then some (iW (W.get s x.a) x.b) else if x.op=24 then some (fe (W.get s x.a).isSome) else if x.op=25 then some (nG h x.a) else if x.op=26 then some ((W.res s x.a).getD 0) else if x.op=29 then some h.who else if x.op=30 then some (W.fr s) else none)=none;rw[if_neg (by omega),if_neg (by omega),if_neg (by omega),if_neg (by omega),if_neg (by omega),if_neg (by omega),if_neg (by omega)]
 rdi s x _ hr:=by
  unfold du at hr;show(if x.op=1 then some x.a else if x.op=22 then some (iW (W.get s x.a) x.b) else if x.op=24 then some (fe (W.get s x.a).isSome) else if x.op=25 then some (nG h x.a) else if x.op=26 then some ((W.res s x.a).getD 0) else if x.op=29 then some h.who else if x.op=30 then some (W.fr s) else none)≠none;rcases hr with h | h | h | h | h | h | h<;>rw[h]<;>exact fun e=>by cases e
 read hi hb hx:=O0 hW hi hb hx
 write {_ _ _ _ _ top} hi hb _ hx ho hc h64:=Ln hW hi hb hx ho hc top h64
 draw {_ _ _ _ _ n} hi hb _ _ _ hc hn:=O1 hW hi hb hc n hn
 rd64 {X w s x v} hi hok hv:=by
  have hv:(if x.op=1 then some x.a else if x.op=22 then some (iW (W.get s x.a) x.b) else if x.op=24 then some (fe (W.get s x.a).isSome) else if x.op=25 then some (nG h x.a) else if x.op=26 then some ((W.res s x.a).getD 0) else if x.op=29 then some h.who else if x.op=30 then some (W.fr s) else none)=some v:=hv;have fin:∀{o:Option Int},o=some v→(∀u,o=some u→bZ u)→bZ v:=fun e g=>g v e;refine fin hv ?_;refine aG (P:=fun o=>∀u,o=some u→bZ u) (fun _ u e=>by cases e; exact hok) (fun _=>?_);refine aG (P:=fun o=>∀u,o=some u→bZ u) (fun _ u e=>by cases e; exact ut (fun q hq=>hW.get64 hi hq) _) (fun _=>?_);refine aG (P:=fun o=>∀u,o=some u→bZ u) (fun _ u e=>by cases e; exact j8 _) (fun _=>?_);refine aG (P:=fun o=>∀u,o=some u→bZ u) (fun _ u e=>by cases e; exact aG (P:=bZ) (fun _=>eE) (fun _=>aG (P:=bZ) (fun _=>hW.in64.1) (fun _=>hW.in64.2.1))) (fun _=>?_);refine aG (P:=fun o=>∀u,o=some u→bZ u) (fun _ u e=>by
   cases e;cases hr:W.res s x.a with
   | none=>exact eE
   | some r=>exact hW.res64 hi hr) (fun _=>?_)
  refine aG (P:=fun o=>∀u,o=some u→bZ u) (fun _ u e=>by cases e; exact hW.in64.2.2) (fun _=>?_);refine aG (P:=fun o=>∀u,o=some u→bZ u) (fun _ u e=>by cases e; exact hW.fr64 hi) (fun _ u e=>by cases e)
 dr64:=hW.dr64
 costw s x n:=by
  show cost (if x.op=23 then W.set s x.a x.b n else if x.op=27 then W.asg s x.a n else W.add s (eu h x))≤_;split
  ·exact hW.cset _ _ _ _
  ·split
   ·exact hW.casg _ _ _
   ·exact hW.cadd _ _
 costd s n:=hW.cdr s n
end
end
section
attribute [local irreducible] kO kB bG bH kN kG aA ai aw aB bj knew bB aP ay aE bk aD aU bC bD a8 kbool kint kstr keq kun ksl bz cQ kta kmk kmm ksem ksemU bd aI aL ae kL
def j9 (seed:Int):Int:=IntKind.i64.wrap (IntKind.u64.wrap (IntKind.u64.wrap seed+IntKind.u64.wrap (IntKind.u64.wrap 1*11400714819323198485)))
def Bi (z:Int):Int :=
 let a:=ixor .u64 z (ishr .u64 z 30)
 let b:=IntKind.u64.wrap (a*13787848793156543929)
 let c:=ixor .u64 b (ishr .u64 b 27)
 let d:=IntKind.u64.wrap (c*10723151780598845931)
 ixor .u64 d (ishr .u64 d 31)
def d9 (seed n:Int):Int×Int:=(j9 seed,if n≤0 then 0 else IntKind.i64.wrap ((Bi (IntKind.u64.wrap (j9 seed))).tmod (IntKind.u64.wrap n)))
theorem wo (seed:Int) (w:World):af Tryz.prog 217 #[nV seed,nV 1] w fun v w'=>v=nV (j9 seed)∧w'=w:=by
 refine Ez ?_;unfold OB;unfold nV;rw[cD,cD,dL,eS,cD];exact⟨rfl,rfl⟩
theorem Bj (z:Int) (w:World):af Tryz.prog 218 #[.int .u64 z] w fun v w'=>v=.int .u64 (Bi z)∧w'=w:=by
 refine EA ?_;unfold OD;rw[dz];refine ah (by decide) ?_;rw[fA,dL,dz];refine ah (by decide) ?_;rw[fA,dL,dz];refine ah (by decide) ?_;rw[fA];exact⟨rfl,rfl⟩
theorem wu (seed:Int) (w:World):af Tryz.prog 206 #[nV seed] w fun v w'=>v=.tuple #[nV (j9 seed),.int .u64 (Bi (IntKind.u64.wrap (j9 seed)))]∧w'=w:=by
 refine Ey ?_;unfold OA;refine ab (wo seed w) ?_;rintro v w2 ⟨rfl,rfl⟩;unfold nV;rw[cD];refine ab (Bj _ w2) ?_;rintro v w2 ⟨rfl,rfl⟩;exact⟨rfl,rfl⟩
theorem s5 (seed n:Int) (hn:bZ n) (w:World):af Tryz.prog 175 #[nV seed,nV n] w fun v w'=>v=.tuple #[nV (d9 seed n).1,nV (d9 seed n).2]∧Same w w':=by
 refine Ex ?_;unfold Oz;refine ab (wu seed w) ?_;rintro v w2 ⟨rfl,rfl⟩;unfold d9;refine ak rfl ?_;refine ak rfl ?_;unfold nV;refine db ?_;refine ac ?_;refine am (fun h=>?_) (fun h=>?_)
 ·rw[if_pos h];exact⟨rfl,aH.refl _ _⟩
 ·unfold AP;rw[if_neg h,cD,fB];refine ah ?_ ?_
  ·have:IntKind.u64.wrap n=n:=by
    show n%18446744073709551616=n;have:=hn.2;omega
   omega
  rw[cD];exact⟨rfl,(aH.refl (fun _=>False) _).drew⟩
section
variable {c:WC} {w0:World} {fx:Nat→Prop} {w:World} {S:SM} {t:Nat} {B:BdM}
theorem QG (h:cB c w0 fx w S t B):af Tryz.prog 205 #[.pointer (some ⟨c.bg,0,none⟩)] w fun v w'=>v=natV c.R.length∧w'=w:=by
 have hb:=h.gh;obtain⟨a,n,cc,e,hs,hn⟩:=h.go.is;have hn:n=c.R.length:=by simpa using hn rfl
 rw[e]at hb;refine EE ?_;unfold OM;rw[aJ uq];refine ac ?_;refine az rfl ?_;unfold A2;refine aq ?_;refine aa ?_;refine aj hb rfl ?_;refine aK ?_;exact⟨by rw[hn]; rfl,rfl⟩
def iX (R:List Int) (i:Int):Option Int:=if i<0∨(R.length:Int)≤i then none else R[i.toNat]?
theorem uw {R:List Int} {i:Int} (h0:0≤i) (h1:i<R.length):iX R i=some (R[i.toNat]'(by omega)):=by
 unfold iX;rw[if_neg (by omega),List.getElem?_eq_getElem (by omega)]
theorem Lo (h:cB c w0 fx w S t B) (i:Int):af Tryz.prog 174 #[.pointer (some ⟨c.bg,0,none⟩),nV i] w fun v w'=>v=.tuple #[nV ((iX c.R i).getD 0),.bool (iX c.R i).isSome]∧w'=w:=by
 refine EF ?_;unfold ON;have out:∀Q:PQ,(i<0∨(c.R.length:Int)≤i)→Q (.tuple #[nV ((iX c.R i).getD 0),.bool (iX c.R i).isSome]) w→mR (.pointer (some ⟨c.bg,0,none⟩)) (nV i) (.bool true) Q w:=by
  intro Q ho hQ;have e:iX c.R i=none:=if_pos ho;rw[e]at hQ;unfold mR;refine ac ?_;exact aN rfl hQ
 refine aM ?_;refine ac ?_;refine cz (fun h0=>?_) (fun h0=>out _ (.inl h0) ⟨rfl,rfl⟩);refine ab (QG h) ?_;rintro v w2 ⟨rfl,rfl⟩;refine bI ?_;by_cases h1:(c.R.length:Int)≤i
 ·rw[decide_eq_true h1];exact out _ (.inr h1) ⟨rfl,rfl⟩
 ·rw[decide_eq_false h1];have e:=uw (R:=c.R) (i:=i) (by omega) (by omega);rw[e];have hb:=h.gh;obtain⟨a,n,cc,e,hs,hn⟩:=h.go.is;have hn:n=c.R.length:=by simpa using hn rfl
  subst hn;rw[e]at hb;unfold mR;refine ac ?_;refine az rfl ?_;unfold A3;refine aq ?_;refine aa ?_;refine aj hb rfl ?_;obtain⟨k,rfl⟩:∃k:Nat,i=(k:Int):=⟨i.toNat,by omega⟩
  refine cF (F:=Value.int .i64) hs (by omega) rfl ?_;exact⟨rfl,rfl⟩
theorem wv (h:cB c w0 fx w S t B) (i:Int):af Tryz.prog 129 #[.pointer (some ⟨c.bw,0,none⟩),nV i] w fun v w'=>v=.tuple #[nV ((iX c.R i).getD 0),.bool (iX c.R i).isSome]∧w'=w:=by
 refine ul ?_;unfold K5;rw[aJ fK];refine ac ?_;refine az rfl ?_;unfold AO;refine aq ?_;refine aa ?_;refine aj h.here rfl ?_;refine ab (Lo h i) ?_;rintro v w2 ⟨rfl,rfl⟩;refine ak rfl ?_;refine ak rfl ?_;exact⟨rfl,rfl⟩
theorem cB.tune (h:cB c w0 fx w S t B) {w':World} {R:List Int} {frame seed:Int} {gn:Value} (hgn:∃n:Int,gn=.int .i64 n) {fp:Nat→Prop} (m:aH fp w w') (hf:∀k,fp k→k=c.bw∨k=c.bg∨bf c.gs k)
  (hb:aX w' c.bw=some (.cells ({ c with R:=R,frame:=frame,seed:=seed,gn:=gn }:WC).cells 109)) (hg:aX w' c.bg=some (.cells #[c.gm,c.gs,gn] 174)) (ho:bV w' c.gs 1 (R.map (Value.int .i64))) :
  cB { c with R:=R,frame:=frame,seed:=seed,gn:=gn } w0 fx w' S t B∧aH (fun k=>w0.heap.size≤k∧c.mine k) w w':=by
 have hm:∀k,fp k→c.mine k:=fun k hk=>by
  rcases hf k hk with e | e | e
  ·exact .inl e
  ·exact .inr (.inr (.inl e))
  ·exact .inr (.inr (.inr e))
 have hA:=(h.A.other m (fun k hk=>h.fm k (hm k hk))).less (fx':=fx) (fun k hk=>.inl hk);obtain⟨a1,a2,a3⟩:=h.ap;refine⟨⟨hb,h.fm,h.comps.mod m (fun k f e hk=>?_),hg,ho,h.rvc,h.good,h.rl,hA,h.link,h.cs,hgn,h.ap⟩,m.mono fun k _ hk=>⟨(h.A.lt (h.fm k (hm k hk))).1,hm k hk⟩⟩;rcases hf k hk with hk | hk | hk
 ·exact(a3 k f e).2 hk
 ·exact(a3 k f e).1 hk
 ·exact(a1 k hk).2.2 f e
def WC.tune (c:WC) (R:List Int) (frame seed:Int) (gn:Value):WC:={ c with R:=R,frame:=frame,seed:=seed,gn:=gn }
theorem O2 (h:cB c w0 fx w S t B) (n:Int) (hn:bZ n):af Tryz.prog 131 #[.pointer (some ⟨c.bw,0,none⟩),nV n] w fun v w'=>v=.tuple #[nV (d9 c.seed n).2,.nilIface]∧cB (c.tune c.R c.frame (d9 c.seed n).1 c.gn) w0 fx w' S t B∧aH (fun k=>w0.heap.size≤k∧c.mine k) w w':=by
 refine uk ?_;unfold K3;rw[aJ fK];refine ac ?_;refine az rfl ?_;unfold AN;refine aq ?_;refine aa ?_;refine aj h.here rfl ?_;refine aW (cs:=[.int .i64 8,.int .i64 0,.int .i64 0,.int .i64 0,.int .i64 0,.int .i64 0,.int .i64 0,.int .i64 0,.slice none 0 0,.int .i64 0,.int .i64 c.seed]) rfl ?_;refine ab (ol h.here _) ?_;rintro v w10 ⟨rfl,h10⟩;have hb10:=h10.get h.here (fun h=>h);refine aq ?_;refine aa ?_;refine aj hb10 rfl ?_;refine ab (s5 c.seed n hn w10) ?_;rintro v w14 ⟨rfl,h14⟩;refine ak rfl ?_;refine ak rfl ?_;have m14:=h10.trans h14;have h':=h.loc m14;unfold nV;refine aq ?_;refine aa ?_;refine bJ h'.here rfl rfl (by show 7<9; omega) fun w18 h18 hs18 hb18=>?_;obtain⟨a1,a2,a3⟩:=h.ap;have hw:=h'.tune (R:=c.R) (frame:=c.frame) (seed:=(d9 c.seed n).1) (gn:=c.gn) h.gi h18 (fun k hk=>.inl hk) hb18 (h18.get h'.gh a2) (h'.go.mod h18 fun k hk e=>(a1 k hk).2.1 e);exact⟨rfl,hw.1,(aH.of_same m14).trans hw.2⟩
theorem O3 (h:cB c w0 fx w S t B) (hf:0≤c.frame) (hlt:c.frame<1073741824):af Tryz.prog 34 #[.pointer (some ⟨c.bw,0,none⟩)] w fun v w'=>v=.nilIface∧cB (c.tune c.R (c.frame+1) c.seed c.gn) w0 fx w' S t B∧aH (fun k=>w0.heap.size≤k∧c.mine k) w w':=by
 refine K4 ?_;unfold R6;rw[aJ fK];refine ac ?_;refine az rfl ?_;refine aq ?_;refine aa ?_;refine aj h.here rfl ?_;refine bI ?_;refine ac ?_;refine az (bT (by omega)) ?_;unfold G9;refine aq ?_;refine aa ?_;refine aj h.here rfl ?_;refine aW (cs:=[.int .i64 9,.int .i64 0,.int .i64 0,.int .i64 0,.int .i64 0,.int .i64 0,.int .i64 0,.int .i64 0,.slice none 0 0,.int .i64 0,.int .i64 c.frame]) rfl ?_;refine ab (ol h.here _) ?_;rintro v w10 ⟨rfl,h10⟩;have h':=h.loc h10;refine aq ?_;refine aa ?_;refine aj h'.here rfl ?_;refine aY (by omega) (by omega) ?_;refine aq ?_;refine aa ?_;refine bJ h'.here rfl rfl (by show 6<9; omega) fun w18 h18 hs18 hb18=>?_;obtain⟨a1,a2,a3⟩:=h.ap;have hw:=h'.tune (R:=c.R) (frame:=c.frame+1) (seed:=c.seed) (gn:=c.gn) h.gi h18 (fun k hk=>.inl hk) hb18 (h18.get h'.gh a2) (h'.go.mod h18 fun k hk e=>(a1 k hk).2.1 e);exact⟨rfl,hw.1,(aH.of_same h10).trans hw.2⟩
end
end
section
attribute [local irreducible] kO kB bG bH kN kG aA ai aw aB bj knew bB aP ay aE bk aD aU bC bD a8 kbool kint kstr keq kun ksl bz cQ kta kmk kmm ksem ksemU bd aI aL ae kL
section
variable {pr:Nat→Prop} {Sa:Nat→Addr} {c:WC} {w0:World} {fx:Nat→Prop} {w:World} {S:SM} {t:Nat} {B:BdM}
def gO (R:List Int) (i n:Int):List Int:=if i<0∨(R.length:Int)≤i then R else R.set i.toNat n
theorem Lp (h:cC Sa k lo x w) (hlo:lo≤w.heap.size):af Tryz.prog 103 #[x] w fun v w'=>cC Sa k lo v w'∧Same w w':=by
 refine ED ?_;unfold OL;refine ab (gF _ h hlo) ?_;rintro v w' ⟨h1,h2⟩;exact⟨h1,h2⟩
theorem Bk (hL:cO pr Sa w0) (h7:pr 7) (h:cB c w0 fx w S t B) {i:Int} (ho:i<0∨(c.R.length:Int)≤i) (n:Int) :
  af Tryz.prog 178 #[.pointer (some ⟨c.bg,0,none⟩),nV i,nV n] w fun v w'=>(∃e,v=.tuple #[nV 0,e]∧cC Sa 7 w.heap.size e w')∧Same w w':=by
 have e:iX c.R i=none:=if_pos ho;refine un ?_;unfold Le;refine ab (Lo h i) ?_;rintro v w2 ⟨rfl,rfl⟩;rw[e];refine ak rfl ?_;refine ak rfl ?_;rw[aJ uq];refine ac ?_;refine az rfl ?_;refine bP ?_;refine ac ?_;refine aN rfl ?_;refine dD (hL.same h.A.same0) h7 rfl rfl ?_;refine ab (Lp (cC.sent Sa 7 w2.heap.size w2) (Nat.le_refl _)) ?_;rintro v w4 ⟨hE,h4⟩;exact⟨⟨_,rfl,hE⟩,h4⟩
theorem ET (h:cB c w0 fx w S t B) {k:Nat} (hk:k<c.R.length) (n:Int) :
  af Tryz.prog 178 #[.pointer (some ⟨c.bg,0,none⟩),nV k,nV n] w fun v w'=>(∃was,v=.tuple #[nV was,.nilIface])∧∃gn,(∃z:Int,gn=.int .i64 z)∧aH (fun j=>j=c.bg∨bf c.gs j) w w'∧aX w' c.bg=some (.cells #[c.gm,c.gs,gn] 174)∧bV w' c.gs 1 ((c.R.set k n).map (Value.int .i64)):=by
 have e:=uw (R:=c.R) (i:=(k:Int)) (by omega) (by omega);obtain⟨z,hz⟩:=h.gi;obtain⟨a1,a2,a3⟩:=h.ap;have hb:=h.gh;obtain⟨bc,m,cp,arr,ty,hgs,hbc,hl1,hl2,hl3,hl4,hl5⟩:=h.go.view (by intro e; have:=congrArg List.length e; simp at this; rw[this]at hk; cases hk);have hm:m=c.R.length:=by simpa using hl1.symm
 have hv:bf c.gs bc:=⟨0,m,cp,hgs⟩
 refine un ?_;unfold Le;refine ab (Lo h k) ?_;rintro v w2 ⟨rfl,rfl⟩;rw[e];refine ak rfl ?_;refine ak rfl ?_;rw[aJ uq];refine ac ?_;refine az rfl ?_;refine bP ?_;refine ac ?_;refine az rfl ?_;unfold A4;refine aq ?_;refine aa ?_;rw[hgs]at hb;refine aj hb rfl ?_;unfold nV;rw[ce];refine ah (by omega) ?_;rw[add_mk];refine aQ (o:=0+k*1) (vs:=[.int .i64 n]) hbc rfl rfl rfl (by simp; omega) (by simp) fun w17 h17 hs17 hb17=>?_;have hb17':=h17.get hb (fun e=>(a1 bc hv).1 e.symm);rw[hz]at hb17';refine aq ?_;refine aa ?_;refine aj hb17' rfl ?_;rw[eS];refine aq ?_;refine aa ?_;refine bJ hb17' rfl rfl (by show 2<3; omega) fun w22 h22 hs22 hb22=>?_;have hb22:aX w22 c.bg=some (.cells #[c.gm,.slice (some ⟨bc,0,none⟩) m cp,.int .i64 (IntKind.i64.wrap (z+1))] 174):=hb22;have ho:=h.go;rw[hgs]at ho;rw[hgs];rw[Nat.zero_add,Nat.mul_one]at hb17;refine⟨⟨_,rfl⟩,_,⟨_,rfl⟩,(h17.mono fun j _ e=>.inr ⟨0,m,cp,by rw[e]⟩).trans (h22.mono fun j _ e=>.inl e),hb22,?_⟩;have:=(ho.set1 hbc hb17 (by simpa using hk)).mod h22 fun j hj e=>(a1 j (hgs▸hj)).1 e;rw[List.map_set];exact this
theorem EU (hL:cO pr Sa w0) (h7:pr 7) (h:cB c w0 fx w S t B) (i n:Int):af Tryz.prog 133 #[.pointer (some ⟨c.bw,0,none⟩),nV i,nV n] w fun v w'=>∃gn,cB (c.tune (gO c.R i n) c.frame c.seed gn) w0 fx w' S t B∧aH (fun k=>w0.heap.size≤k∧c.mine k) w w':=by
 unfold gO;refine uj ?_;unfold K2;rw[aJ fK];refine ac ?_;refine az rfl ?_;unfold AM;refine aq ?_;refine aa ?_;refine aj h.here rfl ?_;by_cases ho:i<0∨(c.R.length:Int)≤i
 ·rw[if_pos ho];refine ab (Bk hL h7 h ho n) ?_;rintro v w9 ⟨⟨e,rfl,hE⟩,h9⟩;refine ak rfl ?_;refine ak rfl ?_;obtain⟨ty,y,rfl⟩:=hE.if;rw[dB bU];refine ac ?_;refine aN rfl ?_;refine ab (jx hE h9.size) ?_;rintro v w15 ⟨_,h15⟩;exact⟨c.gn,h.loc (h9.trans h15),aH.of_same (h9.trans h15)⟩
 ·rw[if_neg ho];obtain⟨k,rfl⟩:∃k:Nat,i=(k:Int):=⟨i.toNat,by omega⟩
  rw[Int.toNat_natCast];obtain⟨a1,a2,a3⟩:=h.ap;refine ab (ET h (k:=k) (by omega) n) ?_;rintro v w9 ⟨⟨was,rfl⟩,gn,hgn,h9,hb9,ho9⟩;have hh9:=h9.get h.here (fun e=>by
   rcases e with e | e
   ·exact a2 e.symm
   ·exact(a1 _ e).2.1 rfl)
  refine ak rfl ?_;refine ak rfl ?_;rw[aV bU];refine ac ?_;refine az rfl ?_;unfold AL;refine aW (cs:=[.int .i64 6,.int .i64 0,.int .i64 0,.int .i64 0,.int .i64 0,.int .i64 0,.int .i64 0,.int .i64 0,.slice none 0 0,.int .i64 k,nV was]) rfl ?_;refine ab (ol hh9 _) ?_;rintro v w18 ⟨rfl,h18⟩;have hw:=h.tune (R:=c.R.set k n) (frame:=c.frame) (seed:=c.seed) (gn:=gn) hgn (h9.trans (aH.of_same h18)) (fun j hj=>.inr hj) (h18.get hh9 (fun h=>h)) (h18.get hb9 (fun h=>h)) (ho9.same h18);exact⟨gn,hw.1,hw.2⟩
theorem ow (he:∀w2,Same w w2→af Tryz.prog 97 #[wp,x] w2 fun v w'=>(∃e,v=.tuple #[entV 0 0,e]∧cC Sa k w2.heap.size e w')∧Same w2 w') :
  af Tryz.prog 173 #[wp,x,n] w fun v w'=>(∃e,v=.tuple #[.agg (⟨0,0,0,0,0,0⟩:Part).cells.toArray,e]∧sX e)∧Same w w':=by
 refine pC ?_;unfold Ew;refine ar fun w2 h2 hs2 hb2=>?_;refine ab (he _ h2) ?_;rintro v w4 ⟨⟨e,rfl,hE⟩,h4⟩;unfold entV;refine ak rfl ?_;refine ak rfl ?_;refine ar fun w8 h8 hs8 hb8=>?_;refine aQ (vs:=[.int .i64 0,.int .i64 0]) hb8 rfl rfl rfl (by simp) (by simp) fun w9 h9 hs9 hb9=>?_;have m9:Same w4 w9:=h8.trans' (h9.mono fun k _ e=>.inr (by omega));have m29:=h4.trans m9;have hb29:=m29.get hb2 (fun h=>h);obtain⟨ty,y,rfl⟩:=hE.if;rw[dB bU];refine ac ?_;refine aN rfl ?_;refine aW (cs:=(⟨0,0,0,0,0,0⟩:Part).cells) rfl ?_;refine aQ (vs:=(⟨0,0,0,0,0,0⟩:Part).cells) hb29 rfl rfl rfl (by simp[Part.cells]) (by simp[Part.cells]) fun w12 h12 hs12 hb12=>?_;have hb12:aX w12 w.heap.size=some (.cells (⟨0,0,0,0,0,0⟩:Part).cells.toArray 95):=hb12;refine au hb12 rfl (by omega) ?_;exact⟨⟨_,rfl,_,_,rfl⟩,(h2.trans m29).trans' (h12.mono fun k _ e=>.inr (by omega))⟩
theorem ox (he:af Tryz.prog 97 #[wp,x] w fun v w'=>(∃e,v=.tuple #[entV 0 0,e]∧cC Sa k w.heap.size e w')∧Same w w') :
  af Tryz.prog 132 #[wp,x,a,b,d] w fun v w'=>Same w w':=by
 refine uh ?_;unfold K1;refine ab he ?_;rintro v w4 ⟨⟨e,rfl,hE⟩,h4⟩;unfold entV;refine ak rfl ?_;refine ak rfl ?_;refine ar fun w8 h8 hs8 hb8=>?_;refine aQ (vs:=[.int .i64 0,.int .i64 0]) hb8 rfl rfl rfl (by simp) (by simp) fun w9 h9 hs9 hb9=>?_;have m9:Same w4 w9:=h8.trans' (h9.mono fun k _ e=>.inr (by omega));obtain⟨ty,y,rfl⟩:=hE.if;rw[dB bU];refine ac ?_;refine aN rfl ?_;exact h4.trans m9
theorem wx (hL:cO pr Sa w0) (h17:pr 17) (h:cB c w0 fx w S t B) {x:Int} (hf:B.l.find? (fun z=>decide (((z.1:Nat):Int)=x))=none) (n:Value) :
  af Tryz.prog 173 #[.pointer (some ⟨c.bw,0,none⟩),.int .i64 x,n] w fun v w'=>(∃e,v=.tuple #[.agg (⟨0,0,0,0,0,0⟩:Part).cells.toArray,e]∧sX e)∧Same w w' :=
 ow fun w2 m=>mS hL h17 (h.loc m) hf
theorem wA (hL:cO pr Sa w0) (h17:pr 17) (h:cB c w0 fx w S t B) {x:Int} (hf:B.l.find? (fun z=>decide (((z.1:Nat):Int)=x))=none) (a b d:Value) :
  af Tryz.prog 132 #[.pointer (some ⟨c.bw,0,none⟩),.int .i64 x,a,b,d] w fun v w'=>Same w w' :=
 ox (mS hL h17 h hf)
end
end
section
attribute [local irreducible] kO kB bG bH kN kG aA ai aw aB bj knew bB aP ay aE bk aD aU bC bD a8 kbool kint kstr keq kun ksl bz cQ kta kmk kmm ksem ksemU bd aI aL ae kL
theorem rr {pr:Nat→Prop} (hL:cO pr Sa w) (h2:pr 2) (x:OrdM) :
  af Tryz.prog 134 #[.pointer none,x.val] w fun v w'=>cC Sa 2 w.heap.size v w'∧Same w w':=by
 unfold OrdM.val;refine lx ?_;unfold A0;refine ar fun w2 hm2 hs2 hb2=>?_;rw[aJ rj];refine ac ?_;refine aN rfl ?_;refine dD (hL.same hm2) h2 rfl rfl ?_;refine ab (sY (cC.sent Sa 2 w.heap.size w2) (by omega)) ?_;rintro v w5 ⟨hE,h5⟩;exact⟨hE,hm2.trans h5⟩
structure NB where
 R:List Int
 seed:Int
 l:List OrdM
 gv:Nat
 dr:Nat
def cJ (og:Bool) (n most:Nat) (s:NB) (x:OrdM):NB :=
 if og=true then(if x.fit n then(if most≤s.gv then { s with dr:=s.dr+1 } else { s with l:=s.l++[x],gv:=s.gv+1 }) else s) else s
theorem c9.tune {c c':WC} {o:OC} {X fx U:Nat→Prop} (h0:0<o.L.length) (hO:nF o U w l gv dr) (hU:∀k,U k→fx k∧¬X k∧¬c.mine k) (hX:∀k,X k→fx k) (hap:∀k,X k→¬c.mine k)
  (hmi:c'.mine=c.mine) (hW':cB c' w0 fx w' S t B) (m:aH (fun k=>w0.heap.size≤k∧c.mine k) w w'):c9 c' w0 o X w' S t B l gv dr∧aH (fun k=>w0.heap.size≤k∧¬X k) w w' :=
 ⟨⟨⟨fx,U,hW',hO.mod m (fun k hk hn=>(hU k hk).2.2 hn.2),by rw[hmi]; exact hU,hX⟩,h0⟩,m.mono fun k _ hk=>⟨hk.1,fun hx=>hap k hx hk.2⟩⟩
theorem Bl (h:di R) (i:Int) {n:Int} (hn:bZ n):di (gO R i n):=by
 unfold gO;split
 ·exact h
 ·intro v hv;rcases List.mem_or_eq_of_mem_set hv with hv | hv
  ·exact h v hv
  ·rw[hv]; exact hn
theorem ux (seed n:Int):bZ (d9 seed n).2:=aG (P:=bZ) (fun _=>eE) (fun _=>fX _)
def SK (c0:WC) (o:OC) (og:Bool) (i0 i1 who:Int):HC:=⟨some ⟨c0.bw,0,none⟩,if og=true then some ⟨o.bo,0,none⟩ else none,i0,i1,who⟩
def cI (s:NB):Nat:=s.dr+s.gv
end
section
def plainQ (i:Nat):Comp:=⟨⟨#[UInt8.ofNat (97+i)]⟩,((1+i:Nat):Int),decide (i<3),(i:Int),0,0,0⟩
def plainC:List Comp:=(List.range 4).map plainQ
def plainR:List ResM:=[⟨⟨#[115]⟩,5⟩,⟨⟨#[116]⟩,0⟩]
theorem s6:plainC.length=4:=rfl
theorem i9 (h:q∈plainC):∃i,i<4∧q=plainQ i:=by
 obtain⟨i,hi,rfl⟩:=List.mem_map.1 h;exact⟨i,by simpa using hi,rfl⟩
theorem s7 (h1:97≤n) (h2:n≤122):kz ⟨#[UInt8.ofNat n]⟩ :=
 ⟨by show 1≤1; omega,by show 1≤8; omega,fun x hx=>by
  have:x=UInt8.ofNat n:=by
   have hx:x∈[UInt8.ofNat n]:=hx;simpa using hx
  subst this;rw[UInt8.toNat_ofNat'];omega⟩
theorem ed:dQ plainC where
 len:=by decide
 names q hq:=by
  obtain⟨i,hi,rfl⟩:=i9 hq;exact s7 (by omega) (by omega)
 apart i j hi hj e:=by
  have hi:i<4:=hi;have hj:j<4:=hj;simp only[plainC,List.getElem_map,List.getElem_range,plainQ]at e;have e2:[UInt8.ofNat (97+i)]=[UInt8.ofNat (97+j)]:=congrArg (fun b:ByteArray=>b.data.toList) e;have e3:=congrArg UInt8.toNat (List.cons.inj e2).1;rw[UInt8.toNat_ofNat',UInt8.toNat_ofNat']at e3;omega
 wide q hq:=by
  obtain⟨i,hi,rfl⟩:=i9 hq;exact⟨1+i,rfl,by omega,by omega⟩
 clean q hq:=by
  obtain⟨i,hi,rfl⟩:=i9 hq;exact⟨fun _=>rfl,fun _=>rfl,fun _=>rfl⟩
theorem gw:iR plainC plainR where
 len:=by decide
 names r hr:=by
  simp only[plainR,List.mem_cons,List.not_mem_nil,or_false]at hr;rcases hr with rfl | rfl
  ·exact s7 (n:=115) (by omega) (by omega)
  ·exact s7 (n:=116) (by omega) (by omega)
 apart i j hi hj e:=by
  have hi:i<2:=hi;have hj:j<2:=hj;have h1:i=0∨i=1:=by omega
  have h2:j=0∨j=1:=by omega
  rcases h1 with rfl | rfl<;>rcases h2 with rfl | rfl
  ·rfl
  ·exact absurd (congrArg (fun b:ByteArray=>b.data.toList) e) (by simp[plainR])
  ·exact absurd (congrArg (fun b:ByteArray=>b.data.toList) e) (by simp[plainR])
  ·rfl
 other r hr q hq e:=by
  obtain⟨i,hi,rfl⟩:=i9 hq;have e2:[UInt8.ofNat (97+i)]=r.name.data.toList:=congrArg (fun b:ByteArray=>b.data.toList) e;simp only[plainR,List.mem_cons,List.not_mem_nil,or_false]at hr;rcases hr with rfl | rfl
  ·have e3:=congrArg UInt8.toNat (List.cons.inj (e2:[UInt8.ofNat (97+i)]=[115])).1;rw[UInt8.toNat_ofNat']at e3;have:(97+i)%2^8=115:=e3;omega
  ·have e3:=congrArg UInt8.toNat (List.cons.inj (e2:[UInt8.ofNat (97+i)]=[116])).1;rw[UInt8.toNat_ofNat']at e3;have:(97+i)%2^8=116:=e3;omega
theorem wB:∀j,j<4→(⟨#[97,98,99,100]⟩:ByteArray).extract j (j+1)=⟨#[UInt8.ofNat (97+j)]⟩
 | 0,_=>rfl | 1,_=>rfl | 2,_=>rfl | 3,_=>rfl
 | n+4,h=>by omega
end
section
def Hw (x3 x7:Value) x8 (J5:Value→World→Prop) (Q:PQ) w:=kint .i64 .add x8 (.int .i64 1) fun v35=>J5 v35 w
def Hx x3 x7 x8 (J5:Value→World→Prop) (Q:PQ) (w:World):=kN x7<|ai 7 x7 fun v22=>aw v22 w.drew fun v23=>kG (w.drew=w.drew)<|ai 1 x3 fun v24=>aw v24 w.drew fun v25=>kG (w.drew=w.drew)<|bz (some (.slice 147)) (some 2) v25 x8 fun v26=>ai 1 v26 fun v27=>aw v27 w.drew fun v28=>kG (w.drew=w.drew)<|ay [.int .i64 0] 1 [(0,1,v28)] 3 w.drew fun v29 w30=>kG (aw v22 w30 fun v36=>v36=v23∧w30=w30)<|ksem Tryz.prog (Builtin.append_ #[49,49] 0 #[v23,v29]) w30 fun v31 w32=>kN x7<|ai 7 x7 fun v33=>bj 1 v33 v31 w32 fun w34=>Hw x3 x7 x8 J5 Q w34
def O4 x7 (Q:PQ) w:=Q x7 w
def Hy x8 x3 x7 (J5:Value→World→Prop) (Q:PQ) w:=ai 1 x3 fun v17=>aw v17 w fun v18=>aU v18 fun v19=>kint .i64 .lss x8 v19 fun v21=>kB v21 fun b37=>aA b37 (Hx x3 x7 x8 J5 Q w) (O4 x7 Q w)
def Hz x1 x2 x3 (Q:PQ) w:=aB 2 x3 w fun v13=>aP [.slice none 0 0,.slice none 0 0,.int .i64 0,.slice none 0 0,.int .i64 0,.int .i64 0,.int .i64 0,.slice none 0 0,.slice none 0 0,.bool false] [(0,2,v13),(2,1,x1),(5,1,(.int .i64 1)),(6,1,x2)] fun v14=>knew (Value.cells v14) 73 w fun v15 w16=>kL fun(I:Value→World→Prop) (μ:Value→World→Nat)=>I (.int .i64 0) w16∧∀(x8:Value) (w1:World),I x8 w1→Hy x8 x3 v15 (fun y8 w2=>I y8 w2∧μ y8 w2<μ x8 w1) Q w1
def uy x1 x2 x3 x20 (Q:PQ) w:=kB x20 fun b38=>aA b38 (Q (.pointer none) w) (Hz x1 x2 x3 Q w)
def Sf x0 x1 x2 (Q:PQ) w:=knew (Value.cells x0) 70 w fun v1 w2=>aB 2 v1 w2 fun v3=>ae Tryz.prog 69 #[v3] w2 fun v4 w5=>aU v4 fun v6=>kint .i64 .gtr v6 (.int .i64 0) fun v8=>kB v8 fun b9=>aA (!b9) (kint .i64 .lss x1 (.int .i64 0) fun v10=>kB v10 fun b11=>aA (!b11) (kint .i64 .gtr x1 (.int .i64 64) fun v12=>uy x1 x2 v1 v12 Q w5) (uy x1 x2 v1 (.bool true) Q w5)) (uy x1 x2 v1 (.bool true) Q w5)
theorem Lq (h:Sf x0 x1 x2 Q w):af Tryz.prog 32 #[x0,x1,x2] w Q :=
 ax (c:=Tryz.f32.body.get rfl) [(5,[8])] Tryz.func32 rfl rfl (args:=[x0,x1,x2]) rfl (by kernel_rfl) h
def HA x0 (Q:PQ) w:=kN x0<|ai 4 x0 fun v4=>aw v4 w fun v5=>aP [.int .i64 0,.int .i64 0,.int .i64 0,.int .i64 0,.int .i64 0,.int .i64 0,.int .i64 0,.int .i64 0,.slice none 0 0,.int .i64 0,.int .i64 0] [(0,1,(.int .i64 9)),(10,1,v5)] fun v6=>ae Tryz.prog 71 #[x0,v6] w fun v7 w8=>kN x0<|ai 4 x0 fun v9=>aw v9 w8 fun v10=>kint .i64 .add v10 (.int .i64 1) fun v11=>kN x0<|ai 4 x0 fun v12=>bj 1 v12 v11 w8 fun w13=>Q (.int .i64 0) w13
def Sg x0 (Q:PQ) w:=kN x0<|ai 4 x0 fun v1=>aw v1 w fun v2=>kint .i64 .geq v2 (.int .i64 1073741824) fun v3=>kB v3 fun b14=>aA b14 (Q (.int .i64 6) w) (HA x0 Q w)
theorem Lr (h:Sg x0 Q w):af Tryz.prog 35 #[x0] w Q :=
 ax (c:=Tryz.f35.body.get rfl) [] Tryz.func35 rfl rfl (args:=[x0]) rfl (by kernel_rfl) h
def HB x0 x6 (Q:PQ) w:=kN x0<|ai 5 x0 fun v17=>aw v17 w fun v18=>kN x0<|ai 5 x0 fun v19=>aw v19 w fun v20=>aP [.int .i64 0,.int .i64 0,.int .i64 0,.int .i64 0,.int .i64 0,.int .i64 0,.int .i64 0,.int .i64 0,.slice none 0 0,.int .i64 0,.int .i64 0] [(0,1,(.int .i64 7)),(10,1,v20)] fun v21=>ae Tryz.prog 71 #[x0,v21] w fun v22 w23=>aP [.int .i64 0,.int .i64 0,.int .i64 0,.int .i64 0,.int .i64 0,.int .i64 0,.int .i64 0,.int .i64 0,.slice none 0 0,.int .i64 0,.int .i64 0] [(0,1,(.int .i64 2)),(1,1,v18)] fun v24=>ae Tryz.prog 71 #[x0,v24] w23 fun v25 w26=>kN x0<|ai 5 x0 fun v27=>aw v27 w26 fun v28=>kint .i64 .add v28 (.int .i64 1) fun v29=>kN x0<|ai 5 x0 fun v30=>bj 1 v30 v29 w26 fun w31=>ae Tryz.prog 76 #[x0,v18,x6] w31 fun v32 w33=>Q (.tuple #[v18,.int .i64 0]) w33
def Bm x0 x6 x34 (Q:PQ) w:=kB x34 fun b34=>aA b34 (Q (.tuple #[.int .i64 0,.int .i64 6]) w) (HB x0 x6 Q w)
def HD x0 x6 (Q:PQ) (w:World):=kN x0<|ai 3 x0 fun v6=>aw v6 w.drew fun v7=>kG (w.drew=w.drew)<|aU v7 fun v8=>kN x0<|ai 2 x0 fun v10=>aw v10 w.drew fun v11=>kG (w.drew=w.drew)<|kint .i64 .geq v8 v11 fun v12=>kB v12 fun b13=>aA (!b13) (kN x0<|ai 5 x0 fun v14=>aw v14 w.drew fun v15=>kG (w.drew=w.drew)<|kint .i64 .gtr v15 (.int .i64 1073741824) fun v16=>Bm x0 x6 v16 Q w.drew) (Bm x0 x6 (.bool true) Q w.drew)
def Sh x0 x1 (Q:PQ) w:=ae Tryz.prog 75 #[x0,x1] w fun v1 w2=>aE v1 0 fun v3=>aE v1 1 fun v4=>kint .i64 .neq v4 (.int .i64 0) fun v5=>kB v5 fun b35=>aA b35 (Q (.tuple #[.int .i64 0,v4]) w2) (HD x0 v3 Q w2)
theorem Ls (h:Sh x0 x1 Q w):af Tryz.prog 37 #[x0,x1] w Q :=
 ax (c:=Tryz.f37.body.get rfl) [] Tryz.func37 rfl rfl (args:=[x0,x1]) rfl (by kernel_rfl) h
def HE (x0 x1:Value) x6 x7 x8 (J4:Value→Value→Value→World→Prop) (Q:PQ) w:=kint .i64 .add x8 (.int .i64 1) fun v24=>J4 x6 x7 v24 w
def Bn x0 x1 x6 x7 x8 (J4:Value→Value→Value→World→Prop) (Q:PQ) w:=bz (some (.slice 95)) (some 6) x1 x8 fun v20=>aB 6 v20 w fun v21=>ae Tryz.prog 126 #[x6,v21] w fun v22 w23=>HE x0 x1 v22 x7 x8 J4 Q w23
def HF x0 x1 x6 x7 x8 (J4:Value→Value→Value→World→Prop) (Q:PQ) w:=kB x7 fun b13=>aA (!b13) (bz (some (.slice 95)) (some 6) x1 x8 fun v14=>ai 0 v14 fun v15=>aw v15 w fun v16=>ae Tryz.prog 125 #[x6,v16] w fun v17 w18=>kint .i64 .geq v17 (.int .i64 0) fun v19=>Bn x0 x1 x6 v19 x8 J4 Q w18) (Bn x0 x1 x6 (.bool true) x8 J4 Q w)
def HG x0 x1 x6 x7 x8 (J4:Value→Value→Value→World→Prop) (Q:PQ) (w:World):=kN x0<|ai 0 x0 fun v6=>aB 2 v6 w.drew fun v7=>kG (w.drew=w.drew)<|bz (some (.slice 95)) (some 6) x1 x8 fun v8=>aB 6 v8 w.drew fun v9=>kG (w.drew=w.drew)<|ae Tryz.prog 124 #[v7,v9] w.drew fun v10 w11=>kun .not (some .bool) v10 fun v12=>kB v12 fun b25=>aA b25 (Q (.tuple #[.slice none 0 0,.int .i64 1]) w11) (HF x0 x1 x6 x7 x8 J4 Q w11)
def O5 x6 (Q:PQ) w:=Q (.tuple #[x6,.int .i64 0]) w
def HH x6 x7 (Q:PQ) w:=kB x7 fun b26=>aA b26 (Q (.tuple #[.slice none 0 0,.int .i64 9]) w) (O5 x6 Q w)
def HI x6 x7 x8 x0 x1 (J4:Value→Value→Value→World→Prop) (Q:PQ) w:=aU x1 fun v3=>kint .i64 .lss x8 v3 fun v5=>kB v5 fun b27=>aA b27 (HG x0 x1 x6 x7 x8 J4 Q w) (HH x6 x7 Q w)
def Si x0 x1 (Q:PQ) w:=ay [.int .i64 0,.int .i64 0,.int .i64 0,.int .i64 0,.int .i64 0,.int .i64 0] 0 [] 95 w fun v1 w2=>kL fun(I:Value→Value→Value→World→Prop) (μ:Value→Value→Value→World→Nat)=>I v1 (.bool false) (.int .i64 0) w2∧∀(x6 x7 x8:Value) (w1:World),I x6 x7 x8 w1→HI x6 x7 x8 x0 x1 (fun y6 y7 y8 w2=>I y6 y7 y8 w2∧μ y6 y7 y8 w2<μ x6 x7 x8 w1) Q w1
theorem Lt (h:Si x0 x1 Q w):af Tryz.prog 75 #[x0,x1] w Q :=
 ax (c:=Tryz.f75.body.get rfl) [(4,[6,7,8])] Tryz.func75 rfl rfl (args:=[x0,x1]) rfl (by kernel_rfl) h
def HJ (x0 x1 x2:Value) x6 x7 x8 (J3:Value→Value→Value→World→Prop) (Q:PQ) w:=kint .i64 .add x8 (.int .i64 1) fun v29=>J3 x6 x7 v29 w
def Bo x0 x1 x2 x6 x7 x8 (J3:Value→Value→Value→World→Prop) (Q:PQ) w:=kN x0<|ai 3 x0 fun v21=>aw v21 w fun v22=>bz (some (.slice 101)) (some 2) v22 x8 fun v23=>aB 2 v23 w fun v24=>ay [.int .i64 0,.slice none 0 0] 1 [(0,2,v24)] 101 w fun v25 w26=>ksem Tryz.prog (Builtin.append_ #[48,48] 0 #[x6,v25]) w26 fun v27 w28=>HJ x0 x1 x2 v27 x7 x8 J3 Q w28
def Bp x0 x1 x2 x6 x7 x8 x32 (J3:Value→Value→Value→World→Prop) (Q:PQ) w:=kB x32 fun b30=>aA b30 (aP [.int .i64 0,.slice none 0 0] [(0,1,x1),(1,1,x2)] fun v16=>ay [.int .i64 0,.slice none 0 0] 1 [(0,2,v16)] 101 w fun v17 w18=>ksem Tryz.prog (Builtin.append_ #[48,48] 0 #[x6,v17]) w18 fun v19 w20=>Bo x0 x1 x2 v19 (.bool true) x8 J3 Q w20) (Bo x0 x1 x2 x6 x7 x8 J3 Q w)
def HK x0 x1 x2 x6 x7 x8 (J3:Value→Value→Value→World→Prop) (Q:PQ) w:=kun .not (some .bool) x7 fun v8=>kB v8 fun b9=>aA b9 (kN x0<|ai 3 x0 fun v10=>aw v10 w fun v11=>bz (some (.slice 101)) (some 2) v11 x8 fun v12=>ai 0 v12 fun v13=>aw v13 w fun v14=>kint .i64 .gtr v14 x1 fun v15=>Bp x0 x1 x2 x6 x7 x8 v15 J3 Q w) (Bp x0 x1 x2 x6 x7 x8 (.bool false) J3 Q w)
def Bq x0 x6 (Q:PQ) w:=kN x0<|ai 3 x0 fun v37=>bj 1 v37 x6 w fun w38=>Q (.tuple #[]) w38
def HL x0 x1 x2 x6 x7 (Q:PQ) w:=kun .not (some .bool) x7 fun v31=>kB v31 fun b39=>aA b39 (aP [.int .i64 0,.slice none 0 0] [(0,1,x1),(1,1,x2)] fun v32=>ay [.int .i64 0,.slice none 0 0] 1 [(0,2,v32)] 101 w fun v33 w34=>ksem Tryz.prog (Builtin.append_ #[48,48] 0 #[x6,v33]) w34 fun v35 w36=>Bq x0 v35 Q w36) (Bq x0 x6 Q w)
def HM x6 x7 x8 x0 x1 x2 (J3:Value→Value→Value→World→Prop) (Q:PQ) w:=kN x0<|ai 3 x0 fun v3=>aw v3 w fun v4=>aU v4 fun v5=>kint .i64 .lss x8 v5 fun v7=>kB v7 fun b40=>aA b40 (HK x0 x1 x2 x6 x7 x8 J3 Q w) (HL x0 x1 x2 x6 x7 Q w)
def Sj x0 x1 x2 (Q:PQ) w:=ay [.int .i64 0,.slice none 0 0] 0 [] 101 w fun v1 w2=>kL fun(I:Value→Value→Value→World→Prop) (μ:Value→Value→Value→World→Nat)=>I v1 (.bool false) (.int .i64 0) w2∧∀(x6 x7 x8:Value) (w1:World),I x6 x7 x8 w1→HM x6 x7 x8 x0 x1 x2 (fun y6 y7 y8 w2=>I y6 y7 y8 w2∧μ y6 y7 y8 w2<μ x6 x7 x8 w1) Q w1
theorem Lu (h:Sj x0 x1 x2 Q w):af Tryz.prog 76 #[x0,x1,x2] w Q :=
 ax (c:=Tryz.f76.body.get rfl) [(3,[6,7,8])] Tryz.func76 rfl rfl (args:=[x0,x1,x2]) rfl (by kernel_rfl) h
def Sk x0 x1 (Q:PQ) w:=knew (Value.cells x1) 155 w fun v1 w2=>kN x0<|ai 9 x0 fun v3=>aw v3 w2 fun v4=>kB v4 fun b54=>aA b54 ((ay [.int .i64 0,.int .i64 0,.int .i64 0,.int .i64 0,.int .i64 0,.int .i64 0,.int .i64 0,.int .i64 0,.slice none 0 0,.int .i64 0,.int .i64 0] 0 [] 155 w2.drew fun v5 w6=>(kN x0<|ai 8 x0 fun v7=>aw v7 w6 fun v8=>kG (w6=w6)<|kG (aw v7 w2.drew fun v21=>v21=v8∧w2.drew=w2.drew)<|ksem Tryz.prog (Builtin.append_ #[71,71] 0 #[v5,v8]) w6 fun v9 w10=>aB 11 v1 w10 fun v11=>kG (w10=w10)<|kG (aB 11 v1 w6 fun v20=>v20=v11∧w6=w6)<|kG (aB 11 v1 w2.drew fun v19=>v19=v11∧w2.drew=w2.drew)<|ay [.int .i64 0,.int .i64 0,.int .i64 0,.int .i64 0,.int .i64 0,.int .i64 0,.int .i64 0,.int .i64 0,.slice none 0 0,.int .i64 0,.int .i64 0] 1 [(0,11,v11)] 155 w10 fun v12 w13=>kG (aw v7 w13 fun v18=>v18=v8∧w13=w13)<|ksem Tryz.prog (Builtin.append_ #[71,71] 0 #[v9,v12]) w13 fun v14 w15=>kN x0<|ai 8 x0 fun v16=>bj 1 v16 v14 w15 fun w17=>Q (.tuple #[]) w17)∧(aB 11 v1 w6 fun v22=>kG (w6=w6)<|kG (aB 11 v1 w2.drew fun v36=>v36=v22∧w2.drew=w2.drew)<|ay [.int .i64 0,.int .i64 0,.int .i64 0,.int .i64 0,.int .i64 0,.int .i64 0,.int .i64 0,.int .i64 0,.slice none 0 0,.int .i64 0,.int .i64 0] 1 [(0,11,v22)] 155 w6 fun v23 w24=>kN x0<|ai 8 x0 fun v25=>aw v25 w24 fun v26=>kG (w24=w24)<|kG (aw v25 w6 fun v35=>v35=v26∧w6=w6)<|kG (aw v25 w2.drew fun v34=>v34=v26∧w2.drew=w2.drew)<|ksem Tryz.prog (Builtin.append_ #[71,71] 0 #[v5,v26]) w24 fun v27 w28=>kG (aB 11 v1 w28 fun v33=>v33=v22∧w28=w28)<|ksem Tryz.prog (Builtin.append_ #[71,71] 0 #[v27,v23]) w28 fun v29 w30=>kN x0<|ai 8 x0 fun v31=>bj 1 v31 v29 w30 fun w32=>Q (.tuple #[]) w32))∧(aB 11 v1 w2.drew fun v37=>kG (w2.drew=w2.drew)<|ay [.int .i64 0,.int .i64 0,.int .i64 0,.int .i64 0,.int .i64 0,.int .i64 0,.int .i64 0,.int .i64 0,.slice none 0 0,.int .i64 0,.int .i64 0] 1 [(0,11,v37)] 155 w2.drew fun v38 w39=>ay [.int .i64 0,.int .i64 0,.int .i64 0,.int .i64 0,.int .i64 0,.int .i64 0,.int .i64 0,.int .i64 0,.slice none 0 0,.int .i64 0,.int .i64 0] 0 [] 155 w39 fun v40 w41=>kG (aB 11 v1 w41 fun v53=>v53=v37∧w41=w41)<|kN x0<|ai 8 x0 fun v42=>aw v42 w41 fun v43=>kG (w41=w41)<|kG (aw v42 w39 fun v52=>v52=v43∧w39=w39)<|kG (aw v42 w2.drew fun v51=>v51=v43∧w2.drew=w2.drew)<|ksem Tryz.prog (Builtin.append_ #[71,71] 0 #[v40,v43]) w41 fun v44 w45=>kG (aB 11 v1 w45 fun v50=>v50=v37∧w45=w45)<|ksem Tryz.prog (Builtin.append_ #[71,71] 0 #[v44,v38]) w45 fun v46 w47=>kN x0<|ai 8 x0 fun v48=>bj 1 v48 v46 w47 fun w49=>Q (.tuple #[]) w49)) (Q (.tuple #[]) w2)
theorem Lv (h:Sk x0 x1 Q w):af Tryz.prog 71 #[x0,x1] w Q :=
 ax (c:=Tryz.f71.body.get rfl) [] Tryz.func71 rfl rfl (args:=[x0,x1]) rfl (by kernel_rfl) h
def Br (x0 x1:Value) x5 (J2:Value→World→Prop) (Q:PQ) w:=kint .i64 .add x5 (.int .i64 1) fun v8=>J2 v8 w
def Bs x0 x1 x5 (J2:Value→World→Prop) (Q:PQ) w:=bz (some (.slice 95)) (some 6) x0 x5 fun v4=>ai 0 v4 fun v5=>aw v5 w fun v6=>kint .i64 .eql v6 x1 fun v7=>kB v7 fun b9=>aA b9 (Q x5 w) (Br x0 x1 x5 J2 Q w)
def Lw (Q:PQ) w:=Q (.int .i64 (-1)) w
def Bt x5 x0 x1 (J2:Value→World→Prop) (Q:PQ) w:=aU x0 fun v1=>kint .i64 .lss x5 v1 fun v3=>kB v3 fun b10=>aA b10 (Bs x0 x1 x5 J2 Q w) (Lw Q w)
def O6 x0 x1 (Q:PQ) w:=kL fun(I:Value→World→Prop) (μ:Value→World→Nat)=>I (.int .i64 0) w∧∀(x5:Value) (w1:World),I x5 w1→Bt x5 x0 x1 (fun y5 w2=>I y5 w2∧μ y5 w2<μ x5 w1) Q w1
theorem EV (h:O6 x0 x1 Q w):af Tryz.prog 125 #[x0,x1] w Q :=
 ax (c:=Tryz.f125.body.get rfl) [(2,[5])] Tryz.func125 rfl rfl (args:=[x0,x1]) rfl (by kernel_rfl) h
def Bu (x3:Value) x5 (J4:Value→World→Prop) (Q:PQ) w:=kint .i64 .add x5 (.int .i64 1) fun v28=>J4 v28 w
def Bv x3 x5 (J4:Value→World→Prop) (Q:PQ) w:=ai 1 x3 fun v24=>bz (some (.array 4 3)) (some 1) v24 x5 fun v25=>aw v25 w fun v26=>kint .i64 .neq v26 (.int .i64 0) fun v27=>kB v27 fun b29=>aA b29 (Q (.bool false) w) (Bu x3 x5 J4 Q w)
def Lx (Q:PQ) w:=Q (.bool true) w
def Bw x5 x3 (J4:Value→World→Prop) (Q:PQ) w:=kint .i64 .lss x5 (.int .i64 4) fun v23=>kB v23 fun b30=>aA b30 (Bv x3 x5 J4 Q w) (Lx Q w)
def Bx x2 x3 (Q:PQ) w:=ai 0 x2 fun v16=>aw v16 w fun v17=>ai 0 x3 fun v18=>aw v18 w fun v19=>bz (some (.slice 144)) (some 7) v17 v19 fun v20=>ai 1 v20 fun v21=>aw v21 w fun v22=>kL fun(I:Value→World→Prop) (μ:Value→World→Nat)=>I v22 w∧∀(x5:Value) (w1:World),I x5 w1→Bw x5 x3 (fun y5 w2=>I y5 w2∧μ y5 w2<μ x5 w1) Q w1
def s9 x2 x3 x16 (Q:PQ) w:=kB x16 fun b31=>aA b31 (Q (.bool false) w) (Bx x2 x3 Q w)
def O7 x0 x1 (Q:PQ) w:=knew (Value.cells x0) 70 w fun v1 w2=>knew (Value.cells x1) 95 w2 fun v3 w4=>ai 0 v3 fun v5=>aw v5 w4 fun v6=>kint .i64 .lss v6 (.int .i64 0) fun v7=>kB v7 fun b8=>aA (!b8) (ai 0 v3 fun v9=>aw v9 w4 fun v10=>ai 0 v1 fun v11=>aw v11 w4 fun v12=>aU v12 fun v13=>kint .i64 .geq v10 v13 fun v15=>s9 v1 v3 v15 Q w4) (s9 v1 v3 (.bool true) Q w4)
theorem EW (h:O7 x0 x1 Q w):af Tryz.prog 124 #[x0,x1] w Q :=
 ax (c:=Tryz.f124.body.get rfl) [(4,[5])] Tryz.func124 rfl rfl (args:=[x0,x1]) rfl (by kernel_rfl) h
def Bz (x0 x3:Value) x5 x6 x7 (J4:Value→Value→Value→World→Prop) (Q:PQ) w:=kint .i64 .add x7 (.int .i64 1) fun v27=>J4 x5 x6 v27 w
def pN x0 x3 x5 x6 x7 (J4:Value→Value→Value→World→Prop) (Q:PQ) w:=bz (some (.slice 95)) (some 6) x0 x7 fun v21=>aB 6 v21 w fun v22=>ay [.int .i64 0,.int .i64 0,.int .i64 0,.int .i64 0,.int .i64 0,.int .i64 0] 1 [(0,6,v22)] 95 w fun v23 w24=>ksem Tryz.prog (Builtin.append_ #[90,90] 0 #[x5,v23]) w24 fun v25 w26=>Bz x0 x3 v25 x6 x7 J4 Q w26
def pO x0 x3 x5 x6 x7 x26 (J4:Value→Value→Value→World→Prop) (Q:PQ) w:=kB x26 fun b28=>aA b28 (aB 6 x3 w fun v16=>ay [.int .i64 0,.int .i64 0,.int .i64 0,.int .i64 0,.int .i64 0,.int .i64 0] 1 [(0,6,v16)] 95 w fun v17 w18=>ksem Tryz.prog (Builtin.append_ #[90,90] 0 #[x5,v17]) w18 fun v19 w20=>pN x0 x3 v19 (.bool true) x7 J4 Q w20) (pN x0 x3 x5 x6 x7 J4 Q w)
def BA x0 x3 x5 x6 x7 (J4:Value→Value→Value→World→Prop) (Q:PQ) (w:World):=kun .not (some .bool) x6 fun v8=>kB v8 fun b9=>aA b9 (bz (some (.slice 95)) (some 6) x0 x7 fun v10=>ai 0 v10 fun v11=>aw v11 w.drew fun v12=>kG (w.drew=w.drew)<|ai 0 x3 fun v13=>aw v13 w.drew fun v14=>kG (w.drew=w.drew)<|kint .i64 .gtr v12 v14 fun v15=>pO x0 x3 x5 x6 x7 v15 J4 Q w.drew) (pO x0 x3 x5 x6 x7 (.bool false) J4 Q w.drew)
def BB x5 (Q:PQ) w:=Q x5 w
def BC x3 x5 x6 (Q:PQ) w:=kun .not (some .bool) x6 fun v29=>kB v29 fun b35=>aA b35 (aB 6 x3 w fun v30=>ay [.int .i64 0,.int .i64 0,.int .i64 0,.int .i64 0,.int .i64 0,.int .i64 0] 1 [(0,6,v30)] 95 w fun v31 w32=>ksem Tryz.prog (Builtin.append_ #[90,90] 0 #[x5,v31]) w32 fun v33 w34=>BB v33 Q w34) (BB x5 Q w)
def BD x5 x6 x7 x0 x3 (J4:Value→Value→Value→World→Prop) (Q:PQ) w:=aU x0 fun v5=>kint .i64 .lss x7 v5 fun v7=>kB v7 fun b36=>aA b36 (BA x0 x3 x5 x6 x7 J4 Q w) (BC x3 x5 x6 Q w)
def O8 x0 x1 (Q:PQ) w:=knew (Value.cells x1) 95 w fun v1 w2=>ay [.int .i64 0,.int .i64 0,.int .i64 0,.int .i64 0,.int .i64 0,.int .i64 0] 0 [] 95 w2 fun v3 w4=>kL fun(I:Value→Value→Value→World→Prop) (μ:Value→Value→Value→World→Nat)=>I v3 (.bool false) (.int .i64 0) w4∧∀(x5 x6 x7:Value) (w1:World),I x5 x6 x7 w1→BD x5 x6 x7 x0 v1 (fun y5 y6 y7 w2=>I y5 y6 y7 w2∧μ y5 y6 y7 w2<μ x5 x6 x7 w1) Q w1
theorem EX (h:O8 x0 x1 Q w):af Tryz.prog 126 #[x0,x1] w Q :=
 ax (c:=Tryz.f126.body.get rfl) [(4,[5,6,7])] Tryz.func126 rfl rfl (args:=[x0,x1]) rfl (by kernel_rfl) h
def uz (x1:Value) x3 x4 (J5:Value→Value→World→Prop) (Q:PQ) w:=kint .i64 .add x4 (.int .i64 1) fun v55=>J5 x3 v55 w
def BE (x1 x3 x4 x5 x6:Value) x9 x10 (J18:Value→Value→World→Prop) (J5:Value→Value→World→Prop) (Q:PQ) w:=kint .i64 .add x10 (.int .i64 1) fun v64=>J18 x9 v64 w
def HN x1 x3 x4 x5 x6 x9 x10 (J18:Value→Value→World→Prop) (J5:Value→Value→World→Prop) (Q:PQ) w:=kB x9 fun b59=>aA b59 (ai 3 x5 fun v60=>bz (some (.array 4 3)) (some 1) v60 x10 fun v61=>aw v61 w fun v62=>kint .i64 .eql v62 (.int .i64 0) fun v63=>BE x1 x3 x4 x5 x6 v63 x10 J18 J5 Q w) (BE x1 x3 x4 x5 x6 (.bool false) x10 J18 J5 Q w)
def BF x1 x3 x4 x6 x9 (J5:Value→Value→World→Prop) (Q:PQ) w:=kun .not (some .bool) x9 fun v65=>kB v65 fun b72=>aA b72 (kstr .add x6 (.string ⟨#[100,101,102,97,117,108,116]⟩) fun v66=>aP [(.string ⟨#[]⟩),.int .i64 0] [(0,1,v66),(1,1,(.int .i64 1))] fun v67=>ay [(.string ⟨#[]⟩),.int .i64 0] 1 [(0,2,v67)] 225 w fun v68 w69=>ksem Tryz.prog (Builtin.append_ #[151,151] 0 #[x3,v68]) w69 fun v70 w71=>uz x1 v70 x4 J5 Q w71) (uz x1 x3 x4 J5 Q w)
def HO x9 x10 x1 x3 x4 x5 x6 (J18:Value→Value→World→Prop) (J5:Value→Value→World→Prop) (Q:PQ) w:=kint .i64 .lss x10 (.int .i64 4) fun v58=>kB v58 fun b73=>aA b73 (HN x1 x3 x4 x5 x6 x9 x10 J18 J5 Q w) (BF x1 x3 x4 x6 x9 J5 Q w)
def HP x1 x3 x4 x5 x6 (J5:Value→Value→World→Prop) (Q:PQ) w:=ai 1 x5 fun v56=>aw v56 w fun v57=>kL fun(I:Value→Value→World→Prop) (μ:Value→Value→World→Nat)=>I (.bool true) v57 w∧∀(x9 x10:Value) (w1:World),I x9 x10 w1→HO x9 x10 x1 x3 x4 x5 x6 (fun y9 y10 w2=>I y9 y10 w2∧μ y9 y10 w2<μ x9 x10 w1) J5 Q w1
def BG x1 x3 x4 x5 x6 x79 (J5:Value→Value→World→Prop) (Q:PQ) w:=kB x79 fun b74=>aA b74 (kstr .add x6 (.string ⟨#[119,105,100,116,104]⟩) fun v49=>aP [(.string ⟨#[]⟩),.int .i64 0] [(0,1,v49),(1,1,(.int .i64 1))] fun v50=>ay [(.string ⟨#[]⟩),.int .i64 0] 1 [(0,2,v50)] 225 w fun v51 w52=>ksem Tryz.prog (Builtin.append_ #[151,151] 0 #[x3,v51]) w52 fun v53 w54=>uz x1 v53 x4 J5 Q w54) (HP x1 x3 x4 x5 x6 J5 Q w)
def rt x1 x3 x4 x5 x6 (J5:Value→Value→World→Prop) (Q:PQ) w:=ai 1 x5 fun v42=>aw v42 w fun v43=>kint .i64 .lss v43 (.int .i64 1) fun v44=>kB v44 fun b45=>aA (!b45) (ai 1 x5 fun v46=>aw v46 w fun v47=>kint .i64 .gtr v47 (.int .i64 4) fun v48=>BG x1 x3 x4 x5 x6 v48 J5 Q w) (BG x1 x3 x4 x5 x6 (.bool true) J5 Q w)
def pP x1 x3 x4 x5 x6 x65 (J5:Value→Value→World→Prop) (Q:PQ) w:=kB x65 fun b90=>aA b90 (kstr .add x6 (.string ⟨#[110,97,109,101]⟩) fun v84=>aP [(.string ⟨#[]⟩),.int .i64 0] [(0,1,v84),(1,1,(.int .i64 9))] fun v85=>ay [(.string ⟨#[]⟩),.int .i64 0] 1 [(0,2,v85)] 225 w fun v86 w87=>ksem Tryz.prog (Builtin.append_ #[151,151] 0 #[x3,v86]) w87 fun v88 w89=>rt x1 v88 x4 x5 x6 J5 Q w89) (rt x1 x3 x4 x5 x6 J5 Q w)
def HQ x1 x3 x4 (J5:Value→Value→World→Prop) (Q:PQ) w:=ai 0 x1 fun v20=>aw v20 w fun v21=>bz (some (.slice 144)) (some 7) v21 x4 fun v22=>aB 7 v22 w fun v23=>knew #[(.string ⟨#[]⟩),.int .i64 0,.bool false,.int .i64 0,.int .i64 0,.int .i64 0,.int .i64 0] 144 w fun v24 w25=>bj 7 v24 v23 w25 fun w26=>ae Tryz.prog 109 #[x4] w26 fun v27 w28=>kstr .add (.string ⟨#[99,111,109,112,111,110,101,110,116,115,47]⟩) v27 fun v29=>kstr .add v29 (.string ⟨#[47]⟩) fun v30=>ai 0 v24 fun v31=>aw v31 w28 fun v32=>ae Tryz.prog 110 #[v32] w28 fun v33 w34=>kun .not (some .bool) v33 fun v35=>kB v35 fun b91=>aA b91 (kstr .add v30 (.string ⟨#[110,97,109,101]⟩) fun v36=>aP [(.string ⟨#[]⟩),.int .i64 0] [(0,1,v36),(1,1,(.int .i64 10))] fun v37=>ay [(.string ⟨#[]⟩),.int .i64 0] 1 [(0,2,v37)] 225 w34 fun v38 w39=>ksem Tryz.prog (Builtin.append_ #[151,151] 0 #[x3,v38]) w39 fun v40 w41=>rt x1 v40 x4 v24 v30 J5 Q w41) (aB 2 x1 w34 fun v75=>ai 0 v24 fun v76=>aw v76 w34 fun v77=>ae Tryz.prog 111 #[v75,v77] w34 fun v78 w79=>aE v78 0 fun v80=>aE v78 1 fun v81=>kB v81 fun b82=>aA b82 (kint .i64 .lss v80 x4 fun v83=>pP x1 x3 x4 v24 v30 v83 J5 Q w79) (pP x1 x3 x4 v24 v30 (.bool false) J5 Q w79))
def pQ (x1:Value) x3 x11 (J26:Value→Value→World→Prop) (Q:PQ) w:=kint .i64 .add x11 (.int .i64 1) fun v134=>J26 x3 v134 w
def mZ x1 x3 x11 x13 x161 (J26:Value→Value→World→Prop) (Q:PQ) w:=kB x161 fun b143=>aA b143 (aP [(.string ⟨#[]⟩),.int .i64 0] [(0,1,x13),(1,1,(.int .i64 9))] fun v138=>ay [(.string ⟨#[]⟩),.int .i64 0] 1 [(0,2,v138)] 225 w fun v139 w140=>ksem Tryz.prog (Builtin.append_ #[151,151] 0 #[x3,v139]) w140 fun v141 w142=>pQ x1 v141 x11 J26 Q w142) (pQ x1 x3 x11 J26 Q w)
def BH x1 x3 x11 (J26:Value→Value→World→Prop) (Q:PQ) w:=ai 1 x1 fun v107=>aw v107 w fun v108=>bz (some (.slice 147)) (some 2) v108 x11 fun v109=>ai 0 v109 fun v110=>aw v110 w fun v111=>ae Tryz.prog 109 #[x11] w fun v112 w113=>kstr .add (.string ⟨#[114,101,115,111,117,114,99,101,115,47]⟩) v112 fun v114=>kstr .add v114 (.string ⟨#[47,110,97,109,101]⟩) fun v115=>aB 2 x1 w113 fun v116=>ae Tryz.prog 111 #[v116,v111] w113 fun v117 w118=>aE v117 0 fun v119=>aE v117 1 fun v120=>aB 2 x1 w118 fun v121=>ae Tryz.prog 112 #[v121,v111] w118 fun v122 w123=>aE v122 0 fun v124=>aE v122 1 fun v125=>ae Tryz.prog 110 #[v111] w123 fun v126 w127=>kun .not (some .bool) v126 fun v128=>kB v128 fun b144=>aA b144 (aP [(.string ⟨#[]⟩),.int .i64 0] [(0,1,v115),(1,1,(.int .i64 10))] fun v129=>ay [(.string ⟨#[]⟩),.int .i64 0] 1 [(0,2,v129)] 225 w127 fun v130 w131=>ksem Tryz.prog (Builtin.append_ #[151,151] 0 #[x3,v130]) w131 fun v132 w133=>pQ x1 v132 x11 J26 Q w133) (kB v120 fun b135=>aA (!b135) (kB v125 fun b136=>aA b136 (kint .i64 .lss v124 x11 fun v137=>mZ x1 x3 x11 v115 v137 J26 Q w127) (mZ x1 x3 x11 v115 (.bool false) J26 Q w127)) (mZ x1 x3 x11 v115 (.bool true) J26 Q w127))
def Ly x3 (Q:PQ) w:=Q x3 w
def BI x3 x11 x1 (J26:Value→Value→World→Prop) (Q:PQ) w:=ai 1 x1 fun v102=>aw v102 w fun v103=>aU v103 fun v104=>kint .i64 .lss x11 v104 fun v106=>kB v106 fun b145=>aA b145 (BH x1 x3 x11 J26 Q w) (Ly x3 Q w)
def td x1 x3 (Q:PQ) w:=kL fun(I:Value→Value→World→Prop) (μ:Value→Value→World→Nat)=>I x3 (.int .i64 0) w∧∀(x3 x11:Value) (w1:World),I x3 x11 w1→BI x3 x11 x1 (fun y3 y11 w2=>I y3 y11 w2∧μ y3 y11 w2<μ x3 x11 w1) Q w1
def BJ x1 x3 (Q:PQ) w:=ai 1 x1 fun v92=>aw v92 w fun v93=>aU v93 fun v94=>kint .i64 .gtr v94 (.int .i64 8) fun v96=>kB v96 fun b146=>aA b146 (aP [(.string ⟨#[]⟩),.int .i64 0] [(0,1,(.string ⟨#[114,101,115,111,117,114,99,101,115]⟩)),(1,1,(.int .i64 4))] fun v97=>ay [(.string ⟨#[]⟩),.int .i64 0] 1 [(0,2,v97)] 225 w fun v98 w99=>ksem Tryz.prog (Builtin.append_ #[151,151] 0 #[x3,v98]) w99 fun v100 w101=>td x1 v100 Q w101) (td x1 x3 Q w)
def HR x3 x4 x1 (J5:Value→Value→World→Prop) (Q:PQ) w:=ai 0 x1 fun v15=>aw v15 w fun v16=>aU v16 fun v17=>kint .i64 .lss x4 v17 fun v19=>kB v19 fun b147=>aA b147 (HQ x1 x3 x4 J5 Q w) (BJ x1 x3 Q w)
def BK x1 x3 (Q:PQ) w:=kL fun(I:Value→Value→World→Prop) (μ:Value→Value→World→Nat)=>I x3 (.int .i64 0) w∧∀(x3 x4:Value) (w1:World),I x3 x4 w1→HR x3 x4 x1 (fun y3 y4 w2=>I y3 y4 w2∧μ y3 y4 w2<μ x3 x4 w1) Q w1
def Sl x0 (Q:PQ) w:=knew (Value.cells x0) 70 w fun v1 w2=>ay [(.string ⟨#[]⟩),.int .i64 0] 0 [] 225 w2 fun v3 w4=>ai 0 v1 fun v5=>aw v5 w4 fun v6=>aU v6 fun v7=>kint .i64 .gtr v7 (.int .i64 16) fun v9=>kB v9 fun b148=>aA b148 (aP [(.string ⟨#[]⟩),.int .i64 0] [(0,1,(.string ⟨#[99,111,109,112,111,110,101,110,116,115]⟩)),(1,1,(.int .i64 4))] fun v10=>ay [(.string ⟨#[]⟩),.int .i64 0] 1 [(0,2,v10)] 225 w4 fun v11 w12=>ksem Tryz.prog (Builtin.append_ #[151,151] 0 #[v3,v11]) w12 fun v13 w14=>BK v1 v13 Q w14) (BK v1 v3 Q w4)
theorem Lz (h:Sl x0 Q w):af Tryz.prog 69 #[x0] w Q :=
 ax (c:=Tryz.f69.body.get rfl) [(5,[3,4]),(18,[9,10]),(26,[3,11])] Tryz.func69 rfl rfl (args:=[x0]) rfl (by kernel_rfl) h
def LA x0 (Q:PQ) (w:World):=kint .i64 .quo x0 (.int .i64 10) fun v4=>ae Tryz.prog 109 #[v4] w.drew fun v5 w6=>kint .i64 .rem x0 (.int .i64 10) fun v7=>kint .i64 .rem x0 (.int .i64 10) fun v8=>kint .i64 .add v8 (.int .i64 1) fun v9=>ksl (some .string) none (.string ⟨#[48,49,50,51,52,53,54,55,56,57]⟩) (some v7) (some v9) fun v10=>kstr .add v5 v10 fun v11=>Q v11 w6
def O9 x0 (Q:PQ) w:=kint .i64 .lss x0 (.int .i64 10) fun v1=>kB v1 fun b12=>aA b12 (kint .i64 .add x0 (.int .i64 1) fun v2=>ksl (some .string) none (.string ⟨#[48,49,50,51,52,53,54,55,56,57]⟩) (some x0) (some v2) fun v3=>Q v3 w) (LA x0 Q w)
theorem EY (h:O9 x0 Q w):af Tryz.prog 109 #[x0] w Q :=
 ax (c:=Tryz.f109.body.get rfl) [] Tryz.func109 rfl rfl (args:=[x0]) rfl (by kernel_rfl) h
def BL (x1 x2:Value) x6 (J2:Value→World→Prop) (Q:PQ) w:=kint .i64 .add x6 (.int .i64 1) fun v14=>J2 v14 w
def BM x1 x2 x6 (J2:Value→World→Prop) (Q:PQ) w:=ai 0 x2 fun v8=>aw v8 w fun v9=>bz (some (.slice 144)) (some 7) v9 x6 fun v10=>ai 0 v10 fun v11=>aw v11 w fun v12=>kstr .eql v12 x1 fun v13=>kB v13 fun b15=>aA b15 (Q (.tuple #[x6,.bool true]) w) (BL x1 x2 x6 J2 Q w)
def LB (Q:PQ) w:=Q (.tuple #[.int .i64 0,.bool false]) w
def BN x6 x1 x2 (J2:Value→World→Prop) (Q:PQ) w:=ai 0 x2 fun v3=>aw v3 w fun v4=>aU v4 fun v5=>kint .i64 .lss x6 v5 fun v7=>kB v7 fun b16=>aA b16 (BM x1 x2 x6 J2 Q w) (LB Q w)
def Pa x0 x1 (Q:PQ) w:=knew (Value.cells x0) 70 w fun v1 w2=>kL fun(I:Value→World→Prop) (μ:Value→World→Nat)=>I (.int .i64 0) w2∧∀(x6:Value) (w1:World),I x6 w1→BN x6 x1 v1 (fun y6 w2=>I y6 w2∧μ y6 w2<μ x6 w1) Q w1
theorem EZ (h:Pa x0 x1 Q w):af Tryz.prog 111 #[x0,x1] w Q :=
 ax (c:=Tryz.f111.body.get rfl) [(2,[6])] Tryz.func111 rfl rfl (args:=[x0,x1]) rfl (by kernel_rfl) h
def BO (x0:Value) x3 (J4:Value→World→Prop) (Q:PQ) w:=kint .i64 .add x3 (.int .i64 1) fun v16=>J4 v16 w
def tf x0 x3 x27 (J4:Value→World→Prop) (Q:PQ) w:=kB x27 fun b17=>aA b17 (Q (.bool false) w) (BO x0 x3 J4 Q w)
def BP x0 x3 (J4:Value→World→Prop) (Q:PQ) w:=cQ Tryz.prog (some .string) x0 x3 fun v11=>kint .u8 .lss v11 (.int .u8 97) fun v12=>kB v12 fun b13=>aA (!b13) (cQ Tryz.prog (some .string) x0 x3 fun v14=>kint .u8 .gtr v14 (.int .u8 122) fun v15=>tf x0 x3 v15 J4 Q w) (tf x0 x3 (.bool true) J4 Q w)
def LC (Q:PQ) w:=Q (.bool true) w
def BQ x3 x0 (J4:Value→World→Prop) (Q:PQ) w:=aD x0 fun v8=>kint .i64 .lss x3 v8 fun v10=>kB v10 fun b18=>aA b18 (BP x0 x3 J4 Q w) (LC Q w)
def BR x0 (Q:PQ) w:=kL fun(I:Value→World→Prop) (μ:Value→World→Nat)=>I (.int .i64 0) w∧∀(x3:Value) (w1:World),I x3 w1→BQ x3 x0 (fun y3 w2=>I y3 w2∧μ y3 w2<μ x3 w1) Q w1
def tg x0 x11 (Q:PQ) w:=kB x11 fun b19=>aA b19 (Q (.bool false) w) (BR x0 Q w)
def Pb x0 (Q:PQ) w:=aD x0 fun v1=>kint .i64 .lss v1 (.int .i64 1) fun v3=>kB v3 fun b4=>aA (!b4) (aD x0 fun v5=>kint .i64 .gtr v5 (.int .i64 8) fun v7=>tg x0 v7 Q w) (tg x0 (.bool true) Q w)
theorem E0 (h:Pb x0 Q w):af Tryz.prog 110 #[x0] w Q :=
 ax (c:=Tryz.f110.body.get rfl) [(4,[3])] Tryz.func110 rfl rfl (args:=[x0]) rfl (by kernel_rfl) h
def BS (x1 x2:Value) x6 (J2:Value→World→Prop) (Q:PQ) w:=kint .i64 .add x6 (.int .i64 1) fun v14=>J2 v14 w
def BT x1 x2 x6 (J2:Value→World→Prop) (Q:PQ) w:=ai 1 x2 fun v8=>aw v8 w fun v9=>bz (some (.slice 147)) (some 2) v9 x6 fun v10=>ai 0 v10 fun v11=>aw v11 w fun v12=>kstr .eql v12 x1 fun v13=>kB v13 fun b15=>aA b15 (Q (.tuple #[x6,.bool true]) w) (BS x1 x2 x6 J2 Q w)
def LD (Q:PQ) w:=Q (.tuple #[.int .i64 0,.bool false]) w
def BU x6 x1 x2 (J2:Value→World→Prop) (Q:PQ) w:=ai 1 x2 fun v3=>aw v3 w fun v4=>aU v4 fun v5=>kint .i64 .lss x6 v5 fun v7=>kB v7 fun b16=>aA b16 (BT x1 x2 x6 J2 Q w) (LD Q w)
def Pc x0 x1 (Q:PQ) w:=knew (Value.cells x0) 70 w fun v1 w2=>kL fun(I:Value→World→Prop) (μ:Value→World→Nat)=>I (.int .i64 0) w2∧∀(x6:Value) (w1:World),I x6 w1→BU x6 x1 v1 (fun y6 w2=>I y6 w2∧μ y6 w2<μ x6 w1) Q w1
theorem E1 (h:Pc x0 x1 Q w):af Tryz.prog 112 #[x0,x1] w Q :=
 ax (c:=Tryz.f112.body.get rfl) [(2,[6])] Tryz.func112 rfl rfl (args:=[x0,x1]) rfl (by kernel_rfl) h
def HS x1 x2 (Q:PQ) w:=aB 2 x2 w fun v13=>aP [.slice none 0 0,.slice none 0 0,.int .i64 0,.slice none 0 0,.int .i64 0,.int .i64 0] [(0,2,v13),(2,1,x1)] fun v14=>knew (Value.cells v14) 78 w fun v15 w16=>Q v15 w16
def uA x1 x2 x16 (Q:PQ) w:=kB x16 fun b17=>aA b17 (Q (.pointer none) w) (HS x1 x2 Q w)
def Sm x0 x1 (Q:PQ) w:=knew (Value.cells x0) 70 w fun v1 w2=>aB 2 v1 w2 fun v3=>ae Tryz.prog 69 #[v3] w2 fun v4 w5=>aU v4 fun v6=>kint .i64 .gtr v6 (.int .i64 0) fun v8=>kB v8 fun b9=>aA (!b9) (kint .i64 .lss x1 (.int .i64 0) fun v10=>kB v10 fun b11=>aA (!b11) (kint .i64 .gtr x1 (.int .i64 64) fun v12=>uA x1 v1 v12 Q w5) (uA x1 v1 (.bool true) Q w5)) (uA x1 v1 (.bool true) Q w5)
theorem LE (h:Sm x0 x1 Q w):af Tryz.prog 33 #[x0,x1] w Q :=
 ax (c:=Tryz.f33.body.get rfl) [] Tryz.func33 rfl rfl (args:=[x0,x1]) rfl (by kernel_rfl) h
end
section
attribute [local irreducible] kO kB bG bH kN kG aA ai aw aB bj knew bB aP ay aE bk aD aU bC bD a8 kbool kint kstr keq kun ksl bz cQ kta kmk kmm ksem ksemU bd aI aL ae kL
theorem ka (h:kz s) (w:World):af Tryz.prog 110 #[.string s] w fun v w'=>v=.bool true∧w'=w:=by
 obtain⟨h1,h8,hall⟩:=h;have hsz:s.data.toList.length=s.size:=rfl;refine E0 ?_;unfold Pb;refine bQ ?_;refine aM ?_;refine ac ?_;refine cz (fun _=>?_) (fun h=>absurd h (by omega));refine bQ ?_;refine bO ?_;rw[bT (by omega)];unfold tg;refine ac ?_;refine az rfl ?_;unfold BR;refine cA s.size (fun j x wr=>x=.int .i64 j∧wr=w) ⟨c8 ⟨rfl,rfl⟩,fun x wr hx=>?_⟩;obtain⟨j,hj,⟨rfl,rfl⟩,hJ⟩:=bK hx;unfold BQ;refine bQ ?_;refine aM ?_;refine ac ?_;refine am (fun hlt=>?_) (fun hge=>?_)
 ·have hlt:j<s.size:=by omega
  have hjl:j<s.data.toList.length:=by omega
  have hb:=hall _ (List.getElem_mem hjl);have hel:s[j]?=some (s.data.toList[j]):=by
   rw[getElem?_pos s j hlt];rfl
  unfold BP;rw[jp];refine ah (by omega) ?_;rw[Int.toNat_natCast,hel];refine ey ?_;generalize s.data.toList[j]=x at *;refine aM ?_;refine ac ?_;refine cz (fun _=>?_) (fun h=>absurd h (by omega));rw[jp];refine ah (by omega) ?_;rw[Int.toNat_natCast,hel];refine ey ?_;refine bO ?_;rw[bT (by omega)];unfold tf;refine ac ?_;refine az rfl ?_;unfold BO;refine aY (by omega) (by omega) ?_;rw[a7];exact hJ _ _ hlt ⟨rfl,rfl⟩
 ·exact⟨rfl,rfl⟩
theorem k8 {n:Nat} (hn:n<10) (w:World):af Tryz.prog 109 #[.int .i64 n] w fun v w'=>(∃s:ByteArray,v=.string s∧s.size≤10)∧w'=w:=by
 refine EY ?_;unfold O9;refine aM ?_;refine ac ?_;refine aN (co (by omega)) ?_;refine aY (by omega) (by omega) ?_;rw[g9 rfl rfl];refine ah ?_ ?_
 ·simp only[loV_int,hiV_int];refine⟨by omega,by omega,?_⟩;show(n:Int)+1≤10;omega
 refine⟨⟨_,rfl,?_⟩,rfl⟩;rw[ByteArray.size_extract];show min _ 10-_≤10;omega
section
variable {w:World} {a:Option Addr} {L:List Comp} {cp:Nat} {ra:Option Addr} {R:List ResM} {rc:Nat}
theorem uB (hs:aZ w a L.length 7 (L.flatMap Comp.cells)) (hL:L.length≤16) (nm:ByteArray) :
  af Tryz.prog 111 #[gr a L.length cp (.slice ra R.length rc),.string nm] w fun v w'=>(∃k b,v=.tuple #[.int .i64 k,.bool b]∧(b=true→∃(i:Nat) (hi:i<L.length),k=(i:Int)∧(L[i]).name=nm∧∀j (hj:j<i),(L[j]'(by omega)).name≠nm))∧Same w w':=by
 rw[gr];refine EZ ?_;unfold Pa;refine ar fun w2 h2 hs2 hb2=>?_;have hb2:aX w2 w.heap.size=some (.cells #[.slice a L.length cp,.slice ra R.length rc] 70):=hb2;have hs':=hs.same h2;refine cA L.length (fun j x wr=>x=.int .i64 j∧wr=w2∧∀i (hi:i<j) (hL:i<L.length),(L[i]).name≠nm) ⟨c8 ⟨rfl,rfl,fun i hi=>absurd hi (Nat.not_lt_zero i)⟩,fun x wr hx=>?_⟩;obtain⟨j,hj,⟨rfl,rfl,hno⟩,hJ⟩:=bK hx;unfold BN;refine aa ?_;refine ao (v:=.slice a L.length cp) hb2 rfl ?_;refine aK ?_;refine aM ?_;refine ac ?_;refine am (fun hlt=>?_) (fun hge=>?_)
 ·have hlt:j<L.length:=by omega
  unfold BM;refine aa ?_;refine ao (v:=.slice a L.length cp) hb2 rfl ?_;refine bL (F:=Comp.cells) (sz:=7) (fun _=>rfl) (j:=0) hs' hlt rfl rfl ?_;refine iJ ?_;refine ac ?_;refine am (fun he=>?_) (fun he=>?_)
  ·exact⟨⟨_,true,rfl,fun _=>⟨j,hlt,rfl,he,fun i hi=>hno i hi (by omega)⟩⟩,h2⟩
  ·unfold BL;refine aY (by omega) (by omega) ?_;rw[a7];refine hJ _ _ hlt ⟨rfl,rfl,fun i hi hL=>?_⟩;by_cases e:i=j
   ·subst e; exact he
   ·exact hno i (by omega) hL
 ·exact⟨⟨_,false,rfl,fun h=>Bool.noConfusion h⟩,h2⟩
theorem LF (hr:aZ w ra R.length 2 (R.flatMap ResM.cells)) (hR:R.length≤8) (nm:ByteArray) :
  af Tryz.prog 112 #[gr a L.length cp (.slice ra R.length rc),.string nm] w fun v w'=>(∃k b,v=.tuple #[.int .i64 k,.bool b]∧(b=true→∃(i:Nat) (hi:i<R.length),k=(i:Int)∧(R[i]).name=nm))∧Same w w':=by
 rw[gr];refine E1 ?_;unfold Pc;refine ar fun w2 h2 hs2 hb2=>?_;have hb2:aX w2 w.heap.size=some (.cells #[.slice a L.length cp,.slice ra R.length rc] 70):=hb2;have hs':=hr.same h2;refine cA R.length (fun j x wr=>x=.int .i64 j∧wr=w2) ⟨c8 ⟨rfl,rfl⟩,fun x wr hx=>?_⟩;obtain⟨j,hj,⟨rfl,rfl⟩,hJ⟩:=bK hx;unfold BU;refine aa ?_;refine ao (v:=.slice ra R.length rc) hb2 rfl ?_;refine aK ?_;refine aM ?_;refine ac ?_;refine am (fun hlt=>?_) (fun hge=>?_)
 ·have hlt:j<R.length:=by omega
  unfold BT;refine aa ?_;refine ao (v:=.slice ra R.length rc) hb2 rfl ?_;refine bL (F:=ResM.cells) (sz:=2) (fun _=>rfl) (j:=0) hs' hlt rfl rfl ?_;refine iJ ?_;refine ac ?_;refine am (fun he=>?_) (fun he=>?_)
  ·exact⟨⟨_,true,rfl,fun _=>⟨j,hlt,rfl,he⟩⟩,h2⟩
  ·unfold BS;refine aY (by omega) (by omega) ?_;rw[a7];exact hJ _ _ hlt ⟨rfl,rfl⟩
 ·exact⟨⟨_,false,rfl,fun h=>Bool.noConfusion h⟩,h2⟩
theorem LG {q:Comp} (d:Nat) (hq:q.width=(d:Int)) (h1:1≤d) (hc:(q.width≤1→q.d1=0)∧(q.width≤2→q.d2=0)∧(q.width≤3→q.d3=0)) {i:Nat} (hi:d≤i) (h4:i<4):nth q.cells (3+i)=some (.int .i64 0):=by
 obtain⟨c1,c2,c3⟩:=hc;have hi':i=1∨i=2∨i=3:=by omega
 rcases hi' with rfl | rfl | rfl
 ·rw[←c1 (by omega)]; rfl
 ·rw[←c2 (by omega)]; rfl
 ·rw[←c3 (by omega)]; rfl
theorem ru (hs:aZ w a L.length 7 (L.flatMap Comp.cells)) (hG:dQ L) (hL10:L.length≤10) (hr:aZ w ra R.length 2 (R.flatMap ResM.cells)) (hGR:iR L R) :
  af Tryz.prog 69 #[gr a L.length cp (.slice ra R.length rc)] w fun v w'=>(∃b,v=.slice (some b) 0 0)∧Same w w':=by
 have hR:=hGR.len;rw[gr];refine Lz ?_;unfold Sl;refine ar fun w2 h2 hs2 hb2=>?_;have hb2:aX w2 w.heap.size=some (.cells #[.slice a L.length cp,.slice ra R.length rc] 70):=hb2;refine aR (cs:=[]) rfl fun w4 h4 hs4 hb4=>?_;have m4:=h2.trans h4;have hb4':=h4.get hb2 (fun h=>h);generalize hv3:(Value.slice (some ⟨w2.heap.size,0,none⟩) 0 0)=v3;have hpost:∃b,v3=.slice (some b) 0 0:=⟨_,hv3.symm⟩
 refine aa ?_;refine ao (v:=.slice a L.length cp) hb4' rfl ?_;refine aK ?_;refine bO ?_;refine ac ?_;refine az (bT (by omega)) ?_;unfold BK;refine ib L.length (fun j x y wr=>x=v3∧y=.int .i64 j∧Same w4 wr) ⟨jP ⟨rfl,rfl,aH.refl _ _⟩,fun x y wr hx=>?_⟩;obtain⟨j,hj,⟨rfl,rfl,mr⟩,hJ⟩:=eX hx;have hbr:=mr.get hb4' (fun h=>h);have hsr:=hs.same (m4.trans mr);have hrr:=hr.same (m4.trans mr);unfold HR;refine aa ?_;refine ao (v:=.slice a L.length cp) hbr rfl ?_;refine aK ?_;refine aM ?_;refine ac ?_;refine am (fun hlt=>?_) (fun hge=>?_)
 ·have hlt:j<L.length:=by omega
  obtain⟨d,hd,hd1,hd4⟩:=hG.wide _ (List.getElem_mem hlt);have hcl:=hG.clean _ (List.getElem_mem hlt);have hnm:=hG.names _ (List.getElem_mem hlt);unfold HQ;refine aa ?_;refine ao (v:=.slice a L.length cp) hbr rfl ?_;refine cK (F:=Comp.cells) (sz:=7) (fun _=>rfl) (by omega) hsr hlt rfl ?_;refine ar fun w24 h24 hs24 hb24=>?_;refine aQ (vs:=(L[j]).cells) hb24 rfl rfl rfl (by simp) (by simp[Comp.cells]) fun w25 h25 hs25 hb25=>?_;have hb25:aX w25 wr.heap.size=some (.cells (L[j]).cells.toArray 144):=hb25;have m25:Same wr w25:=h24.trans' (h25.mono fun k _ e=>.inr (by omega));refine ab (k8 (n:=j) (by omega) w25) ?_;rintro v w28 ⟨⟨s,rfl,hsz⟩,rfl⟩;rw[jK];refine ah (by show 11+s.size≤_; omega) ?_;rw[jK];refine ah (by rw[ByteArray.size_append]; show 11+s.size+1≤_; omega) ?_;refine aa ?_;refine ao (v:=.string (L[j]).name) hb25 rfl ?_;refine ab (ka hnm w28) ?_;rintro v w34 ⟨rfl,rfl⟩;refine bP ?_;refine ac ?_;refine az rfl ?_;refine au (m25.get hbr (fun h=>h)) rfl (by omega) ?_;refine aa ?_;refine ao (v:=.string (L[j]).name) hb25 rfl ?_;have hfi:=uB (cp:=cp) (rc:=rc) (hsr.same m25) hG.len (R:=R) (ra:=ra) (L[j]).name;rw[gr]at hfi;refine ab hfi ?_;rintro v w79 ⟨⟨k,b,rfl,hfk⟩,h79⟩;refine ak rfl ?_;refine ak rfl ?_;have m79:=m25.trans h79;have hb79:=h79.get hb25 (fun h=>h);have wide:∀(at6:Value) (J:Value→Value→World→Prop) (Q:PQ),(∀w',Same wr w'→J x (.int .i64 ((j+1:Nat):Int)) w')→rt (.pointer (some ⟨w.heap.size,0,none⟩)) x (.int .i64 j) (.pointer (some ⟨wr.heap.size,0,none⟩)) at6 J Q w79:=by
   intro at6 J Q hQ;have hw1:nth (L[j]).cells.toArray.toList 1=some (.int .i64 (d:Int)):=by rw[←hd]; rfl
   unfold rt;refine aa ?_;refine aj hb79 hw1 ?_;refine aM ?_;refine ac ?_;refine cz (fun _=>?_) (fun h=>absurd h (by omega));refine aa ?_;refine aj hb79 hw1 ?_;refine bO ?_;rw[bT (by omega)];unfold BG;refine ac ?_;refine az rfl ?_;unfold HP;refine aa ?_;refine aj hb79 hw1 ?_;refine ib (4-d) (fun i x' y wr'=>x'=.bool true∧y=.int .i64 ((d+i:Nat):Int)∧wr'=w79) ⟨jP ⟨rfl,rfl,rfl⟩,fun x' y wr' hx=>?_⟩;obtain⟨i,hi,⟨rfl,rfl,rfl⟩,hJ'⟩:=eX hx;unfold HO;refine aM ?_;refine ac ?_;refine am (fun hlt'=>?_) (fun hge'=>?_)
   ·have hc:nth (L[j]).cells.toArray.toList (0+3+(d+i)*1)=some (.int .i64 0):=by
     rw[Nat.zero_add,Nat.mul_one];exact LG d hd hd1 hcl (by omega) (by omega)
    unfold HN;refine ac ?_;refine aN rfl ?_;refine aa ?_;rw[dy];refine ah (by omega) ?_;rw[add_mk];refine aj (o:=0+3+(d+i)*1) hb79 hc ?_;refine aF ?_;unfold BE;refine aY (by omega) (by omega) ?_;rw[a7];exact hJ' _ _ _ (by omega) ⟨rfl,rfl,rfl⟩
   ·unfold BF;refine bP ?_;refine ac ?_;refine az rfl ?_;unfold uz;refine aY (by omega) (by omega) ?_;rw[a7];exact hQ _ m79
  have fin:∀w',Same wr w'→lI L.length (lV fun j x_1 y wr=>x_1=x∧y=.int .i64 j∧Same w4 wr) (x,.int .i64 ((j+1:Nat):Int),w')∧lM L.length (lV fun j x_1 y wr=>x_1=x∧y=.int .i64 j∧Same w4 wr) (x,.int .i64 ((j+1:Nat):Int),w')<lM L.length (lV fun j x_1 y wr=>x_1=x∧y=.int .i64 j∧Same w4 wr) (x,.int .i64 j,wr) :=
   fun w' m=>hJ _ _ _ hlt ⟨rfl,rfl,mr.trans m⟩
  refine ac ?_;refine dh (fun hb=>?_) (fun hb=>?_)
  ·obtain⟨i,hi,rfl,hni,hfst⟩:=hfk hb;have hij:i=j:=hG.apart i j hi hlt hni;subst hij;refine aM ?_;rw[bT (by omega)];unfold pP;refine ac ?_;refine az rfl ?_;exact wide _ _ _ fin
  ·unfold pP;refine ac ?_;refine az rfl ?_;exact wide _ _ _ fin
 ·unfold BJ;refine aa ?_;refine ao (v:=.slice ra R.length rc) hbr rfl ?_;refine aK ?_;refine bO ?_;refine ac ?_;refine az (bT (by omega)) ?_;unfold td;clear hJ hx;refine ib R.length (fun j x' y wr'=>x'=x∧y=.int .i64 j∧Same wr wr') ⟨jP ⟨rfl,rfl,aH.refl _ _⟩,fun x' y ws hx=>?_⟩;obtain⟨j,hj,⟨rfl,rfl,ms⟩,hJ⟩:=eX hx;have hbs:=ms.get hbr (fun h=>h);have hss:=hsr.same ms;have hrs:=hrr.same ms;have mws:=(m4.trans mr).trans ms;unfold BI;refine aa ?_;refine ao (v:=.slice ra R.length rc) hbs rfl ?_;refine aK ?_;refine aM ?_;refine ac ?_;refine am (fun hlt=>?_) (fun hge=>?_)
  ·have hlt:j<R.length:=by omega
   have hnm:=hGR.names _ (List.getElem_mem hlt);unfold BH;refine aa ?_;refine ao (v:=.slice ra R.length rc) hbs rfl ?_;refine bL (F:=ResM.cells) (sz:=2) (fun _=>rfl) (j:=0) hrs hlt rfl rfl ?_;refine ab (k8 (n:=j) (by omega) ws) ?_;rintro v w28 ⟨⟨s,rfl,hsz⟩,rfl⟩;rw[jK];refine ah (by show 10+s.size≤_; omega) ?_;rw[jK];refine ah (by rw[ByteArray.size_append]; show 10+s.size+5≤_; omega) ?_;refine au hbs rfl (by omega) ?_;have hfi:=uB (cp:=cp) (rc:=rc) hss hG.len (R:=R) (ra:=ra) (R[j]).name;rw[gr]at hfi;refine ab hfi ?_;rintro v w79 ⟨⟨k,b,rfl,hfk⟩,h79⟩;refine ak rfl ?_;refine ak rfl ?_;refine au (h79.get hbs (fun h=>h)) rfl (by omega) ?_;have hfr:=LF (cp:=cp) (rc:=rc) (a:=a) (L:=L) (hrs.same h79) hR (R[j]).name;rw[gr]at hfr;refine ab hfr ?_;rintro v w83 ⟨⟨k2,b2,rfl,hfk2⟩,h83⟩;refine ak rfl ?_;refine ak rfl ?_;refine ab (ka hnm w83) ?_;rintro v w84 ⟨rfl,rfl⟩;refine bP ?_;refine ac ?_;refine az rfl ?_;have hb:b=false:=by
    cases hb:b with
    | false=>rfl
    | true =>
     obtain⟨i,hi,_,hni,_⟩:=hfk hb;exact absurd hni (hGR.other _ (List.getElem_mem hlt) _ (List.getElem_mem hi))
   subst hb;refine ac ?_;refine aN rfl ?_;have fin:∀Q:PQ,∀J:Value→Value→World→Prop,J x' (.int .i64 ((j+1:Nat):Int)) w84→∀nm,mZ (.pointer (some ⟨w.heap.size,0,none⟩)) x' (.int .i64 j) nm (.bool false) J Q w84:=by
    intro Q J h nm;unfold mZ;refine ac ?_;refine az rfl ?_;unfold pQ;refine aY (by omega) (by omega) ?_;rw[a7];exact h
   have hnx:=hJ _ _ w84 hlt ⟨rfl,rfl,ms.trans (h79.trans h83)⟩;refine ac ?_;refine dh (fun hb=>?_) (fun hb=>?_)
   ·obtain⟨i,hi,rfl,hni⟩:=hfk2 hb;have hij:i=j:=hGR.apart i j hi hlt hni;subst hij;refine aM ?_;rw[bT (by omega)];exact fin _ _ hnx _
   ·exact fin _ _ hnx _
  ·exact⟨hpost,mws⟩
end
end
section
attribute [local irreducible] kO kB bG bH kN kG aA ai aw aB bj knew bB aP ay aE bk aD aU bC bD a8 kbool kint kstr keq kun ksl bz cQ kta kmk kmm ksem ksemU bd aI aL ae kL
theorem pR:appT Tryz.prog 90 6 48=true:=by kernel_rfl
theorem jy:∃e,Tryz.prog.underlying 90=some (.slice e):=dI (by kernel_rfl)
section
variable {L:List Comp} {n bv:Nat} {U:Nat→Prop} {w w':World}
end
end
section
def HT (x0 x1:Value) x2 (J3:Value→World→Prop) (Q:PQ) w:=kint .i64 .add x2 (.int .i64 1) fun v26=>J3 v26 w
def HU x0 x1 x2 (J3:Value→World→Prop) (Q:PQ) (w:World):=ai 0 x1 fun v12=>aw v12 w.drew fun v13=>kG (w.drew=w.drew)<|kint .i64 .add x2 (.int .i64 1) fun v14=>ksl (some .string) none (.string ⟨#[97,98,99,100]⟩) (some x2) (some v14) fun v15=>kint .i64 .add (.int .i64 1) x2 fun v16=>kint .i64 .lss x2 (.int .i64 3) fun v17=>aP [.int .i64 0,.int .i64 0,.int .i64 0,.int .i64 0] [(0,1,x2)] fun v18=>aP [(.string ⟨#[]⟩),.int .i64 0,.bool false,.int .i64 0,.int .i64 0,.int .i64 0,.int .i64 0] [(0,1,v15),(1,1,v16),(2,1,v17),(3,4,v18)] fun v19=>ay [(.string ⟨#[]⟩),.int .i64 0,.bool false,.int .i64 0,.int .i64 0,.int .i64 0,.int .i64 0] 1 [(0,7,v19)] 144 w.drew fun v20 w21=>kG (aw v12 w21 fun v27=>v27=v13∧w21=w21)<|ksem Tryz.prog (Builtin.append_ #[67,67] 0 #[v13,v20]) w21 fun v22 w23=>ai 0 x1 fun v24=>bj 1 v24 v22 w23 fun w25=>HT x0 x1 x2 J3 Q w25
def HV x0 x1 (Q:PQ) w:=aB 2 x1 w fun v28=>bj 2 x0 v28 w fun w29=>aB 2 x0 w29 fun v30=>Q v30 w29
def HW x2 x0 x1 (J3:Value→World→Prop) (Q:PQ) w:=kint .i64 .lss x2 (.int .i64 4) fun v11=>kB v11 fun b31=>aA b31 (HU x0 x1 x2 J3 Q w) (HV x0 x1 Q w)
def Sn (Q:PQ) w:=knew #[.slice none 0 0,.slice none 0 0] 70 w fun v1 w2=>aP [(.string ⟨#[]⟩),.int .i64 0] [(0,1,(.string ⟨#[115]⟩)),(1,1,(.int .i64 5))] fun v3=>aP [(.string ⟨#[]⟩),.int .i64 0] [(0,1,(.string ⟨#[116]⟩))] fun v4=>ay [(.string ⟨#[]⟩),.int .i64 0] 2 [(0,2,v3),(2,2,v4)] 147 w2 fun v5 w6=>aP [.slice none 0 0,.slice none 0 0] [(1,1,v5)] fun v7=>knew #[.slice none 0 0,.slice none 0 0] 70 w6 fun v8 w9=>bj 2 v8 v7 w9 fun w10=>kL fun(I:Value→World→Prop) (μ:Value→World→Nat)=>I (.int .i64 0) w10∧∀(x2:Value) (w1:World),I x2 w1→HW x2 v1 v8 (fun y2 w2=>I y2 w2∧μ y2 w2<μ x2 w1) Q w1
theorem LH (h:Sn Q w):af Tryz.prog 30 #[] w Q :=
 ax (c:=Tryz.f30.body.get rfl) [(3,[2])] Tryz.func30 rfl rfl (args:=[]) rfl (by kernel_rfl) h
def E2 (x2 x7 x8 x10 x12 x13 x14:Value) x15 x16 (J15:Value→Value→World→Prop) (J11:Value→World→Prop) (Q:PQ) w:=kint .i64 .add x16 (.int .i64 1) fun v74=>J15 x15 v74 w
def Pd x2 x7 x8 x10 x12 x13 x14 x15 x16 (J15:Value→Value→World→Prop) (J11:Value→World→Prop) (Q:PQ) w:=ai 0 x2 fun v59=>aw v59 w fun v60=>bz (some (.slice 92)) (some 1) v60 x14 fun v61=>aw v61 w fun v62=>kint .u32 .shr v62 x16 fun v63=>kint .u32 .rem v63 (.int .u32 2) fun v64=>kint .u32 .eql v64 (.int .u32 1) fun v65=>kB v65 fun b75=>aA b75 (kint .i64 .mul (.int .i64 10) x14 fun v66=>kint .i64 .add v66 x16 fun v67=>aP [.int .i64 0,.int .i64 0,.int .i64 0,.int .i64 0] [(0,1,v67)] fun v68=>aP [.int .i64 0,.int .i64 0,.int .i64 0,.int .i64 0,.int .i64 0,.int .i64 0] [(0,1,x16),(1,4,v68)] fun v69=>ay [.int .i64 0,.int .i64 0,.int .i64 0,.int .i64 0,.int .i64 0,.int .i64 0] 1 [(0,6,v69)] 95 w fun v70 w71=>ksem Tryz.prog (Builtin.append_ #[90,90] 0 #[x15,v70]) w71 fun v72 w73=>E2 x2 x7 x8 x10 x12 x13 x14 v72 x16 J15 J11 Q w73) (E2 x2 x7 x8 x10 x12 x13 x14 x15 x16 J15 J11 Q w)
def Pe (x2 x7 x8 x10 x12 x13:Value) x14 (J11:Value→World→Prop) (Q:PQ) w:=kint .i64 .add x14 (.int .i64 1) fun v80=>J11 v80 w
def Pf x2 x7 x8 x10 x12 x13 x14 x15 (J11:Value→World→Prop) (Q:PQ) w:=ae Tryz.prog 36 #[x8,x15] w fun v76 w77=>ae Tryz.prog 37 #[x12,x15] w77 fun v78 w79=>Pe x2 x7 x8 x10 x12 x13 x14 J11 Q w79
def Pg x15 x16 x2 x7 x8 x10 x12 x13 x14 (J15:Value→Value→World→Prop) (J11:Value→World→Prop) (Q:PQ) w:=kint .i64 .lss x16 (.int .i64 4) fun v58=>kB v58 fun b81=>aA b81 (Pd x2 x7 x8 x10 x12 x13 x14 x15 x16 J15 J11 Q w) (Pf x2 x7 x8 x10 x12 x13 x14 x15 J11 Q w)
def LI x2 x7 x8 x10 x12 x13 x14 (J11:Value→World→Prop) (Q:PQ) w:=ay [.int .i64 0,.int .i64 0,.int .i64 0,.int .i64 0,.int .i64 0,.int .i64 0] 0 [] 95 w fun v56 w57=>kL fun(I:Value→Value→World→Prop) (μ:Value→Value→World→Nat)=>I v56 (.int .i64 0) w57∧∀(x15 x16:Value) (w1:World),I x15 x16 w1→Pg x15 x16 x2 x7 x8 x10 x12 x13 x14 (fun y15 y16 w2=>I y15 y16 w2∧μ y15 y16 w2<μ x15 x16 w1) J11 Q w1
def uC x7 x12 x13 (Q:PQ) w:=Q (.tuple #[x7,x12,x13]) w
def uD x2 x7 x10 x12 x13 (Q:PQ) w:=ai 6 x2 fun v86=>aw v86 w fun v87=>kB v87 fun b90=>aA b90 (kN x7<|ai 1 x7 fun v88=>bj 1 v88 x10 w fun w89=>uC x7 x12 x13 Q w89) (uC x7 x12 (.pointer none) Q w)
def BV x2 x7 x8 x10 x12 x13 (Q:PQ) w:=ai 5 x2 fun v82=>aw v82 w fun v83=>kB v83 fun b91=>aA b91 (kN x7<|ai 0 x7 fun v84=>bj 1 v84 x8 w fun w85=>uD x2 x7 x10 x12 x13 Q w85) (uD x2 x7 x10 (.pointer none) x13 Q w)
def E3 x2 x7 x8 x10 x12 x13 x14 x69 (J11:Value→World→Prop) (Q:PQ) w:=kB x69 fun b92=>aA b92 (LI x2 x7 x8 x10 x12 x13 x14 J11 Q w) (BV x2 x7 x8 x10 x12 x13 Q w)
def Ph x14 x2 x7 x8 x10 x12 x13 (J11:Value→World→Prop) (Q:PQ) w:=ai 0 x2 fun v49=>aw v49 w fun v50=>aU v50 fun v51=>kint .i64 .lss x14 v51 fun v53=>kB v53 fun b54=>aA b54 (kint .i64 .lss x14 (.int .i64 20) fun v55=>E3 x2 x7 x8 x10 x12 x13 x14 v55 J11 Q w) (E3 x2 x7 x8 x10 x12 x13 x14 (.bool false) J11 Q w)
def Pi x1 x2 x7 x8 x10 (Q:PQ) (w:World):=ae Tryz.prog 30 #[] w.drew fun v35 w36=>ai 4 x2 fun v37=>aw v37 w36 fun v38=>kG (w36=w36)<|kG (aw v37 w.drew fun v93=>v93=v38∧w.drew=w.drew)<|ae Tryz.prog 32 #[v35,.int .i64 20,v38] w36 fun v39 w40=>ae Tryz.prog 30 #[] w40 fun v41 w42=>ae Tryz.prog 33 #[v41,x1] w42 fun v43 w44=>ae Tryz.prog 34 #[x8] w44 fun v45 w46=>ae Tryz.prog 35 #[v39] w46 fun v47 w48=>kL fun(I:Value→World→Prop) (μ:Value→World→Nat)=>I (.int .i64 0) w48∧∀(x14:Value) (w1:World),I x14 w1→Ph x14 x2 x7 x8 x10 v39 v43 (fun y14 w2=>I y14 w2∧μ y14 w2<μ x14 w1) Q w1
def BW x1 x2 x7 x8 x10 x49 (Q:PQ) w:=kB x49 fun b94=>aA b94 (Q (.tuple #[.pointer none,.pointer none,.pointer none]) w) (Pi x1 x2 x7 x8 x10 Q w)
def f6 x0 x1 (Q:PQ) w:=knew (Value.cells x0) 26 w fun v1 w2=>ai 1 v1 fun v3=>aB 2 v3 w2 fun v4=>ai 3 v1 fun v5=>aw v5 w2 fun v6=>aP [.pointer none,.pointer none,.int .i64 0,.int .i64 0,.int .i64 0] [(2,2,v4),(4,1,v6)] fun v7=>knew (Value.cells v7) 43 w2 fun v8 w9=>ae Tryz.prog 30 #[] w9.drew fun v10 w11=>ai 4 v1 fun v12=>aw v12 w11 fun v13=>kG (w11=w11)<|kG (aw v12 w9.drew fun v95=>v95=v13∧w9.drew=w9.drew)<|ae Tryz.prog 29 #[v10,.int .i64 20,v13] w11 fun v14 w15=>aE v14 0 fun v16=>aE v14 1 fun v17=>ae Tryz.prog 30 #[] w15 fun v18 w19=>ae Tryz.prog 31 #[v18,x1] w19 fun v20 w21=>aE v20 0 fun v22=>aE v20 1 fun v23=>keq Tryz.prog .eql 40 false true v16 (.pointer none) w21 fun v24 w25=>kB v24 fun b26=>aA (!b26) (keq Tryz.prog .eql 41 false true v22 (.pointer none) w25 fun v27 w28=>kB v27 fun b29=>aA (!b29) (keq Tryz.prog .neq 37 false true v17 .nilIface w28 fun v30 w31=>kB v30 fun b32=>aA (!b32) (keq Tryz.prog .neq 37 false true v23 .nilIface w31 fun v33 w34=>BW x1 v1 v8 v16 v22 v33 Q w34) (BW x1 v1 v8 v16 v22 (.bool true) Q w31)) (BW x1 v1 v8 v16 v22 (.bool true) Q w28)) (BW x1 v1 v8 v16 v22 (.bool true) Q w25)
theorem Pj (h:f6 x0 x1 Q w):af Tryz.prog 6 #[x0,x1] w Q :=
 ax (c:=Tryz.f6.body.get rfl) [(11,[14]),(15,[15,16])] Tryz.func6 rfl rfl (args:=[x0,x1]) rfl (by kernel_rfl) h
def Pk x1 x2 x3 x7 x8 x9 (Q:PQ) w:=ai 1 x3 fun v17=>aB 2 v17 w fun v18=>ai 3 x3 fun v19=>aw v19 w fun v20=>kmm .i64 false x2 (.int .i64 300) fun v21=>ae Tryz.prog 7 #[x8,x9,v18,v20,x1,v21] w fun v23 w24=>kN x7<|aB 5 x7 w24 fun v25=>kmm .i64 false x2 (.int .i64 300) fun v26=>ae Tryz.prog 8 #[v25,x1,v26] w24 fun v28 w29=>aE v28 0 fun v30=>aE v28 1 fun v31=>ae Tryz.prog 9 #[v23] w29 fun v32 w33=>aE v32 0 fun v34=>aE v32 1 fun v35=>kint .i64 .eql v30 v34 fun v36=>kB v36 fun b37=>aA b37 (ae Tryz.prog 10 #[v31] w33 fun v38 w39=>kint .i64 .eql v38 v35 fun v40=>kB v40 fun b41=>aA b41 (keq Tryz.prog .eql 30 false true x8 (.pointer none) w39 fun v42 w43=>kB v42 fun b44=>aA (!b44) (kN x7<|ai 0 x7 fun v45=>aw v45 w43 fun v46=>ae Tryz.prog 12 #[v46] w43 fun v47 w48=>ae Tryz.prog 13 #[x8] w48 fun v49 w50=>ae Tryz.prog 11 #[v47,v49] w50 fun v51 w52=>Q v51 w52) (Q (.bool true) w43)) (Q (.bool false) w39)) (Q (.bool false) w33)
def Pl x1 x2 x3 (Q:PQ) w:=aB 7 x3 w fun v9=>ae Tryz.prog 6 #[v9,.int .i64 6] w fun v10 w11=>aE v10 0 fun v12=>aE v10 1 fun v13=>aE v10 2 fun v14=>keq Tryz.prog .eql 29 false true v12 (.pointer none) w11 fun v15 w16=>kB v15 fun b53=>aA b53 (Q (.bool false) w16) (Pk x1 x2 x3 v12 v13 v14 Q w16)
def Pm x1 x2 x3 (Q:PQ) w:=aU x1 fun v6=>kint .i64 .gtr v6 (.int .i64 80) fun v8=>kB v8 fun b54=>aA b54 (Q (.bool true) w) (Pl x1 x2 x3 Q w)
def f3 x0 x1 x2 (Q:PQ) w:=knew (Value.cells x0) 26 w fun v1 w2=>ae Tryz.prog 5 #[] w2 fun v3 w4=>kun .not (some .bool) v3 fun v5=>kB v5 fun b55=>aA b55 (Q (.bool false) w4) (Pm x1 x2 v1 Q w4)
theorem Pn (h:f3 x0 x1 x2 Q w):af Tryz.prog 3 #[x0,x1,x2] w Q :=
 ax (c:=Tryz.f3.body.get rfl) [] Tryz.func3 rfl rfl (args:=[x0,x1,x2]) rfl (by kernel_rfl) h
def Po x7 x9 (Q:PQ) (w:World):=keq Tryz.prog .eql 31 false true x9 (.pointer none) w.drew fun v88 w89=>kG (w89=w.drew)<|kB v88 fun b90=>aA (!b90) (kN x7<|ai 1 x7 fun v91=>aw v91 w89 fun v92=>kG (w89=w89)<|ae Tryz.prog 26 #[v92] w89 fun v93 w94=>kN x9<|ai 3 x9 fun v95=>aw v95 w94 fun v96=>kG (w94=w94)<|kG (aw v95 w89 fun v108=>v108=v96∧w89=w89)<|ae Tryz.prog 25 #[v93,v96] w94 fun v97 w98=>kB v97 fun b99=>aA b99 (kN x7<|ai 1 x7 fun v100=>aw v100 w98 fun v101=>kG (w98=w98)<|ae Tryz.prog 27 #[v101] w98 fun v102 w103=>kN x9<|ai 5 x9 fun v104=>aw v104 w103 fun v105=>kG (w103=w103)<|kG (aw v104 w98 fun v107=>v107=v105∧w98=w98)<|kint .i64 .eql v102 v105 fun v106=>Q v106 w103) (Q (.bool false) w98)) (Q (.bool true) w89)
def BX x7 x9 x128 (Q:PQ) w:=kB x128 fun b109=>aA b109 (Q (.bool false) w) (Po x7 x9 Q w)
def Pp x7 x8 x9 (Q:PQ) (w:World):=keq Tryz.prog .neq 30 false true x8 (.pointer none) w.drew fun v66 w67=>kG (w67=w.drew)<|kB v66 fun b68=>aA b68 (kN x7<|ai 0 x7 fun v69=>aw v69 w67 fun v70=>kG (w67=w67)<|ae Tryz.prog 12 #[v70] w67 fun v71 w72=>ae Tryz.prog 13 #[x8] w72 fun v73 w74=>ae Tryz.prog 11 #[v71,v73] w74 fun v75 w76=>kun .not (some .bool) v75 fun v77=>kB v77 fun b78=>aA (!b78) (kN x7<|ai 0 x7 fun v79=>aw v79 w76 fun v80=>kG (w76=w76)<|ae Tryz.prog 24 #[v80] w76 fun v81 w82=>kN x8<|ai 3 x8 fun v83=>aw v83 w82 fun v84=>kG (w82=w82)<|kG (aw v83 w76 fun v110=>v110=v84∧w76=w76)<|ae Tryz.prog 23 #[v81,v84] w82 fun v85 w86=>kun .not (some .bool) v85 fun v87=>BX x7 x9 v87 Q w86) (BX x7 x9 (.bool true) Q w76)) (BX x7 x9 (.bool false) Q w67)
def Pq (x7 x8 x9 x10 x11:Value) x12 (J11:Value→World→Prop) (Q:PQ) w:=kint .i64 .add x12 (.int .i64 1) fun v111=>J11 v111 w
def QH x7 x8 x9 x10 x11 x12 x13 (J11:Value→World→Prop) (Q:PQ) w:=kun .not (some .bool) x13 fun v65=>kB v65 fun b112=>aA b112 (Pp x7 x8 x9 Q w) (Pq x7 x8 x9 x10 x11 x12 J11 Q w)
def Pr x7 x8 x9 x10 x11 x12 x13 x100 (J11:Value→World→Prop) (Q:PQ) w:=kB x100 fun b113=>aA b113 (Q (.bool false) w) (QH x7 x8 x9 x10 x11 x12 x13 J11 Q w)
def QI x7 x8 x9 x10 x11 x12 (J11:Value→World→Prop) (Q:PQ) w:=ae Tryz.prog 21 #[x10] w fun v52 w53=>aE v52 0 fun v54=>aE v52 1 fun v55=>ae Tryz.prog 22 #[x11] w53 fun v56 w57=>aE v56 0 fun v58=>aE v56 1 fun v59=>kbool .neq v54 v58 fun v60=>kB v60 fun b61=>aA (!b61) (ae Tryz.prog 10 #[v55] w57 fun v62 w63=>kint .i64 .neq v62 v59 fun v64=>Pr x7 x8 x9 x10 x11 x12 v54 v64 J11 Q w63) (Pr x7 x8 x9 x10 x11 x12 v54 (.bool true) J11 Q w57)
def E4 x7 x8 x9 x10 x11 x12 x81 (J11:Value→World→Prop) (Q:PQ) w:=kB x81 fun b114=>aA b114 (Q (.bool false) w) (QI x7 x8 x9 x10 x11 x12 J11 Q w)
def QJ x7 x8 x9 x10 x11 x12 (J11:Value→World→Prop) (Q:PQ) (w:World):=ae Tryz.prog 15 #[x10] w.drew fun v27 w28=>ae Tryz.prog 16 #[x11] w28 fun v29 w30=>kbool .neq v27 v29 fun v31=>kB v31 fun b32=>aA (!b32) (ae Tryz.prog 17 #[x10] w30 fun v33 w34=>kN x11<|ai 6 x11 fun v35=>aw v35 w34 fun v36=>kG (w34=w34)<|kG (aw v35 w30 fun v117=>v117=v36∧w30=w30)<|kint .i64 .neq v33 v36 fun v37=>kB v37 fun b38=>aA (!b38) (ae Tryz.prog 18 #[x10] w34 fun v39 w40=>kN x11<|ai 8 x11 fun v41=>aw v41 w40 fun v42=>kG (w40=w40)<|kG (aw v41 w34 fun v116=>v116=v42∧w34=w34)<|kint .i64 .neq v39 v42 fun v43=>kB v43 fun b44=>aA (!b44) (ae Tryz.prog 20 #[x10] w40 fun v45 w46=>kN x11<|ai 7 x11 fun v47=>aw v47 w46 fun v48=>kG (w46=w46)<|kG (aw v47 w40 fun v115=>v115=v48∧w40=w40)<|ae Tryz.prog 19 #[v45,v48] w46 fun v49 w50=>kun .not (some .bool) v49 fun v51=>E4 x7 x8 x9 x10 x11 x12 v51 J11 Q w50) (E4 x7 x8 x9 x10 x11 x12 (.bool true) J11 Q w40)) (E4 x7 x8 x9 x10 x11 x12 (.bool true) J11 Q w34)) (E4 x7 x8 x9 x10 x11 x12 (.bool true) J11 Q w30)
def QK x12 x7 x8 x9 x10 x11 (J11:Value→World→Prop) (Q:PQ) w:=kint .i64 .lss x12 (.int .i64 600) fun v26=>kB v26 fun b118=>aA b118 (QJ x7 x8 x9 x10 x11 x12 J11 Q w) (Pp x7 x8 x9 Q w)
def QL x1 x2 x3 x7 x8 x9 (Q:PQ) w:=kN x7<|aB 5 x7 w fun v17=>ae Tryz.prog 14 #[v17,x1,x2] w fun v18 w19=>ai 1 x3 fun v20=>aB 2 v20 w19 fun v21=>ai 3 x3 fun v22=>aw v22 w19 fun v23=>ae Tryz.prog 7 #[x8,x9,v21,v23,x1,x2] w19 fun v24 w25=>kL fun(I:Value→World→Prop) (μ:Value→World→Nat)=>I (.int .i64 0) w25∧∀(x12:Value) (w1:World),I x12 w1→QK x12 x7 x8 x9 v18 v24 (fun y12 w2=>I y12 w2∧μ y12 w2<μ x12 w1) Q w1
def QM x1 x2 x3 (Q:PQ) w:=aB 7 x3 w fun v9=>ae Tryz.prog 6 #[v9,.int .i64 6] w fun v10 w11=>aE v10 0 fun v12=>aE v10 1 fun v13=>aE v10 2 fun v14=>keq Tryz.prog .eql 29 false true v12 (.pointer none) w11 fun v15 w16=>kB v15 fun b119=>aA b119 (Q (.bool false) w16) (QL x1 x2 x3 v12 v13 v14 Q w16)
def QN x1 x2 x3 (Q:PQ) w:=aU x1 fun v6=>kint .i64 .gtr v6 (.int .i64 80) fun v8=>kB v8 fun b120=>aA b120 (Q (.bool true) w) (QM x1 x2 x3 Q w)
def f4 x0 x1 x2 (Q:PQ) w:=knew (Value.cells x0) 26 w fun v1 w2=>ae Tryz.prog 5 #[] w2 fun v3 w4=>kun .not (some .bool) v3 fun v5=>kB v5 fun b121=>aA b121 (Q (.bool false) w4) (QN x1 x2 v1 Q w4)
end
section
attribute [local irreducible] kO kB bG bH kN kG aA ai aw aB bj knew bB aP ay aE bk aD aU bC bD a8 kbool kint kstr keq kun ksl bz cQ kta kmk kmm ksem ksemU bd aI aL ae kL
section
variable {L:List Comp} {n bv:Nat} {U:Nat→Prop} {w w':World}
end
end
section
attribute [local irreducible] kO kB bG bH kN kG aA ai aw aB bj knew bB aP ay aE bk aD aU bC bD a8 kbool kint kstr keq kun ksl bz cQ kta kmk kmm ksem ksemU bd aI aL ae kL
theorem th:appT Tryz.prog 48 2 32=true:=by kernel_rfl
theorem kE:∃e,Tryz.prog.underlying 48=some (.slice e):=dI (by kernel_rfl)
section
variable {L:List Comp} {n bv:Nat} {U:Nat→Prop} {w w':World}
end
end
section
attribute [local irreducible] kO kB bG bH kN kG aA ai aw aB bj knew bB aP ay aE bk aD aU bC bD a8 kbool kint kstr keq kun ksl bz cQ kta kmk kmm ksem ksemU bd aI aL ae kL
theorem LJ (h:cC Sa k lo x w) (hlo:lo≤w.heap.size):af Tryz.prog 198 #[x] w fun v w'=>cC Sa k lo v w'∧Same w w':=by
 refine Dn ?_;unfold Nt;refine ab (gF _ h hlo) ?_;rintro v w' ⟨h1,h2⟩;exact⟨h1,h2⟩
theorem BZ {pr:Nat→Prop} (hL:cO pr Sa w) (h1:pr 1) {b i c wd:Nat} {rows:List Part} (h:dF o w b i c wd rows) {n:Nat} (hn:n<rows.length) {cell:Int} (hcell:cell<0∨(wd:Int)≤cell) (value frame:Int) :
  af Tryz.prog 208 #[.pointer (some ⟨b,0,none⟩),.int .i64 n,.int .i64 cell,.int .i64 value,.int .i64 frame] w fun v w'=>∃x,v=.tuple #[ky,x]∧cC Sa 1 w.heap.size x w'∧Same w w':=by
 obtain⟨bc,cp,bt,ct,arr,arrt,tc,tt,hv,hbcl,hbtl,hO1,hO2⟩:=h.view (by omega);refine tU ?_;unfold Jq;refine ar fun w2 h2 hs2 hb2=>?_;refine ab (kq (h.same h2) hn (hv.same h2)) ?_;rintro v w4 ⟨rfl,h4⟩;have m4:=h2.trans h4;have hb4:=h4.get hb2 (fun h=>h);refine ak rfl ?_;refine ak rfl ?_;rw[aV bU];refine ac ?_;refine az rfl ?_;refine aM ?_;refine ac ?_;have fin:pb (.pointer (some ⟨b,0,none⟩)) (.int .i64 n) (.int .i64 cell) (.int .i64 value) (.int .i64 frame) (.pointer (some ⟨w.heap.size,0,none⟩)) (.slice (some ⟨bc,n*wd,none⟩) wd (cp-n*wd)) (.bool true) (fun v w'=>∃x,v=.tuple #[ky,x]∧cC Sa 1 w.heap.size x w'∧Same w w') w4:=by
  unfold pb;refine ac ?_;refine aN rfl ?_;refine aW (cs:=[.int .i64 0,.int .i64 0,.int .i64 0,.int .i64 0,.int .i64 0,.int .i64 0]) rfl ?_;refine dD (hL.same m4) h1 rfl rfl ?_;refine ab (LJ (cC.sent Sa 1 w4.heap.size w4) (Nat.le_refl _)) ?_;rintro v w20 ⟨hE,h20⟩;refine aQ (vs:=[.int .i64 0,.int .i64 0,.int .i64 0,.int .i64 0,.int .i64 0,.int .i64 0]) (h20.get hb4 (fun h=>h)) rfl rfl rfl (by simp) (by simp) fun w21 h21 hs21 hb21=>?_;have hb21:aX w21 w.heap.size=some (.cells #[.int .i64 0,.int .i64 0,.int .i64 0,.int .i64 0,.int .i64 0,.int .i64 0] 95):=hb21;refine au hb21 rfl (by omega) ?_;have hz:=m4.size;have hl:=aC hb4;exact⟨_,rfl,(hE.mod h21 fun k h1 h2 e=>by omega).mono (by omega),(m4.trans h20).trans' (h21.mono fun k _ e=>.inr (by omega))⟩
 refine cz (fun hc=>?_) (fun hc=>fin);refine aK ?_;refine bI ?_;rw[co (by omega)];exact fin
theorem B2 {pr:Nat→Prop} (hL:cO pr Sa w) (h1:pr 1) {b:Nat} {p:dJ} {S:SM} (h:bF o w b p S) {i:Nat} {g:Int} (hg:S.gens[i]?=some (g,true)) {n r:Nat} (hs:S.spots[i]?=some (n,r)) (hn:n<S.tabs.length) {c:Nat} (hc:c∈bq S.masks n) (hr:r<(S.tabs[n].col c).length) {cell:Int} (hcell:cell<0∨(wdF S.cs c:Int)≤cell) (value frame:Int) :
  af Tryz.prog 176 #[ptrV b,entV i g,.int .i64 c,.int .i64 cell,.int .i64 value,.int .i64 frame] w fun v w'=>∃x,v=.tuple #[ky,x]∧cC Sa 1 w.heap.size x w'∧Same w w':=by
 refine pf ?_;unfold DP;refine ar fun w2 hm2 hs2 hb2=>?_;have hb2:aX w2 w.heap.size=some (.cells #[.int .i64 i,.int .i64 g] 157):=hb2;refine ar fun w4 hm4 hs4 hb4=>?_;have m4:=hm2.trans hm4;have hb2':=hm4.get hb2 (fun h=>h);have hS4:=h.same m4;refine au hb2' rfl (by omega) ?_;refine ab (ig hS4 hg hs hn hc) ?_;rintro v w7 ⟨rfl,hC,h7⟩;have m7:=m4.trans h7;refine ak rfl ?_;refine ak rfl ?_;refine ak rfl ?_;rw[aV bU];refine ac ?_;refine az rfl ?_;refine ab (BZ (hL.same m7) h1 hC hr hcell value frame) ?_;rintro v w17 ⟨x,rfl,hx,h17⟩;refine ak rfl ?_;refine ak rfl ?_;have hz7:=m7.size;refine aQ (vs:=[.int .i64 0,.int .i64 0,.int .i64 0,.int .i64 0,.int .i64 0,.int .i64 0]) ((h7.trans h17).get hb4 (fun h=>h)) rfl rfl rfl (by simp) (by simp) fun w20 h20 hs20 hb20=>?_;have hb20:aX w20 w2.heap.size=some (.cells #[.int .i64 0,.int .i64 0,.int .i64 0,.int .i64 0,.int .i64 0,.int .i64 0] 95):=hb20;refine au hb20 rfl (by omega) ?_;have hz4:=h7.size;exact⟨_,rfl,(hx.mod h20 fun k h1 h2 e=>by omega).mono (by omega),(m7.trans h17).trans' (h20.mono fun k _ e=>.inr (by omega))⟩
section
variable {pr:Nat→Prop} {Sa:Nat→Addr} {c:WC} {w0:World} {fx:Nat→Prop} {w:World} {S:SM} {t:Nat} {B:BdM}
def B3 (S S':SM):Prop:=S'.gens=S.gens∧S'.cs=S.cs∧S'.masks=S.masks∧S'.tabs.length=S.tabs.length∧S'.free=S.free
theorem iw.cells (h:iw S B) (k:B3 S S'):iw S' B:=by
 obtain⟨k1,k2,k3,k4,k5⟩:=k;exact⟨fun x hx=>by rw[k1]; exact h.live x hx,fun i g hg=>h.all i g (k1▸hg),by rw[k4,k3]; exact h.tm,by rw[k5,k1]; exact h.cnt⟩
theorem nf (h:cB c w0 fx w S t B) {x:Int} {y:Nat×EK} (hf:B.l.find? (fun z=>decide (((z.1:Nat):Int)=x))=some y) {i:Nat} (hyi:y.2.i=(i:Int)) {n cell value:Int} {R:SM→Prop} (hR:∀S',R S'→B3 S S')
  (hst:∀(o:dd) (p:dJ) (w1:World),Same w0 w1→bF o w1 c.bs p S→GS S t→af Tryz.prog 176 #[ptrV c.bs,entV i y.2.g,.int .i64 n,.int .i64 cell,.int .i64 value,.int .i64 c.frame] w1 fun v w'=>∃(q:Part) (e:Value),v=.tuple #[.agg q.cells.toArray,e]∧((e=.nilIface∧bZ q.comp∧∃S',R S'∧GS S' t∧c7 o w1 c.bs S' w')∨(R S∧(∃k,cC Sa k w1.heap.size e w')∧Same w1 w'))) :
  af Tryz.prog 132 #[.pointer (some ⟨c.bw,0,none⟩),.int .i64 x,.int .i64 n,.int .i64 cell,.int .i64 value] w fun v w'=>∃S',R S'∧cB c w0 fx w' S' t B∧aH (fun k=>w0.heap.size≤k∧¬fx k) w w':=by
 have hwl:=aC h.here;refine uh ?_;unfold K1;refine ab (ik h hf) ?_;rintro v w2 ⟨rfl,h2⟩;unfold EK.v entV;rw[hyi];refine ak rfl ?_;refine ak rfl ?_;refine ar fun w6 h6 hs6 hb6=>?_;refine aQ (vs:=[.int .i64 i,.int .i64 y.2.g]) hb6 rfl rfl rfl (by simp) (by simp) fun w7 h7 hs7 hb7=>?_;have hb7:aX w7 w2.heap.size=some (.cells #[.int .i64 i,.int .i64 y.2.g] 157):=hb7;have m7:Same w2 w7:=h6.trans' (h7.mono fun k _ e=>.inr (by omega));rw[aV bU];refine ac ?_;refine az rfl ?_;unfold AK;have md:Same w w7.drew:=(h2.trans m7).drew;have hbd:aX w7.drew w2.heap.size=some (.cells #[.int .i64 i,.int .i64 y.2.g] 157):=hb7;have hz2:=h2.size;have hz7:w2.heap.size<w7.drew.heap.size:=aC hbd;generalize w7.drew=wd at *;have hcall:∀w1,Same wd w1→af Tryz.prog 176 #[.pointer (some ⟨c.bs,0,none⟩),.agg #[.int .i64 i,.int .i64 y.2.g],.int .i64 n,.int .i64 cell,.int .i64 value,.int .i64 c.frame] w1 fun v w'=>∃(q:Part) (e:Value),v=.tuple #[.agg q.cells.toArray,e]∧(∃S',R S'∧cB c w0 (fun k=>fx k∨(w.heap.size≤k∧k<w1.heap.size)) w' S' t B∧aH (fun k=>w0.heap.size≤k∧¬(fx k∨(w.heap.size≤k∧k<w1.heap.size))) w1 w')∧((e=.nilIface∧bZ q.comp)∨∃k,cC Sa k w1.heap.size e w'):=by
  intro w1 m;have h1:=h.ext (md.trans m);obtain⟨o,p,U,C,hb,hU,hfx⟩:=id h1.A;have:=hst o p w1 C.same C.sp C.gs;rw[ptrV,entV]at this;refine this.mono ?_;rintro v w' ⟨q,e,rfl,⟨rfl,hq,S',hRS,hG,T⟩ | ⟨hRS,hE,m'⟩⟩
  ·obtain⟨hA,hm⟩:=mN.turned C hb hU hfx T hG;exact⟨q,_,rfl,⟨S',hRS,h1.step hA hm (h.link.cells (hR S' hRS)) (hR S' hRS).2.1,hm⟩,.inl ⟨rfl,hq⟩⟩
  ·exact⟨q,e,rfl,⟨S,hRS,h1.loc m',aH.of_same m'⟩,.inr hE⟩
 have tail:∀(w1:World) (bp lo:Nat) (q:Part) (e:Value) (S':SM) (fx1:Nat→Prop),R S'→cB c w0 fx1 w1 S' t B→(∀k,fx k→fx1 k)→aH (fun k=>w0.heap.size≤k∧¬fx k) w w1→lo≤w1.heap.size→((e=.nilIface∧bZ q.comp)∨∃k,cC Sa k lo e w1)→aX w1 bp=some (.cells q.cells.toArray 95)→pD (.pointer (some ⟨c.bw,0,none⟩)) (.int .i64 x) e (.pointer (some ⟨bp,0,none⟩)) (fun v w'=>∃S',R S'∧cB c w0 fx w' S' t B∧aH (fun k=>w0.heap.size≤k∧¬fx k) w w') w1:=by
  intro w1 bp lo q e S' fx1 hRS h1 hs hm hlo he hbp;unfold pD;have h1':=h1.less hs h.fm;rcases he with⟨rfl,hq⟩ | ⟨k,hE⟩
  ·rw[aV bU];refine ac ?_;refine az rfl ?_;unfold AJ;refine au (cs:=q.cells) hbp rfl (by omega) ?_;refine ab (EG h1.here h1.rl 1 x q hq) ?_;rintro v w28 ⟨_,h28⟩;exact⟨S',hRS,h1'.loc h28,hm.trans (aH.of_same h28)⟩
  ·obtain⟨ty,y',rfl⟩:=hE.if;rw[dB bU];refine ac ?_;refine aN rfl ?_;refine ab (jx hE hlo) ?_;rintro v w25 ⟨_,h25⟩;exact⟨S',hRS,h1'.loc h25,hm.trans (aH.of_same h25)⟩
 have hdw:=h.loc md;refine⟨?_,?_⟩
 ·refine aq ?_;refine aa ?_;refine ao (v:=.pointer (some ⟨c.bs,0,none⟩)) hdw.here rfl ?_;refine ah rfl ?_;refine au (cs:=[.int .i64 i,.int .i64 y.2.g]) hbd rfl (by omega) ?_;refine ah rfl ?_;refine aq ?_;refine aa ?_;refine ao (v:=.int .i64 c.frame) hdw.here rfl ?_;refine ah rfl ?_;refine ab (hcall wd (aH.refl _ _)) ?_;rintro v w16 ⟨q,e,rfl,⟨S',hRS,h1,hm⟩,he⟩;have hz16:=hm.size;refine ar fun w18 h18 hs18 hb18=>?_;have h1':=h1.loc h18;refine ah (ao (v:=.int .i64 c.frame) h1'.here rfl ⟨rfl,rfl⟩) ?_;refine ah (au (cs:=[.int .i64 i,.int .i64 y.2.g]) (h18.get (hm.get hbd (fun hk=>hk.2 (.inr ⟨by omega,by omega⟩))) (fun h=>h)) rfl (by omega) ⟨rfl,rfl⟩) ?_;refine ah (ao (v:=.pointer (some ⟨c.bs,0,none⟩)) h1'.here rfl ⟨rfl,rfl⟩) ?_;refine ak rfl ?_;refine aQ (vs:=q.cells) hb18 rfl rfl rfl (by simp) (by simp[Part.cells]) fun w20 h20 hs20 hb20=>?_;have hb20:aX w20 w16.heap.size=some (.cells q.cells.toArray 95):=hb20;have m20:Same w16 w20:=h18.trans' (h20.mono fun k _ e=>.inr (by omega));refine ak rfl ?_;refine tail w20 _ wd.heap.size q e S' _ hRS (h1.loc m20) (fun k hk=>.inl hk) (((aH.of_same md).trans (hm.mono fun k _ hk=>⟨hk.1,fun hx=>hk.2 (.inl hx)⟩)).trans (aH.of_same m20)) (by have:=m20.size; omega) (he.imp id fun⟨k,hE⟩=>⟨k,hE.same m20⟩) hb20
 ·refine ar fun w34 h34 hs34 hb34=>?_;refine aq ?_;refine aa ?_;have hd34:=hdw.loc h34;refine ao (v:=.pointer (some ⟨c.bs,0,none⟩)) hd34.here rfl ?_;refine ah rfl ?_;refine ah (ao (v:=.pointer (some ⟨c.bs,0,none⟩)) hdw.here rfl ⟨rfl,rfl⟩) ?_;refine au (cs:=[.int .i64 i,.int .i64 y.2.g]) (h34.get hbd (fun h=>h)) rfl (by omega) ?_;refine ah rfl ?_;refine ah (au (cs:=[.int .i64 i,.int .i64 y.2.g]) hbd rfl (by omega) ⟨rfl,rfl⟩) ?_;refine aq ?_;refine aa ?_;refine ao (v:=.int .i64 c.frame) hd34.here rfl ?_;refine ah rfl ?_;refine ah (ao (v:=.int .i64 c.frame) hdw.here rfl ⟨rfl,rfl⟩) ?_;refine ab (hcall w34 h34) ?_;rintro v w41 ⟨q,e,rfl,⟨S',hRS,h1,hm⟩,he⟩;have hz34:=h34.size;have hl34:=aC hb34;refine ak rfl ?_;refine aQ (vs:=q.cells) (hm.get hb34 (fun hk=>hk.2 (.inr ⟨by omega,by omega⟩))) rfl rfl rfl (by simp) (by simp[Part.cells]) fun w43 h43 hs43 hb43=>?_;have hb43:aX w43 wd.heap.size=some (.cells q.cells.toArray 95):=hb43;have h143:=h1.other h43 fun k hk=>⟨.inr ⟨by omega,by omega⟩,fun e=>by have:=(h.A.lt (h.fm k e)).2; omega⟩
  refine ak rfl ?_;have hm43:aH (fun k=>w0.heap.size≤k∧¬fx k) w w43:=((aH.of_same (md.trans h34)).trans (hm.mono fun k _ hk=>⟨hk.1,fun hx=>hk.2 (.inl hx)⟩)).trans' (h43.mono fun k _ e=>.inr (by omega));have hz41:=hm.size;refine tail w43 _ w34.heap.size q e S' _ hRS h143 (fun k hk=>.inl (.inl hk)) hm43 (by omega) (he.imp id fun⟨k,hE⟩=>⟨k,hE.mod h43 fun j h1 h2 e=>by omega⟩) hb43
end
end
section
attribute [local irreducible] kO kB bG bH kN kG aA ai aw aB bj knew bB aP ay aE bk aD aU bC bD a8 kbool kint kstr keq kun ksl bz cQ kta kmk kmm ksem ksemU bd aI aL ae kL
def dR (c:Int) (q:Part):Bool:=decide (q.comp=c)
def jz (L:List Part) (c:Int) (cell:Nat) (n frame:Int):List Part:=L.map fun q=>if q.comp=c then q.setCell cell n frame else q
def ge (V:d8) (x c:Int):Option Part:=(gt V x).bind fun y=>y.2.find? (dR c)
def gf (cs:List Comp) (frame:Int) (V:d8) (x c i n:Int):d8:=match gt V x with
 | some y=>if (y.2.find? (dR c)).isSome∧0≤i∧i<(wdF cs c.toNat:Int) then ln V y.1 (jz y.2 c i.toNat n frame) else V
 | none=>V
theorem ja {L:List Part} (h:L.find? (dR c)=some q):q.comp=c:=by
 have:=List.find?_some h;exact of_decide_eq_true this
theorem tr {q:Part} (hq:q.ok) {cell:Nat} {n frame:Int} (hn:bZ n) (hf:bZ frame):(q.setCell cell n frame).ok:=by
 obtain⟨h1,h2,h3,h4,h5,h6⟩:=hq;unfold Part.setCell;split
 ·exact⟨h1,hn,h3,h4,h5,hf⟩
 ·exact⟨h1,h2,hn,h4,h5,hf⟩
 ·exact⟨h1,h2,h3,hn,h5,hf⟩
 ·exact⟨h1,h2,h3,h4,hn,hf⟩
theorem uE (h:nr V) (x c i:Int) {n:Int} (hn:bZ n) (hf:bZ frame):nr (gf cs frame V x c i n):=by
 unfold gf;cases hv:gt V x with
 | none=>exact h
 | some y =>
  show nr (if _ then _ else _);have hy:=(fS hv).1;split
  ·intro z hz q hq;obtain⟨u,hu,rfl⟩:=List.mem_map.1 hz;split at hq
   ·obtain⟨r,hr,rfl⟩:=List.mem_map.1 hq;split
    ·exact tr (h y hy r hr) hn hf
    ·exact h y hy r hr
   ·exact h u hu q hq
  ·exact h
theorem B4 (h:iw S B) (hwf:B.WF) {i c:Nat} {q:Part} (hW:D4 S S' i c q) {y:Nat×EK} (hy:y∈B.l) (hyi:y.2.i=(i:Int)):bX S' B=ln (bX S B) y.1 ((partsOf S i).map fun x=>if x.comp=(c:Int) then q else x):=by
 unfold bX ln;rw[List.map_map];apply List.map_congr_left;intro x hx;show(x.1,partsOf S' x.2.i.toNat)=if x.1=y.1 then(y.1,_) else(x.1,partsOf S x.2.i.toNat)
 by_cases he:x.1=y.1
 ·have:=AE hwf hx hy he;subst this;rw[if_pos rfl,hyi,Int.toNat_natCast,hW.parts]
 ·rw[if_neg he];obtain⟨j,h1,h2⟩:=h.live x hx;rw[h1,Int.toNat_natCast,hW.others j _ (fun e=>he ?_) h2];have:x.2=y.2:=h.index hx hy (by rw[h1,hyi,e]);rw[KU hwf hx hy this]
section
variable {pr:Nat→Prop} {Sa:Nat→Addr} {c:WC} {w0:World} {fx:Nat→Prop} {w:World} {S:SM} {t:Nat} {B:BdM}
theorem wC (hL:cO pr Sa w0) (h7:pr 7) (h:cB c w0 fx w S t B) {x:Int} {n:Int} {y:Nat×EK} (hf:B.l.find? (fun z=>decide (((z.1:Nat):Int)=x))=some y) (hno:∀q∈partsOf S y.2.i.toNat,q.comp≠n) :
  af Tryz.prog 173 #[.pointer (some ⟨c.bw,0,none⟩),.int .i64 x,.int .i64 n] w fun v w'=>(∃e,v=.tuple #[.agg (⟨0,0,0,0,0,0⟩:Part).cells.toArray,e]∧sX e)∧Same w w':=by
 have hym:=List.mem_of_find?_eq_some hf;obtain⟨i,hyi,hg⟩:=h.link.live y hym;rw[hyi,Int.toNat_natCast]at hno;have hs0:=h.A.same0;refine pC ?_;unfold Ew;refine ar fun w2 h2 hs2 hb2=>?_;refine ab (ik (h.loc h2) hf) ?_;rintro v w4 ⟨rfl,h4⟩;unfold EK.v entV;rw[hyi];refine ak rfl ?_;refine ak rfl ?_;refine ar fun w8 h8 hs8 hb8=>?_;refine aQ (vs:=[.int .i64 i,.int .i64 y.2.g]) hb8 rfl rfl rfl (by simp) (by simp) fun w9 h9 hs9 hb9=>?_;have hb9:aX w9 w4.heap.size=some (.cells #[.int .i64 i,.int .i64 y.2.g] 157):=hb9;have m9:Same w4 w9:=h8.trans' (h9.mono fun k _ e=>.inr (by omega));rw[aV bU];refine ac ?_;refine az rfl ?_;unfold sV;have md:Same w9 w9.drew:=(aH.refl (fun _=>False) _).drew;have m29:Same w2 w9.drew:=(h4.trans m9).trans md;have hd:=h.loc (h2.trans m29);have hbd:=md.get hb9 (fun h=>h);have hb2d:=m29.get hb2 (fun h=>h);have hz2:=m29.size;generalize w9.drew=wd at *;have key:∀{w1:World},Same wd w1→aX w1 c.bw=some (.cells c.cells 109):=fun m=>m.get hd.here (fun h=>h);have tail:∀(w1:World) (bp lo:Nat) (e:Value),Same wd w1→lo≤w1.heap.size→cC Sa 7 lo e w1→kC (.pointer (some ⟨w.heap.size,0,none⟩)) e (.pointer (some ⟨bp,0,none⟩)) (fun v w'=>(∃e,v=.tuple #[.agg (⟨0,0,0,0,0,0⟩:Part).cells.toArray,e]∧sX e)∧Same w w') w1:=by
  intro w1 bp lo e m hlo hE;unfold kC;obtain⟨ty,y',rfl⟩:=hE.if;rw[dB bU];refine ac ?_;refine aN rfl ?_;refine aW (cs:=(⟨0,0,0,0,0,0⟩:Part).cells) rfl ?_;refine ab (jx hE hlo) ?_;rintro v w29 ⟨hE2,h29⟩;refine aQ (vs:=(⟨0,0,0,0,0,0⟩:Part).cells) ((m.trans h29).get hb2d (fun h=>h)) rfl rfl rfl (by simp[Part.cells]) (by simp[Part.cells]) fun w33 h33 hs33 hb33=>?_;have hb33:aX w33 w.heap.size=some (.cells (⟨0,0,0,0,0,0⟩:Part).cells.toArray 95):=hb33;refine au hb33 rfl (by omega) ?_;obtain⟨ty2,y2,rfl⟩:=hE2.if;exact⟨⟨_,rfl,_,_,rfl⟩,(((h2.trans m29).trans m).trans h29).trans' (h33.mono fun k _ e=>.inr (by omega))⟩
 obtain⟨o,p,U,C,hb,hU,hfx⟩:=hd.A;obtain⟨nn,r,hsp,hn,hnc⟩:=uf C.sp C.gs hg hno;have hget:∀w1,Same wd w1→af Tryz.prog 204 #[.pointer (some ⟨c.bs,0,none⟩),.agg #[.int .i64 i,.int .i64 y.2.g],.int .i64 n] w1 fun v w'=>∃x,v=.tuple #[ky,x]∧cC Sa 7 w1.heap.size x w'∧Same w1 w':=by
  intro w1 m;have:=z6 (Sa:=Sa) (k:=7) (b:=c.bs) (idx:=i) (gen:=y.2.g) (c:=n) (w:=w1) fun w2 m2=>jY (hL.same ((C.same.trans m).trans m2)) h7 (C.sp.same (m.trans m2)) hg hsp hn hnc;rw[ptrV,entV]at this;exact this
 refine⟨?_,?_⟩
 ·refine aq ?_;refine aa ?_;refine ao (v:=.pointer (some ⟨c.bs,0,none⟩)) hd.here rfl ?_;refine ah rfl ?_;refine au (cs:=[.int .i64 i,.int .i64 y.2.g]) hbd rfl (by omega) ?_;refine ah rfl ?_;refine ab (hget _ (aH.refl _ _)) ?_;rintro v w19 ⟨e,rfl,hE,h19⟩;refine ar fun w21 h21 hs21 hb21=>?_;refine ah (au (cs:=[.int .i64 i,.int .i64 y.2.g]) ((h19.trans h21).get hbd (fun h=>h)) rfl (by omega) ⟨rfl,rfl⟩) ?_;refine ah (ao (v:=.pointer (some ⟨c.bs,0,none⟩)) (key (h19.trans h21)) rfl ⟨rfl,rfl⟩) ?_;refine ak rfl ?_;refine aQ (vs:=(⟨0,0,0,0,0,0⟩:Part).cells) hb21 rfl rfl rfl (by simp[Part.cells]) (by simp[Part.cells]) fun w23 h23 hs23 hb23=>?_;have m23:Same w19 w23:=h21.trans' (h23.mono fun k _ e=>.inr (by omega));refine ak rfl ?_;exact tail _ _ wd.heap.size _ (h19.trans m23) (h19.trans m23).size (hE.same m23)
 ·refine ar fun w39 h39 hs39 hb39=>?_;refine aq ?_;refine aa ?_;refine ao (v:=.pointer (some ⟨c.bs,0,none⟩)) (key h39) rfl ?_;refine ah rfl ?_;refine ah (ao (v:=.pointer (some ⟨c.bs,0,none⟩)) hd.here rfl ⟨rfl,rfl⟩) ?_;refine au (cs:=[.int .i64 i,.int .i64 y.2.g]) (h39.get hbd (fun h=>h)) rfl (by omega) ?_;refine ah rfl ?_;refine ah (au (cs:=[.int .i64 i,.int .i64 y.2.g]) hbd rfl (by omega) ⟨rfl,rfl⟩) ?_;refine ab (hget _ h39) ?_;rintro v w44 ⟨e,rfl,hE,h44⟩;have hl39:=aC hb39;refine ak rfl ?_;refine aQ (vs:=(⟨0,0,0,0,0,0⟩:Part).cells) (h44.get hb39 (fun h=>h)) rfl rfl rfl (by simp[Part.cells]) (by simp[Part.cells]) fun w46 h46 hs46 hb46=>?_;refine ak rfl ?_;have hz44:=h44.size;exact tail _ _ w39.heap.size _ ((h39.trans h44).trans' (h46.mono fun k _ e=>.inr (by omega))) (by omega) (hE.mod h46 fun k h1 h2 e=>by omega)
theorem B5 (hL:cO pr Sa w0) (h7:pr 7) (h17:pr 17) (h:cB c w0 fx w S t B) (x n:Int) :
  af Tryz.prog 173 #[.pointer (some ⟨c.bw,0,none⟩),.int .i64 x,.int .i64 n] w fun v w'=>(∃q e,v=.tuple #[.agg q.cells.toArray,e]∧(ge (bX S B) x n=some q∧e=.nilIface∨ge (bX S B) x n=none∧sX e))∧Same w w':=by
 unfold ge;rw[mP];cases hf:B.l.find? (fun z=>decide (((z.1:Nat):Int)=x))with
 | none =>
  refine(wx hL h17 h hf _).mono ?_;rintro v w' ⟨⟨e,rfl,hE⟩,h'⟩;exact⟨⟨_,e,rfl,.inr ⟨rfl,hE⟩⟩,h'⟩
 | some y =>
  have hym:=List.mem_of_find?_eq_some hf;obtain⟨i,hyi,hg⟩:=h.link.live y hym;show af _ _ _ _ fun v w'=>(∃q e,_∧((partsOf S y.2.i.toNat).find? (dR n)=some q∧_∨(partsOf S y.2.i.toNat).find? (dR n)=none∧_))∧_;cases hq:(partsOf S y.2.i.toNat).find? (dR n)with
  | none =>
   refine(wC hL h7 h hf (n:=n) fun q hq' e=>?_).mono ?_
   ·have:=List.find?_eq_none.1 hq q hq';exact this (decide_eq_true e)
   ·rintro v w' ⟨⟨e,rfl,hE⟩,h'⟩;exact⟨⟨_,e,rfl,.inr ⟨rfl,hE⟩⟩,h'⟩
  | some q =>
   have hqm:=List.mem_of_find?_eq_some hq;have hqc:q.comp=n:=ja hq;obtain⟨o,p,U,C,_⟩:=id h.A;obtain⟨_,_,_,_,_,_,_,_,_,hfit,_⟩:=fE C.sp C.gs hg;obtain⟨m,hm,_⟩:=hfit q (by rw[hyi]at hqm; exact hqm);obtain rfl:n=(m:Int):=by omega
   refine(EJ h hf hqm hm).mono ?_;rintro v w' ⟨rfl,h'⟩;exact⟨⟨_,_,rfl,.inl ⟨rfl,rfl⟩⟩,h'⟩
theorem B6 (hL:cO pr Sa w0) (h1:pr 1) (h7:pr 7) (h17:pr 17) (h:cB c w0 fx w S t B) (x n cell value:Int) :
  af Tryz.prog 132 #[.pointer (some ⟨c.bw,0,none⟩),.int .i64 x,.int .i64 n,.int .i64 cell,.int .i64 value] w fun v w'=>∃S',bX S' B=gf c.L c.frame (bX S B) x n cell value∧S'.gens=S.gens∧cB c w0 fx w' S' t B∧aH (fun k=>w0.heap.size≤k∧¬fx k) w w':=by
 have hwf:=h.wf;have hl:=h.link;unfold gf;rw[mP];cases hf:B.l.find? (fun z=>decide (((z.1:Nat):Int)=x))with
 | none =>
  refine(wA hL h17 h hf _ _ _).mono ?_;intro v w' h';exact⟨S,rfl,rfl,h.loc h',aH.of_same h'⟩
 | some y =>
  have hym:=List.mem_of_find?_eq_some hf;obtain⟨i,hyi,hg⟩:=hl.live y hym;show af _ _ _ _ fun v w'=>∃S',bX S' B=(if ((partsOf S y.2.i.toNat).find? (dR n)).isSome∧0≤cell∧cell<(wdF c.L n.toNat:Int) then ln (bX S B) y.1 (jz (partsOf S y.2.i.toNat) n cell.toNat value c.frame) else bX S B)∧_;rw[hyi,Int.toNat_natCast];have stay:B3 S S:=⟨rfl,rfl,rfl,rfl,rfl⟩
  cases hq:(partsOf S i).find? (dR n)with
  | none =>
   rw[if_neg (fun e=>by simp at e)];refine(nf (Sa:=Sa) h hf hyi (R:=fun S'=>S'=S) (fun S' e=>by subst e; exact stay) fun o p w1 hs0 hsp hG=>?_).mono ?_
   ·obtain⟨nn,r,hsp',hn,hnc⟩:=uf hsp hG hg (c:=n) fun q hq' e=>List.find?_eq_none.1 hq q hq' (decide_eq_true e);refine(Aq (Sa:=Sa) (k:=7) fun w2 m2=>jY (hL.same (hs0.trans m2)) h7 (hsp.same m2) hg hsp' hn hnc).mono ?_;rintro v w' ⟨e,rfl,hE,h'⟩;exact⟨⟨0,0,0,0,0,0⟩,e,rfl,.inr ⟨rfl,⟨7,hE⟩,h'⟩⟩
   ·rintro v w' ⟨S',rfl,hW,hm⟩;exact⟨_,rfl,rfl,hW,hm⟩
  | some q =>
   have hqm:=List.mem_of_find?_eq_some hq;have hqc:q.comp=n:=ja hq;obtain⟨o,p,U,C,_⟩:=id h.A;obtain⟨_,_,_,_,_,_,_,_,hmap,hfit,_⟩:=fE C.sp C.gs hg;obtain⟨m,hm,_⟩:=hfit q hqm;obtain rfl:n=(m:Int):=by omega
   by_cases hc:0≤cell∧cell<(wdF c.L m:Int)
   ·rw[if_pos ⟨rfl,hc⟩];obtain⟨k,rfl⟩:∃k:Nat,cell=(k:Int):=⟨cell.toNat,by omega⟩
    refine(nf (Sa:=Sa) h hf hyi (R:=fun S'=>D4 S S' i m (q.setCell k value c.frame)) (fun S' e=>⟨e.gens,e.cs,e.masks,e.tabs,e.free⟩) fun o p w1 hs0 hsp hG=>?_).mono ?_
    ·refine(Ku hsp hG hg hqm hm (cell:=k) (by rw[h.cs]; omega) value c.frame).mono ?_;rintro v w' ⟨rfl,S',hG',hP,T⟩;obtain⟨j,hj,hjl,_⟩:=hfit q hqm;have hl16:=h.good.len;have hcs:=h.cs;exact⟨q,_,rfl,.inl ⟨rfl,by rw[hj]; rw[hcs]at hjl; unfold bZ; omega,S',hP,hG',T⟩⟩
    ·rintro v w' ⟨S',hP,hW,hm'⟩;refine⟨S',?_,hP.gens,hW,hm'⟩;rw[B4 hl hwf hP hym hyi];congr 1;unfold jz;apply List.map_congr_left;intro z hz;by_cases hzc:z.comp=(m:Int)
     ·rw[if_pos hzc,if_pos hzc];rw[Int.toNat_natCast];have:z=q:=by
       have hnd:((partsOf S i).map (·.comp)).Nodup:=by
        rw[hmap];exact List.Pairwise.map _ (fun a b hab e=>hab (by omega)) (iQ _)
       obtain⟨a,ha,rfl⟩:=List.mem_iff_getElem.1 hz;obtain⟨b,hb,rfl⟩:=List.mem_iff_getElem.1 hqm;have:=(List.getElem_inj (h₀:=by simpa using ha) (h₁:=by simpa using hb) hnd).1 (by rw[List.getElem_map,List.getElem_map,hzc,hqc]);subst this;rfl
      rw[this]
     ·rw[if_neg hzc,if_neg hzc]
   ·rw[if_neg (fun e=>hc e.2)];refine(nf (Sa:=Sa) h hf hyi (R:=fun S'=>S'=S) (fun S' e=>by subst e; exact stay) fun o p w1 hs0 hsp hG=>?_).mono ?_
    ·obtain⟨nn,r,hsp',hn,hcm,hr,_,_⟩:=pu hsp hG hg hqm hm;refine(B2 (hL.same hs0) h1 hsp hg hsp' hn hcm hr (cell:=cell) (by rw[h.cs]; omega) value c.frame).mono ?_;rintro v w' ⟨e,rfl,hE,h'⟩;exact⟨⟨0,0,0,0,0,0⟩,e,rfl,.inr ⟨rfl,⟨1,hE⟩,h'⟩⟩
    ·rintro v w' ⟨S',rfl,hW,hm⟩;exact⟨_,rfl,rfl,hW,hm⟩
end
end
section
abbrev LS:Type:=d8×NB
def SL (cs:List Comp) (og:Bool) (n most:Nat) (frame who:Int):WM LS where
 get s c:=ge s.1 who c
 res s i:=iX s.2.R i
 fr _:=frame
 set s c i v:=(gf cs frame s.1 who c i v,s.2)
 asg s i v:=(s.1,{ s.2 with R:=gO s.2.R i v })
 dr s v:=((s.1,{ s.2 with seed:=(d9 s.2.seed v).1 }),(d9 s.2.seed v).2)
 add s x:=(s.1,cJ og n most s.2 x)
structure HX (c0:WC) (w0:World) (o:OC) (nx:Nat) (X:Nat→Prop) (w:World) (s:LS):Prop where
 pr:∃gn S t B,c9 (c0.tune s.2.R c0.frame s.2.seed gn) w0 o X w S t B s.2.l s.2.gv s.2.dr∧bX S B=s.1∧B.nx=nx
 ap:∀k,X k→¬c0.mine k
 num:di s.2.R
 few:s.2.l.length≤s.2.gv
 ok:nr s.1
 rl:s.2.R.length≤1000
section
variable {pr:Nat→Prop} {Sa:Nat→Addr} {c0:WC} {w0:World} {o:OC} {nx:Nat} {X:Nat→Prop} {w:World}
theorem HX.ap' (h:HX c0 w0 o nx X w s):∀k,cX w w' X k→¬c0.mine k:=by
 obtain⟨gn,S,t,B,⟨⟨fx,U,hW,_⟩,_⟩,_⟩:=h.pr;intro k hk;rcases hk with hk | hk
 ·exact h.ap k hk
 ·intro e;have:=(hW.A.lt (hW.fm k e)).2;omega
theorem rx (R:List Int) (i n:Int):(gO R i n).length=R.length:=by
 unfold gO;split
 ·rfl
 ·rw[List.length_set]
theorem pS:(cJ og n most s x).R=s.R∧(cJ og n most s x).seed=s.seed:=by
 unfold cJ;split
 ·split
  ·split
   ·exact⟨rfl,rfl⟩
   ·exact⟨rfl,rfl⟩
  ·exact⟨rfl,rfl⟩
 ·exact⟨rfl,rfl⟩
theorem uF (hL:cO pr Sa w0) (h1:pr 1) (h2:pr 2) (h6:pr 6) (og:Bool) {c:WC} {S:SM} {t:Nat} {B:BdM} {s:NB} (hP:c9 c w0 o X w S t B s.l s.gv s.dr) (hmo:o.most≤1000000) (hfew:s.l.length≤s.gv) {x:OrdM} (hx:x.ok) (hc:s.dr+s.gv≤5000) :
  af Tryz.prog 134 #[.pointer (if og=true then some ⟨o.bo,0,none⟩ else none),x.val] w fun v w'=>(c9 c w0 o X w' S t B (cJ og o.L.length o.most s x).l (cJ og o.L.length o.most s x).gv (cJ og o.L.length o.most s x).dr∧(cJ og o.L.length o.most s x).l.length≤(cJ og o.L.length o.most s x).gv)∧aH (fun k=>w0.heap.size≤k∧¬X k) w w':=by
 unfold cJ;by_cases ho:og=true
 ·rw[if_pos ho,if_pos ho];by_cases hfit:x.fit o.L.length
  ·rw[if_pos hfit];by_cases hf:o.most≤s.gv
   ·rw[if_pos hf];refine(wg hL h6 hP x hx hfit hf (by omega)).mono ?_;rintro v w' ⟨_,hP',hm⟩;exact⟨⟨hP'.less fun k hk=>.inl hk,hfew⟩,hm⟩
   ·rw[if_neg hf];refine(EI hP x hx hfit (by omega) hmo (by omega)).mono ?_;rintro v w' ⟨_,hP',hm⟩;exact⟨⟨hP',by show(s.l++[x]).length≤s.gv+1; rw[List.length_append,List.length_singleton]; omega⟩,hm⟩
  ·rw[if_neg hfit];refine(A6 hL h1 hP x hx hfit).mono ?_;rintro v w' ⟨_,hm⟩;exact⟨⟨hP.loc hm,hfew⟩,aH.of_same hm⟩
 ·rw[if_neg ho,if_neg ho];refine(rr (hL.same hP.same0) h2 x).mono ?_;rintro v w' ⟨_,hm⟩;exact⟨⟨hP.loc hm,hfew⟩,aH.of_same hm⟩
theorem kb (og:Bool) (n most:Nat) (s:NB) (x:OrdM):cI (cJ og n most s x)≤cI s+1:=by
 unfold cJ cI;split
 ·split
  ·split
   ·show s.dr+1+s.gv≤_; omega
   ·show s.dr+(s.gv+1)≤_; omega
  ·omega
 ·omega
theorem uG (h:nr V) {x c:Int} {q:Part} (hq:ge V x c=some q):q.ok:=by
 unfold ge at hq;obtain⟨y,hy,hq⟩:=Option.bind_eq_some_iff.1 hq;exact h y (fS hy).1 q (List.mem_of_find?_eq_some hq)
theorem E5 (hL:cO pr Sa w0) (h1:pr 1) (h2:pr 2) (h6:pr 6) (h7:pr 7) (h17:pr 17) (og:Bool) {i0 i1 who:Int} (hi0:bZ i0) (hi1:bZ i1) (hwho:bZ who) (hmo:o.most≤1000000) (hfr:bZ c0.frame) :
  WI (SL c0.L og o.L.length o.most c0.frame who) (SK c0 o og i0 i1 who) w0 (fun s:LS=>cI s.2) (HX c0 w0 o nx) where
 base h:=by obtain⟨gn,S,t,B,hP,_⟩:=h.pr; exact hP.same0
 lt h:=by obtain⟨gn,S,t,B,hP,_⟩:=h.pr; exact fun k hk=>hP.lt hk
 loc h m:=by obtain⟨gn,S,t,B,hP,h2⟩:=h.pr; exact⟨⟨gn,S,t,B,hP.loc m,h2⟩,h.ap,h.num,h.few,h.ok,h.rl⟩
 less h hs:=by obtain⟨gn,S,t,B,hP,h2⟩:=h.pr; exact⟨⟨gn,S,t,B,hP.less hs,h2⟩,fun k hk=>h.ap k (hs k hk),h.num,h.few,h.ok,h.rl⟩
 grow h m hf:=by
  obtain⟨gn,S,t,B,hP,h2⟩:=id h.pr;exact⟨⟨gn,S,t,B,hP.grow m fun k hk=>⟨hf k hk,h.ap k (hf k hk)⟩,h2⟩,h.ap',h.num,h.few,h.ok,h.rl⟩
 get {X w s} c h hc:=by
  obtain⟨gn,S,t,B,⟨⟨fx,U,hW,_⟩,_⟩,hv,_⟩:=h.pr;show af _ _ _ _ fun v w'=>(∃q e,_∧(ge s.1 who c=some q∧_∨ge s.1 who c=none∧_))∧_;rw[←hv];exact B5 hL h7 h17 hW who c
 res i h:=by
  obtain⟨gn,S,t,B,⟨⟨fx,U,hW,_⟩,_⟩,_⟩:=h.pr;refine(wv hW i).mono ?_;rintro v w' ⟨rfl,rfl⟩;exact⟨⟨_,rfl⟩,aH.refl _ _⟩
 fr h:=by
  obtain⟨gn,S,t,B,⟨⟨fx,U,hW,_⟩,_⟩,_⟩:=h.pr;refine(Lf hW.here).mono ?_;rintro v w' ⟨rfl,rfl⟩;exact⟨rfl,aH.refl _ _⟩
 set {X w s} c i n h hc _ hn:=by
  obtain⟨gn,S,t,B,⟨⟨fx,U,hW,hO,hU,hX⟩,h0⟩,hv,hnx⟩:=h.pr;refine(B6 hL h1 h7 h17 hW who c i n).mono ?_;rintro v w' ⟨S',hv',hg,hW',hm⟩;obtain⟨hP,hm⟩:=c9.act h0 hO hU hX hW' hm;exact⟨⟨⟨gn,S',t,B,hP,by rw[hv',hv]; rfl,hnx⟩,h.ap,h.num,h.few,uE h.ok _ _ _ hn hfr,h.rl⟩,hm⟩
 asg {X w s} i n h _ hn:=by
  obtain⟨gn,S,t,B,⟨⟨fx,U,hW,hO,hU,hX⟩,h0⟩,h2⟩:=h.pr;refine(EU hL h7 hW i n).mono ?_;rintro v w' ⟨gn',hW',hm⟩;obtain⟨hP,hm⟩:=c9.tune (c:=c0.tune s.2.R c0.frame s.2.seed gn) (c':=c0.tune (gO s.2.R i n) c0.frame s.2.seed gn') h0 hO hU hX h.ap rfl hW' hm;exact⟨⟨⟨gn',S,t,B,hP,h2⟩,h.ap,Bl h.num i hn,h.few,h.ok,by show(gO s.2.R i n).length≤1000; rw[rx]; exact h.rl⟩,hm⟩
 dr {X w s} n h _ hn:=by
  obtain⟨gn,S,t,B,⟨⟨fx,U,hW,hO,hU,hX⟩,h0⟩,h2⟩:=h.pr;refine(O2 hW n hn).mono ?_;rintro v w' ⟨rfl,hW',hm⟩;obtain⟨hP,hm⟩:=c9.tune (c:=c0.tune s.2.R c0.frame s.2.seed gn) (c':=c0.tune s.2.R c0.frame (d9 s.2.seed n).1 gn) h0 hO hU hX h.ap rfl hW' hm;exact⟨⟨_,rfl⟩,⟨⟨_,S,t,B,hP,h2⟩,h.ap,h.num,h.few,h.ok,h.rl⟩,hm⟩
 add {X w s} x h hx hc:=by
  obtain⟨gn,S,t,B,hP,h3⟩:=h.pr;obtain⟨e1,e2⟩:=pS (og:=og) (n:=o.L.length) (most:=o.most) (s:=s.2) (x:=x);refine(uF hL h1 h2 h6 og hP hmo h.few hx hc).mono ?_;rintro v w' ⟨⟨hP',hf⟩,hm⟩;exact⟨⟨⟨gn,S,t,B,by show c9 (c0.tune (cJ og o.L.length o.most s.2 x).R c0.frame (cJ og o.L.length o.most s.2 x).seed gn) _ _ _ _ _ _ _ _ _ _; rw[e1,e2]; exact hP',h3⟩,h.ap,by show di (cJ og o.L.length o.most s.2 x).R; rw[e1]; exact h.num,hf,h.ok,by show(cJ og o.L.length o.most s.2 x).R.length≤1000; rw[e1]; exact h.rl⟩,hm⟩
 get64 h hq:=uG h.ok hq
 res64 {X w s i v} h hv:=by
  have hv:iX s.2.R i=some v:=hv;unfold iX at hv;split at hv
  ·cases hv
  ·exact h.num v (List.mem_of_getElem? hv)
 fr64 _:=hfr
 dr64 s n:=ux _ _
 in64:=⟨hi0,hi1,hwho⟩
 cset s c i n:=Nat.le_succ _
 casg s i n:=Nat.le_succ _
 cdr s n:=Nat.le_succ _
 cadd s x:=kb _ _ _ _ _
end
end
section
attribute [local irreducible] kO kB bG bH kN kG aA ai aw aB bj knew bB aP ay aE bk aD aU bC bD a8 kbool kint kstr keq kun ksl bz cQ kta kmk kmm ksem ksemU bd aI aL ae kL
section
variable {pr:Nat→Prop} {Sa:Nat→Addr} {w:World}
theorem oy (hL:cO pr Sa w) (h2':pr 2) (x:Value):af Tryz.prog 97 #[.pointer none,x] w fun v w'=>(∃e,v=.tuple #[entV 0 0,e]∧cC Sa 2 w.heap.size e w')∧Same w w':=by
 refine sU ?_;unfold Qh;refine ar fun w2 h2 hs2 hb2=>?_;rw[aJ fK];refine ac ?_;refine aN rfl ?_;refine aW (cs:=[.int .i64 0,.int .i64 0]) rfl ?_;refine dD (hL.same h2) h2' rfl rfl ?_;refine ab (jx (cC.sent Sa 2 w2.heap.size w2) (Nat.le_refl _)) ?_;rintro v w8 ⟨hE,h8⟩;refine aQ (vs:=[.int .i64 0,.int .i64 0]) (h8.get hb2 (fun h=>h)) rfl rfl rfl (by simp) (by simp) fun w9 h9 hs9 hb9=>?_;have hb9:aX w9 w.heap.size=some (.cells #[.int .i64 0,.int .i64 0] 157):=hb9;refine au hb9 rfl (by omega) ?_;have hz:=aC hb2;exact⟨⟨_,rfl,(hE.mod h9 fun k h1 h2 e=>by omega).mono h2.size⟩,(h2.trans h8).trans' (h9.mono fun k _ e=>.inr (by omega))⟩
theorem ry (w:World) (i:Value):af Tryz.prog 129 #[.pointer none,i] w fun v w'=>v=.tuple #[nV 0,.bool false]∧w'=w:=by
 refine ul ?_;unfold K5;rw[aJ fK];refine ac ?_;refine aN rfl ?_;exact⟨rfl,rfl⟩
theorem B7 (w:World):af Tryz.prog 130 #[.pointer none] w fun v w'=>v=nV 0∧w'=w:=by
 refine ug ?_;unfold K0;rw[aJ fK];refine ac ?_;refine aN rfl ?_;exact⟨rfl,rfl⟩
theorem E6 (hL:cO pr Sa w) (h2:pr 2) (n:Value):af Tryz.prog 131 #[.pointer none,n] w fun v w'=>(∃e,v=.tuple #[nV 0,e])∧Same w w':=by
 refine uk ?_;unfold K3;rw[aJ fK];refine ac ?_;refine aN rfl ?_;refine dD hL h2 rfl rfl ?_;refine ab (jx (cC.sent Sa 2 w.heap.size w) (Nat.le_refl _)) ?_;rintro v w5 ⟨hE,h5⟩;exact⟨⟨_,rfl⟩,h5⟩
theorem wD (hL:cO pr Sa w) (h2:pr 2) (i n:Value):af Tryz.prog 133 #[.pointer none,i,n] w fun v w'=>Same w w':=by
 refine uj ?_;unfold K2;rw[aJ fK];refine ac ?_;refine aN rfl ?_;refine dD hL h2 rfl rfl ?_;refine ab (jx (cC.sent Sa 2 w.heap.size w) (Nat.le_refl _)) ?_;rintro v w5 ⟨hE,h5⟩;exact h5
end
def So (og:Bool) (n most:Nat):WM NB where
 get _ _:=none
 res _ _:=none
 fr _:=0
 set s _ _ _:=s
 asg s _ _:=s
 dr s _:=(s,0)
 add:=cJ og n most
structure SN (c:WC) (w0:World) (o:OC) (S:SM) (t:Nat) (B:BdM) (X:Nat→Prop) (w:World) (s:NB):Prop where
 pr:c9 c w0 o X w S t B s.l s.gv s.dr
 ap:∀k,X k→¬c.mine k
 few:s.l.length≤s.gv
def SO (o:OC) (og:Bool) (i0 i1 who:Int):HC:=⟨none,if og=true then some ⟨o.bo,0,none⟩ else none,i0,i1,who⟩
theorem E7 {pr:Nat→Prop} (hL:cO pr Sa w0) (h1:pr 1) (h2:pr 2) (h6:pr 6) {o:OC} {S:SM} {t:Nat} {B:BdM} (og:Bool) {i0 i1 who:Int} (hi0:bZ i0) (hi1:bZ i1) (hwho:bZ who) (hmo:o.most≤1000000) :
  WI (So og o.L.length o.most) (SO o og i0 i1 who) w0 cI (SN c w0 o S t B) where
 base h:=h.pr.same0
 lt h:=fun k hk=>h.pr.lt hk
 loc h m:=⟨h.pr.loc m,h.ap,h.few⟩
 less h hs:=⟨h.pr.less hs,fun k hk=>h.ap k (hs k hk),h.few⟩
 grow h m hf:=by
  have hP:=h.pr;obtain⟨⟨fx,U,hW,_⟩,_⟩:=id hP;refine⟨hP.grow m fun k hk=>⟨hf k hk,h.ap k (hf k hk)⟩,fun k hk=>?_,h.few⟩;rcases hk with hk | hk
  ·exact h.ap k hk
  ·intro e;have:=(hW.A.lt (hW.fm k e)).2;omega
 get {X w s} c h hc:=by
  refine(ow (Sa:=Sa) (k:=2) fun w2 m=>oy (hL.same (h.pr.same0.trans m)) h2 _).mono ?_;rintro v w' ⟨⟨e,rfl,hE⟩,h'⟩;exact⟨⟨_,e,rfl,.inr ⟨rfl,hE⟩⟩,h'⟩
 res i h:=by
  refine(ry _ _).mono ?_;rintro v w' ⟨rfl,rfl⟩;exact⟨⟨_,rfl⟩,aH.refl _ _⟩
 fr h:=by
  refine(B7 _).mono ?_;rintro v w' ⟨rfl,rfl⟩;exact⟨rfl,aH.refl _ _⟩
 set {X w s} c i n h hc _ _:=by
  refine(ox (Sa:=Sa) (k:=2) (oy (hL.same h.pr.same0) h2 _)).mono ?_;intro v w' h';exact⟨⟨h.pr.loc h',h.ap,h.few⟩,aH.of_same h'⟩
 asg {X w s} i n h _ _:=by
  refine(wD (hL.same h.pr.same0) h2 _ _).mono ?_;intro v w' h';exact⟨⟨h.pr.loc h',h.ap,h.few⟩,aH.of_same h'⟩
 dr {X w s} n h _ _:=by
  refine(E6 (hL.same h.pr.same0) h2 _).mono ?_;rintro v w' ⟨⟨e,rfl⟩,h'⟩;exact⟨⟨e,rfl⟩,⟨h.pr.loc h',h.ap,h.few⟩,aH.of_same h'⟩
 add {X w s} x h hx hc:=by
  refine(uF hL h1 h2 h6 og h.pr hmo h.few hx hc).mono ?_;rintro v w' ⟨⟨hP,hf⟩,hm⟩;exact⟨⟨hP,h.ap,hf⟩,hm⟩
 get64 h hq:=by cases hq
 res64 h hv:=by cases hv
 fr64 _:=eE
 dr64 s n:=eE
 in64:=⟨hi0,hi1,hwho⟩
 cset s c i n:=Nat.le_succ _
 casg s i n:=Nat.le_succ _
 cdr s n:=Nat.le_succ _
 cadd s x:=kb _ _ _ _ _
end
section
attribute [local irreducible] kO kB bG bH kN kG aA ai aw aB bj knew bB aP ay aE bk aD aU bC bD a8 kbool kint kstr keq kun ksl bz cQ kta kmk kmm ksem ksemU bd aI aL ae kL
section
variable {L:List Comp} {w:World} {a:Option Addr} {cp:Nat} {ra:Option Addr} {R:List ResM} {rc:Nat}
end
theorem LK:appT Tryz.prog 67 7 64=true:=by kernel_rfl
theorem wE:∃e,Tryz.prog.underlying 67=some (.slice e):=dI (by kernel_rfl)
structure Ps (lo:Nat) (w:World) (v:Value):Prop where
 ex:∃a cp ra rc,v=gr a plainC.length cp (.slice ra plainR.length rc)∧aZ w a plainC.length 7 (plainC.flatMap Comp.cells)∧aZ w ra plainR.length 2 (plainR.flatMap ResM.cells)∧∀k f,a=some ⟨k,f,none⟩→lo≤k
theorem il (w:World):af Tryz.prog 30 #[] w fun v w'=>Ps w.heap.size w' v∧Same w w':=by
 have hp2:plainR.length=2:=rfl;refine LH ?_;unfold Sn;refine ar fun w2 h2 hs2 hb2=>?_;refine aW (cs:=(⟨⟨#[115]⟩,5⟩:ResM).cells) rfl ?_;refine aW (cs:=(⟨⟨#[116]⟩,0⟩:ResM).cells) rfl ?_;refine aR (cs:=plainR.flatMap ResM.cells) rfl fun w6 h6 hs6 hb6=>?_;refine aW (cs:=[.slice none 0 0,.slice (some ⟨w2.heap.size,0,none⟩) 2 2]) rfl ?_;refine ar fun w9 h9 hs9 hb9=>?_;refine aQ (vs:=[.slice none 0 0,.slice (some ⟨w2.heap.size,0,none⟩) 2 2]) hb9 rfl rfl rfl (by simp) (by simp) fun w10 h10 hs10 hb10=>?_;have hb10:aX w10 w6.heap.size=some (.cells #[.slice none 0 0,.slice (some ⟨w2.heap.size,0,none⟩) 2 2] 70):=hb10;have m10:Same w6 w10:=h9.trans' (h10.mono fun k _ e=>.inr (by omega));have mw:=(h2.trans h6).trans m10;have hr10:aZ w10 (some ⟨w2.heap.size,0,none⟩) plainR.length 2 (plainR.flatMap ResM.cells):=(aZ.blk hb6 rfl).same m10;have hb210:=(h6.trans m10).get hb2 (fun h=>h);have hz2:=h2.size;have hz6:=h6.size;have hz10:=m10.size;have hl2:=aC hb2;have hl6:=aC hb6;have hl10:=aC hb10;clear h9 hb9 h10 hs10;refine cA 4 (fun j x wr=>x=.int .i64 j∧∃va,aX wr w6.heap.size=some (.cells #[va,.slice (some ⟨w2.heap.size,0,none⟩) 2 2] 70)∧bV wr va 7 ((plainC.take j).flatMap Comp.cells)∧(∀k,bf va k→w10.heap.size≤k)∧aH (fun k=>k=w6.heap.size) w10 wr) ⟨c8 ⟨rfl,_,hb10,bV.nil _ _,(fun k hk=>absurd hk (Ll k)),aH.refl _ _⟩,fun x wr hx=>?_⟩;obtain⟨j,hj,⟨rfl,va,hbv,hO,hva,hm⟩,hJ⟩:=bK hx;have hzr:=hm.size;unfold HW;refine aM ?_;refine ac ?_;refine am (fun hlt=>?_) (fun hge=>?_)
 ·have hlt:j<4:=by omega
  have hpl:plainC.length=4:=rfl;have htk:(plainC.take (j+1)).flatMap Comp.cells=(plainC.take j).flatMap Comp.cells++(plainQ j).cells:=by
   rw[List.take_succ_eq_append_getElem (by omega),List.flatMap_append];congr 1;rw[List.flatMap_singleton];congr 1;unfold plainC;rw[List.getElem_map,List.getElem_range]
  have hlen:((plainC.take j).flatMap Comp.cells).length=j*7:=by
   rw[flat_len Comp.cells 7 (fun _=>rfl),List.length_take];rw[Nat.min_eq_left (by omega)]
  unfold HU;have md:Same wr wr.drew:=(aH.refl (fun _=>False) _).drew;have hbd:=md.get hbv (fun h=>h);have hOd:=hO.same md;have hmd:=hm.trans (aH.of_same md);have hzd:=md.size;generalize wr.drew=wd at *;refine aa ?_;refine ao (v:=va) hbd rfl ?_;refine ah rfl ?_;refine aY (by omega) (by omega) ?_;rw[g9 rfl rfl];refine ah ?_ ?_
  ·simp only[loV_int,hiV_int];exact⟨by omega,by omega,by show(j:Int)+1≤4; omega⟩
  simp only[loV_int,hiV_int];rw[show((j:Int)).toNat=j from Int.toNat_natCast j,show((j:Int)+1).toNat=j+1 by omega,wB j hlt];refine aY (by omega) (by omega) ?_;refine aM ?_;refine aW (cs:=[.int .i64 j,.int .i64 0,.int .i64 0,.int .i64 0]) rfl ?_;have hq:(plainQ j).cells=[.string ⟨#[UInt8.ofNat (97+j)]⟩,.int .i64 (1+(j:Int)),.bool (decide ((j:Int)<3)),.int .i64 j,.int .i64 0,.int .i64 0,.int .i64 0]:=by
   have e1:((1+j:Nat):Int)=1+(j:Int):=by omega
   have e2:decide (j<3)=decide ((j:Int)<3):=by
    by_cases h:j<3
    ·rw[decide_eq_true h,decide_eq_true (by omega)]
    ·rw[decide_eq_false h,decide_eq_false (by omega)]
   show[Value.string ⟨#[UInt8.ofNat (97+j)]⟩,.int .i64 ((1+j:Nat):Int),.bool (decide (j<3)),.int .i64 j,.int .i64 0,.int .i64 0,.int .i64 0]=_;rw[e1,e2]
  refine aW (cs:=(plainQ j).cells) (by rw[hq]; rfl) ?_;refine aR (cs:=(plainQ j).cells) rfl fun w21 h21 hs21 hb21=>?_;have hbd21:=h21.get hbd (fun h=>h);refine ah (ao (v:=va) hbd21 rfl ⟨rfl,rfl⟩) ?_;refine be LK (by omega) (hOd.same h21) (Src.ofSlIs (hk:=wE.choose_spec) 1 (aZ.blk hb21 rfl) rfl) (by rw[hlen]; show j*7+7≤_; omega) (by rw[hlen]; show _; simp[Comp.cells]; omega) ?_;intro v' w23 ho23 hm23 hf23;have hb23:=hm23.get hbd21 (fun hk=>by have:=hva _ hk; omega);have hv':∀k,bf v' k→w10.heap.size≤k:=fun k hk=>by
   rcases hf23 k hk with h | h
   ·exact hva k h
   ·have:=h21.size; omega
  obtain⟨a',n',c',rfl,_,_⟩:=ho23.is;refine aa ?_;refine bJ hb23 rfl rfl (by show 0<2; omega) fun w25 h25 hs25 hb25=>?_;have hb25:aX w25 w6.heap.size=some (.cells #[.slice a' n' c',.slice (some ⟨w2.heap.size,0,none⟩) 2 2] 70):=hb25;unfold HT;refine aY (by omega) (by omega) ?_;rw[a7];refine hJ _ _ hlt ⟨rfl,.slice a' n' c',hb25,?_,hv',?_⟩
  ·rw[htk];exact ho23.mod h25 fun k hk e=>by have:=hv' k hk; omega
  ·exact(hmd.trans (aH.of_same h21)).trans' ((hm23.mono fun k _ e=>.inr (hva k e)).trans (h25.mono fun k _ e=>.inl e))
 ·have hj4:j=4:=by omega
  subst hj4;obtain⟨a',n',c',rfl,hsl,_⟩:=hO.is;have hn':n'=plainC.length:=by
   have:=hsl.1;rw[flat_len Comp.cells 7 (fun _=>rfl)]at this;have:(plainC.take 4).length=4:=rfl;have:plainC.length=4:=rfl;omega
  subst hn';unfold HV;refine au hbv rfl (by omega) ?_;refine aQ (vs:=[.slice a' plainC.length c',.slice (some ⟨w2.heap.size,0,none⟩) 2 2]) (hm.get hb210 (by omega)) rfl rfl rfl (by simp) (by simp) fun w29 h29 hs29 hb29=>?_;have hb29:aX w29 w.heap.size=some (.cells #[.slice a' plainC.length c',.slice (some ⟨w2.heap.size,0,none⟩) 2 2] 70):=hb29;refine au hb29 rfl (by omega) ?_;have hla:∀k f,a'=some ⟨k,f,none⟩→w10.heap.size≤k:=fun k f e=>hva k ⟨f,_,_,by rw[e]⟩;refine⟨⟨a',c',_,_,rfl,hsl.mod h29 (fun k f e hk=>by have:=hla k f e; omega),(hr10.mod hm (fun k f e hk=>by cases e; omega)).mod h29 (fun k f e hk=>by cases e; omega),fun k f e=>by have:=hla k f e; omega⟩,?_⟩;exact mw.trans' ((hm.mono fun k _ e=>.inr (by omega)).trans (h29.mono fun k _ e=>.inr (by omega)))
end
section
def partM (i c:Nat):Part:=⟨(c:Int),((10*i+c:Nat):Int),0,0,0,0⟩
def partsM (i m j:Nat):List Part:=((List.range j).filter fun c=>decide (m/2^c%2=1)).map (partM i)
def fb (M:List Nat) (n:Nat):d8:=(List.range n).map fun i=>(i+1,partsM i (M.getD i 0) 4)
theorem k9 (i m j:Nat):partsM i m (j+1)=if m/2^j%2=1 then partsM i m j++[partM i j] else partsM i m j:=by
 unfold partsM;rw[List.range_succ,List.filter_append,List.map_append];by_cases h:m/2^j%2=1
 ·rw[if_pos h,List.filter_cons_of_pos (by simpa using h)]; rfl
 ·rw[if_neg h,List.filter_cons_of_neg (by simpa using h)]; simp
theorem laidV_succ (M:List Nat) (n:Nat):fb M (n+1)=fb M n++[(n+1,partsM n (M.getD n 0) 4)]:=by
 unfold fb;rw[List.range_succ,List.map_append]; rfl
theorem kF (M:List Nat) (n:Nat):(fb M n).length=n:=by unfold fb; rw[List.length_map,List.length_range]
theorem ng (h:q∈partsM i m j):∃c,c<j∧q=partM i c:=by
 obtain⟨c,hc,rfl⟩:=List.mem_map.1 h;exact⟨c,by simpa using (List.mem_filter.1 hc).1,rfl⟩
theorem jA (i m j:Nat):(partsM i m j).length≤j:=by
 unfold partsM;rw[List.length_map];exact Nat.le_trans (List.length_filter_le _ _) (by simp)
theorem gx:∀q∈partsM i m 4,d7 plainC q:=by
 intro q hq;obtain⟨c,hc,rfl⟩:=ng hq;refine⟨c,rfl,hc,?_⟩;have h:c=0∨c=1∨c=2∨c=3:=by omega
 rcases h with rfl | rfl | rfl | rfl<;>intro x hx<;>simp[Part.vals,partM,wdF,plainC,plainQ]at hx<;>first | exact hx | simp_all
theorem pT (i m j:Nat):(partsM i m j).map (·.comp)=((List.range j).filter fun c=>decide (m/2^c%2=1)).map fun c:Nat=>(c:Int):=by
 unfold partsM;rw[List.map_map]; rfl
theorem kH (j:Nat):(List.range j).Pairwise (·<·):=by
 rw[List.pairwise_iff_getElem];intro a b ha hb hab;rw[List.getElem_range,List.getElem_range]; exact hab
theorem rz (i m j:Nat):fa (partsM i m j):=by
 unfold fa;rw[pT];refine List.pairwise_map.2 (List.Pairwise.imp ?_ ((kH j).filter _));intro a b hab e;omega
theorem rA (i m j:Nat):oe (partsM i m j):=by
 unfold oe partsM;refine List.pairwise_map.2 (List.Pairwise.imp ?_ ((kH j).filter _));intro a b hab;show(a:Int)≤(b:Int);omega
theorem wF (hi:i≤1000000) (hj:j≤4):∀q∈partsM i m j,q.ok:=by
 intro q hq;obtain⟨c,hc,rfl⟩:=ng hq;unfold Part.ok partM bZ;simp;omega
theorem B8 (M:List Nat) {n:Nat} (hn:n≤1000000):nr (fb M n):=by
 intro y hy q hq;obtain⟨i,hi,rfl⟩:=List.mem_map.1 hy;have hi:i<n:=by simpa using hi
 exact wF (by omega) (by omega) q hq
section
variable {c:WC} {w0:World} {o:OC} {X:Nat→Prop} {w w':World} {S:SM} {t:Nat} {B:BdM} {l:List OrdM} {gv dr:Nat}
theorem Pt (h:c9 c w0 o X w S t B l gv dr) (hap:∀k,X k→¬c.mine k) (hf:0≤c.frame) (hlt:c.frame<1073741824) :
  af Tryz.prog 34 #[.pointer (some ⟨c.bw,0,none⟩)] w fun v w'=>v=.nilIface∧c9 (c.tune c.R (c.frame+1) c.seed c.gn) w0 o X w' S t B l gv dr∧aH (fun k=>w0.heap.size≤k∧¬X k) w w':=by
 obtain⟨⟨fx,U,hW,hO,hU,hX⟩,h0⟩:=h;refine(O3 hW hf hlt).mono ?_;rintro v w' ⟨rfl,hW',hm⟩;exact⟨rfl,c9.tune (c:=c) h0 hO hU hX hap rfl hW' hm⟩
theorem LL {pr:Nat→Prop} (hL:cO pr Sa w0) (h6:pr 6) (hD:fM w0) (h:c9 c w0 o X w S t B l gv dr) (ht:t≤10000) (hnx:B.nx≤1000000)
  {P:List Part} {a:Option Addr} {cp:Nat} (hs:aZ w a P.length 6 (P.flatMap Part.cells)) (hfa:∀k f,a=some ⟨k,f,none⟩→X k) (hn:P.length≤64) (hf:∀q∈P,d7 c.L q) (hnt:fa P) (hso:oe P) (hlt:(bX S B).length<S.gens.length) :
  af Tryz.prog 36 #[.pointer (some ⟨c.bw,0,none⟩),.slice a P.length cp] w fun v w'=>v=.tuple #[natV B.nx,.nilIface]∧∃S' B',bX S' B'=bX S B++[(B.nx,P)]∧B'.nx=B.nx+1∧S'.gens.length=S.gens.length∧c9 c w0 o X w' S' (t+1) B' l gv dr∧aH (fun k=>w0.heap.size≤k∧¬X k) w w':=by
 obtain⟨⟨fx,U,hW,hO,hU,hX⟩,h0⟩:=h;refine(vW hL h6 hD hW ht hnx hs (fun k f e=>hX k (hfa k f e)) hn hf hnt hso hlt).mono ?_;rintro v w' ⟨rfl,S',B',hW',hg,hm,hv,hn⟩;exact⟨rfl,S',B',hv,hn,hg,c9.act h0 hO hU hX hW' hm⟩
end
def kI (a:Option Addr) (n cp:Nat) (i0 i1 who seed:Int) (wd og:Bool):List Value:=[.slice a n cp,.int .i64 i0,.int .i64 i1,.int .i64 who,.int .i64 seed,.bool wd,.bool og]
section
variable {w:World} {c:WC} {o:OC} {bh bv n m:Nat} {lay host:Array Value} {V:d8} {X:Nat→Prop} {ww wr:World}
end
end
section
attribute [local irreducible] kO kB bG bH kN kG aA ai aw aB bj knew bB aP ay aE bk aD aU bC bD a8 kbool kint kstr keq kun ksl bz cQ kta kmk kmm ksem ksemU bd aI aL ae kL
theorem LM {K:Value→Prop} (h1: -9223372036854775808≤a*b) (h2:a*b≤9223372036854775807) (h:K (.int .i64 (a*b))):kint .i64 .mul (.int .i64 a) (.int .i64 b) K:=by
 rw[dL,dV h1 h2]; exact h
section
variable {w:World} {c:WC} {o:OC} {bh bv:Nat} {X:Nat→Prop} {ww wr:World}
end
end
section
attribute [local irreducible] kO kB bG bH kN kG aA ai aw aB bj knew bB aP ay aE bk aD aU bC bD a8 kbool kint kstr keq kun ksl bz cQ kta kmk kmm ksem ksemU bd aI aL ae kL
def ip (c:WC) (o:OC) (wd og:Bool) (i0 i1 who:Int):HC:=⟨if wd=true then some ⟨c.bw,0,none⟩ else none,if og=true then some ⟨o.bo,0,none⟩ else none,i0,i1,who⟩
section
variable {w:World} {c:WC} {o:OC} {bh:Nat} {X:Nat→Prop} {ww wr:World}
theorem Pu (hP:c9 c w o X ww S t B l gv dr) (hap:∀k,X k→¬c.mine k) (hx:X bh) (m:aH (fun k=>k=bh) ww wr):c9 c w o (cX ww wr X) wr S t B l gv dr∧∀k,cX ww wr X k→¬c.mine k:=by
 refine⟨hP.grow m fun k hk=>by subst hk; exact⟨hx,hap _ hx⟩,fun k hk=>?_⟩;rcases hk with hk | hk
 ·exact hap k hk
 ·intro e;obtain⟨⟨fx,U,hW,_⟩,_⟩:=hP;have:=(hW.A.lt (hW.fm k e)).2;omega
end
end
section
def fY (M:List Nat) (seed:Int):LS:=(fb M (min M.length 20),⟨[5,0],seed,[],0,0⟩)
section
variable {w w':World} {M:List Nat} {i0 i1 who seed:Int} {wd og:Bool} {many bh:Nat} {c:WC} {o:OC} {X:Nat→Prop}
end
end
end Go.Proofs.YtcmijampbjcbgaaGreatDoor
