/- Proved here: laws.FnEngineSteps returns true at every input (the tied card), no condition beyond the card. -/
import Derived.Test.YtooajghcoijkaaaGreatDoorQa
set_option linter.unusedVariables false
set_option linter.unusedSimpArgs false
set_option linter.unusedSectionVars false
set_option linter.defProp false
set_option maxRecDepth 100000
namespace Go.Fx.R5
open Go Go.Fx
section
variable {t:zo} {fn:ab} {ns:List eu} {P:Int} {Is Rs:XS} {B:Int}
theorem abg(ht:iQ t){i:Nat}{x:eu}(hx:ns[i]? = some x)(hn:oo ns i x)(fG:jC ns)(Kx:x.1=12)(IH:Js t fn ns P Is Rs B i x.2.2.2.2):NB t fn ns P Is Rs B i:=by
 intro l hli;have jK:=WD (fn:=fn) ht (l:=l) (by omega) hx
 have lw:=Hh (fn:=fn) ht l x;have dz:=hn.shp;rw[Kx] at dz;obtain⟨u,r,hK⟩:∃ u r,x.2.2.2.2=u::r:=by
  cases h:x.2.2.2.2 with
  |nil=>rw[h] at dz;simp[cm] at dz
  |cons u r=>exact⟨u,r,rfl⟩
 have hu:x.2.2.2.2[0]? = some u:=by rw[hK];rfl
 have Ly:kd ns u=23:=by
  rw[hK] at dz;cases r with
  |nil=>simp[cm] at dz
  |cons v r=>cases r with
   |nil=>simp[cm] at dz;exact dz.1
   |cons w r=>simp[cm] at dz
 obtain⟨y,e1,e2,e3,e4,e5⟩:=Hm IH.v hu;have e1:bL x.2.2.2.2 0=some u:=e1;rw[e4] at Ly;have hyk:y.2.2.2.2=[]:=by have:=(fG _ _ e3).shp;rw[Ly] at this;simpa[cm] using this
 simp only[Kx,show ¬ (12:Int)=9 by decide,aka] at lw
 generalize oY t fn l x=c0 at jK lw;have Aq:=IH.l;have t6:0<x.2.2.2.2.length:=by rw[hK];simp
 have hM:=EW (fn:=fn) ht y.2.2.2.1 1;have g16:((12:Int)==16)=false:=rfl;by_cases h0:c0=0
 rotate_left
 ·refine⟨c0,x.2.1,fun hz=>absurd hz h0,Ev.succ ((jK.and (lw.and ((WF (fn:=fn) h0 ht y.2.2.2.1 y.2.1 1 1 (p:=x.2.1)).and (⟨5002,fun k hk=>hk⟩:Ev fun k=>5002≤k)))).mono fun k e=>?_)⟩
  obtain⟨w1,w2,w3,hk⟩:=e;rw[GX h0] at w1;obtain⟨j,rfl⟩:∃ j,k=j+1:=⟨k - 1,by omega⟩
  have ef:=Kw (t:=t) (fn:=fn) (ns:=ns) (p:=x.2.1) h0 g16 (nm:=x.2.2.2.1) IH.v (by omega) j (x.2.2.2.2.length - 1) 1 (j+1) l (by omega) (by omega)
  refine⟨⟨l,?_,by omega,fun _=>rfl⟩,fun D hr=>⟨D,?_,fun _=>hr⟩⟩
  ·rw[oe (j+1)];simp only[go_sem,cQ,bq hx,Kx,show((12:Int)==9)=false from rfl,show((12:Int)==12)=true from rfl,show((12:Int)==22)=false from rfl,show((12:Int)==16)=false from rfl,w1,aa,e1,e2,w3]
   rw[show bP _ _ _ (j+1) (j+1) 12 x.2.2.2.1 x.2.2.2.2 t.1 t.2.1 t.2.2 ns fn l c0 x.2.1 1=_ from ef]
   simp only[go_sem]
  ·rw[kE (j+1)];simp only[go_sem,a6,bq hx,aa,Kx,show((12:Int)==9)=false from rfl,show((12:Int)==12)=true from rfl,show((12:Int)==22)=false from rfl,show((12:Int)==16)=false from rfl,w2 D hr,a1a.2 h0]
 subst h0;have hW:=EF (fn:=fn) ht y.2.2.2.1 y.2.1 1 1;by_cases hw:W t fn y.2.2.2.1 1 1=0
 rotate_left
 ·refine⟨W t fn y.2.2.2.1 1 1,y.2.1,fun hz=>absurd hz hw,Ev.succ ((jK.and (lw.and (hW.and (hM.and (⟨5002,fun k hk=>hk⟩:Ev fun k=>5002≤k))))).mono fun k e=>?_)⟩
  obtain⟨w1,w2,w3,w4,hk⟩:=e;rw[GX hw] at w3;obtain⟨j,rfl⟩:∃ j,k=j+1:=⟨k - 1,by omega⟩
  have ef:=Kw (t:=t) (fn:=fn) (ns:=ns) (p:=y.2.1) hw g16 (nm:=x.2.2.2.1) IH.v (by omega) j (x.2.2.2.2.length - 1) 1 (j+1) l (by omega) (by omega)
  refine⟨⟨l,?_,by omega,fun _=>rfl⟩,fun D hr=>⟨D,?_,fun _=>hr⟩⟩
  ·rw[oe (j+1)];simp only[go_sem,cQ,bq hx,Kx,show((12:Int)==9)=false from rfl,show((12:Int)==12)=true from rfl,show((12:Int)==22)=false from rfl,show((12:Int)==16)=false from rfl,w1,show LT 0 x.2.1=0 from rfl,aa,e1,e2,w3]
   rw[show bP _ _ _ (j+1) (j+1) 12 x.2.2.2.1 x.2.2.2.2 t.1 t.2.1 t.2.2 ns fn l (W t fn y.2.2.2.1 1 1) y.2.1 1=_ from ef]
   simp only[go_sem]
  ·rw[kE (j+1)];simp only[go_sem,a6,bq hx,aa,Kx,show((12:Int)==9)=false from rfl,show((12:Int)==12)=true from rfl,show((12:Int)==22)=false from rfl,show((12:Int)==16)=false from rfl,w2 D hr,e1,e2,w4,a1a.2 hw]
 obtain⟨c,p,hc,he⟩:=Bp (Kd:=12) rfl (nm:=x.2.2.2.1) IH.v (by omega) hli (x.2.2.2.2.length - 1) 1 (by omega) (fun j hj=>IH.n j (List.mem_of_mem_drop hj))
 have hus:=QB (P:=P) (Is:=Is) (Rs:=Rs) (B:=B) (fn:=fn) ht e3 Ly hyk l;rw[e5] at hus;have heS:=(he.mono fun _ _ e=>e.1).j9;have heL:Ev fun k=>∀ D,KY l D→Sl l c p (aS (bN k) (cv k) (bY k) k k ns t.1 t.2.1 t.2.2 fn P Is Rs B x.2.2.2.2 (x.2.2.2.2.length:Int) 0 0 D 0):=
  cz.j9 (p2:=fun q k=>∀ D,KY l D→Sl l c p (aS (bN q) (cv q) (bY q) q k ns t.1 t.2.1 t.2.2 fn P Is Rs B x.2.2.2.2 (x.2.2.2.2.length:Int) 0 0 D 0)) (cz.succ ((hus.tn.and (he.mono fun _ _ e=>e.2)).mono fun q k e D hr=>by
   have:=e.2 D hr;simp only[go_sem,aS,show decide ((0:Int)<(x.2.2.2.2.length:Int))=true from decide_eq_true (by omega),e1,e.1 D hr,show bC (0+1)=1 from rfl]
   exact this))
 have heI:=Ia (i:=i) hx (fun hz=>(hc hz).1) heL;refine⟨c,p,fun hz=>⟨(hc hz).1,HR.mk i x hx (fun j hj=>?_) (fun h=>absurd (Kx.symm.trans h) (by decide)) (fun _ v hv=>?_)⟩,Ev.succ ((jK.and (lw.and (hW.and (hM.and (heS.and heI))))).mono fun k e=>?_)⟩
 ·rw[hK] at hj
  rcases ala.1 hj with rfl|hj
  ·exact HR.mk _ y e3 (by rw[hyk];simp) (fun h=>absurd (Ly.symm.trans h) (by decide)) (fun h=>absurd (Ly.symm.trans h) (by decide))
  ·exact(hc hz).2 j (by rw[hK];exact hj)
 ·rw[hK] at hv
  simp only[List.head?_cons,Ob] at hv;subst hv;simp only[Em,e3];exact(Yk hw).elim id id
 ·obtain⟨w1,w2,w3,w4,⟨bl,w5,w5',ag2⟩,w6⟩:=e
  rw[hw] at w4;rw[hw] at w3;refine⟨⟨bl,?_,by omega,ag2⟩,fun D hr=>?_⟩
  ·rw[oe];simp only[go_sem,cQ,bq hx,Kx,show((12:Int)==9)=false from rfl,show((12:Int)==12)=true from rfl,show((12:Int)==22)=false from rfl,show((12:Int)==16)=false from rfl,w1,show LT 0 x.2.1=0 from rfl,show LT 0 y.2.1=0 from rfl,aa,e1,e2,w3]
   rw[show bP _ _ _ k k 12 x.2.2.2.1 x.2.2.2.2 t.1 t.2.1 t.2.2 ns fn l 0 0 1=_ from w5]
   simp only[go_sem]
  ·obtain⟨bm,w7,w8⟩:=w6 D hr
   refine⟨bm,?_,w8⟩;rw[kE];simp only[go_sem,a6,bq hx,aa,Kx,show((12:Int)==9)=false from rfl,show((12:Int)==12)=true from rfl,show((12:Int)==22)=false from rfl,show((12:Int)==16)=false from rfl,w2 D hr,e1,e2,w4,w7]
theorem adJ(ht:iQ t){i:Nat}{x:eu}(hx:ns[i]? = some x)(hn:oo ns i x)(fG:jC ns)(h9:x.1=9)(IH:Js t fn ns P Is Rs B i x.2.2.2.2):NB t fn ns P Is Rs B i:=by
 intro l hli;have dz:=hn.shp;rw[h9] at dz;obtain⟨u,hK⟩:∃ u,x.2.2.2.2=[u]:=by
  rcases h:x.2.2.2.2 with _|⟨u,_|⟨v,r⟩⟩
  ·rw[h] at dz;simp[cm] at dz
  ·exact⟨u,rfl⟩
  ·rw[h] at dz;simp[cm] at dz
 have hu:x.2.2.2.2[0]? = some u:=by rw[hK];rfl
 obtain⟨y,e1,e2,e3,e4,e5⟩:=Hm IH.v hu;have e1:bL x.2.2.2.2 0=some u:=e1;have hni:=IH.n u (by rw[hK];simp)
 have hN:=Vf ht fn x.2.2.2.1;have hNi:=Zg ht fn x.2.2.2.1;by_cases h4:(nk t fn x.2.2.2.1).1=4
 ·
  have bR:y.1=25∨y.1=29→HR ns t fn u.toNat:=fun h=>by
   have hy:=(fG _ _ e3).shp;have hyk:y.2.2.2.2=[]:=by rcases h with h|h<;>(rw[h] at hy;simpa[cm] using hy)
   exact HR.mk _ y e3 (by rw[hyk];simp) (fun h'=>by rcases h with h|h<;>exact absurd (h.symm.trans h') (by decide)) (fun h'=>by rcases h with h|h<;>exact absurd (h.symm.trans h') (by decide))
  have chk:y.1=25∨y.1=29→HR ns t fn i:=fun h=>HR.mk i x hx (fun j hj=>by rw[hK] at hj;rw[Q7.1 hj];exact bR h) (fun h'=>absurd (h9.symm.trans h') (by decide)) (fun h'=>absurd (h9.symm.trans h') (by decide))
  have hW:=EF (fn:=fn) ht y.2.2.2.1 y.2.1 4 4;have hM:=EW (fn:=fn) ht y.2.2.2.1 4;have ac3:∀ c p:Int,(c=0→p=0∧HR ns t fn i)→(Ev fun k=>dG k t.1 t.2.1 t.2.2 ns fn l 0 0 x=some (l,c,p,()))→(Ev fun k=>jP k ns t.1 t.2.1 t.2.2 fn x=some ((c,p),()))→
    ∃ c p,(c=0→p=0∧HR ns t fn i)∧Ev fun k=>Ur l (i+1) c p (dK k t.1 t.2.1 t.2.2 ns fn l 0 0 (i:Int))∧∀ D,KY l D→aaH l c p (cv k ns t.1 t.2.1 t.2.2 fn P Is Rs B D (i:Int)):=fun c p hc hS hI=>by
   refine⟨c,p,hc,Ev.succ ((hS.and (hI.and hNi)).mono fun k e=>?_)⟩;obtain⟨w1,w2,w3⟩:=e;refine⟨⟨l,?_,by omega,fun _=>rfl⟩,fun D hr=>⟨D,?_,fun _=>hr⟩⟩
   ·rw[oe];simp only[go_sem,cQ,bq hx,h9,w1]
   ·rw[kE];simp only[go_sem,a6,gR,bq hx,aa,h9,show fQ k (t.1,t.2.1,t.2.2) fn x.2.2.2.1=_ from w3,h4,w2]
  by_cases y29:y.1=29
  ·refine ac3 0 0 (fun _=>⟨rfl,chk (.inr y29)⟩) (Ev.succ (hN.mono fun k e=>?_)) (Ev.of fun k=>?_)
   ·rw[Fa];simp only[go_sem,it,show cW k (t.1,t.2.1,t.2.2) fn x.2.2.2.1=_ from e,e1,e2,h4,aa,y29,show((29:Int)==25)=false from rfl,show((29:Int) != 29)=false from rfl]
   ·simp only[go_sem,jP,e1,e2,y29]
  ·by_cases y25:y.1=25
   ·refine ac3 (W t fn y.2.2.2.1 4 4) (LT (W t fn y.2.2.2.1 4 4) y.2.1) (fun hz=>⟨by simp[LT,hz],chk (.inl y25)⟩) (Ev.succ ((hN.and hW).mono fun k e=>?_)) (hM.mono fun k e=>?_)
    ·rw[Fa];simp only[go_sem,it,show cW k (t.1,t.2.1,t.2.2) fn x.2.2.2.1=_ from e.1,e1,e2,h4,aa,y25,e.2]
    ·simp only[go_sem,jP,e1,e2,y25,show((25:Int)==29)=false from rfl,e]
     by_cases hw:W t fn y.2.2.2.1 4 4=0
     ·simp[hw,LT]
     ·simp[hw,LT,a1a.2 hw]
   ·refine ac3 11 x.2.1 (fun hz=>absurd hz (by decide)) (Ev.succ (hN.mono fun k e=>?_)) (Ev.of fun k=>?_)
    ·rw[Fa];simp only[go_sem,it,show cW k (t.1,t.2.1,t.2.2) fn x.2.2.2.1=_ from e,e1,e2,h4,aa,Q6.2 y25,a1a.2 y29,cu]
    ·simp only[go_sem,jP,e1,e2,Q6.2 y29,Q6.2 y25]
 ·
  have g4:((nk t fn x.2.2.2.1).1==4)=false:=Q6.2 h4;have Ng:=acF (fn:=fn) ht (l:=l) (by omega) x.2.2.2.1 x.2.1
  have lw:=Hh (fn:=fn) ht l x;simp only[h9,ava] at lw;generalize H0 t fn l x.2.2.2.1 3 2=c0 at Ng lw;have g9:((9:Int)==9)=true:=rfl;by_cases h0:c0=0
  rotate_left
  ·have hS:Ev fun k=>dG k t.1 t.2.1 t.2.2 ns fn l 0 0 x=some (l,c0,x.2.1,()):=Ev.succ ((hN.and (Ng.and (⟨1,fun k hk=>hk⟩:Ev fun k=>1≤k))).mono fun k e=>by
    obtain⟨w1,w2,hk⟩:=e;rw[GX h0] at w2;obtain⟨j,rfl⟩:∃ j,k=j+1:=⟨k - 1,by omega⟩
    have en:=In (t:=t) (fn:=fn) (p:=x.2.1) h0 e3 j l;rw[e5] at en;rw[Fa (j+1)];simp only[go_sem,it,show cW (j+1) (t.1,t.2.1,t.2.2) fn x.2.2.2.1=_ from w1,e1,e2,g4,w2,aa,cu,Q6.2 h0,en]
    cases (y.1==29)<;>rfl)
   refine⟨c0,x.2.1,fun hz=>absurd hz h0,Ev.succ ((hS.and (lw.and hNi)).mono fun k e=>?_)⟩;obtain⟨w1,w2,w3⟩:=e;refine⟨⟨l,?_,by omega,fun _=>rfl⟩,fun D hr=>⟨D,?_,fun _=>hr⟩⟩
   ·rw[oe];simp only[go_sem,cQ,bq hx,h9,g9,w1]
   ·rw[kE];simp only[go_sem,a6,gR,bq hx,aa,h9,g9,show fQ k (t.1,t.2.1,t.2.2) fn x.2.2.2.1=_ from w3,g4,w2 D hr,a1a.2 h0]
  subst h0;by_cases y29:y.1=29
  ·have hS:Ev fun k=>dG k t.1 t.2.1 t.2.2 ns fn l 0 0 x=some (l,11,y.2.1,()):=Ev.succ ((hN.and (Ng.and (⟨1,fun k hk=>hk⟩:Ev fun k=>1≤k))).mono fun k e=>by
    obtain⟨w1,w2,hk⟩:=e;obtain⟨j,rfl⟩:∃ j,k=j+1:=⟨k - 1,by omega⟩
    have en:=In (t:=t) (fn:=fn) (c:=11) (p:=y.2.1) (by decide) e3 j l
    rw[e5] at en;rw[Fa (j+1)];simp only[go_sem,it,show cW (j+1) (t.1,t.2.1,t.2.2) fn x.2.2.2.1=_ from w1,e1,e2,g4,w2,show LT 0 x.2.1=0 from rfl,aa,cu,y29,en])
   refine⟨11,y.2.1,fun hz=>absurd hz (by decide),Ev.succ ((hS.and (lw.and hNi)).mono fun k e=>?_)⟩
   obtain⟨w1,w2,w3⟩:=e;refine⟨⟨l,?_,by omega,fun _=>rfl⟩,fun D hr=>⟨D,?_,fun _=>hr⟩⟩
   ·rw[oe];simp only[go_sem,cQ,bq hx,h9,g9,w1]
   ·rw[kE];simp only[go_sem,a6,gR,bq hx,aa,h9,g9,show fQ k (t.1,t.2.1,t.2.2) fn x.2.2.2.1=_ from w3,g4,w2 D hr,e1,e2,y29]
  have g29:=Q6.2 y29;have Aq:=IH.l;obtain⟨c,p,hc,he⟩:=hni.2 l (by omega)
  rw[e5] at he;have hS:Ev fun k=>Ur l (u.toNat+1) c p (dG k t.1 t.2.1 t.2.2 ns fn l 0 0 x):=Ev.succ ((hN.and (Ng.and he)).mono fun k e=>by
   obtain⟨w1,w2,⟨bl,w3,w4,w5⟩,_⟩:=e;refine⟨bl,?_,w4,w5⟩;rw[Fa];simp only[go_sem,it,show cW k (t.1,t.2.1,t.2.2) fn x.2.2.2.1=_ from w1,e1,e2,g4,w2,show LT 0 x.2.1=0 from rfl,aa,g29,w3])
  obtain⟨c2,p2,xS,he2⟩:=Bp (Kd:=0) rfl (nm:=[]) IH.v (by omega) hli x.2.2.2.2.length 0 rfl (fun j hj=>IH.n j (by simpa using hj))
  have heL:Ev fun k=>∀ D,KY l D→Sl l c p (aS (bN k) (cv k) (bY k) k k ns t.1 t.2.1 t.2.2 fn P Is Rs B x.2.2.2.2 (x.2.2.2.2.length:Int) 0 0 D 0):=
   cz.j9 (p2:=fun q k=>∀ D,KY l D→Sl l c p (aS (bN q) (cv q) (bY q) q k ns t.1 t.2.1 t.2.2 fn P Is Rs B x.2.2.2.2 (x.2.2.2.2.length:Int) 0 0 D 0)) (cz.succ (cz.succ (he.tn.mono fun q k e D hr=>by
    obtain⟨bm,w1,w2⟩:=e.2 D hr;refine⟨bm,?_,w2⟩;rw[hK,aS];simp only[go_sem,caa,show decide ((0:Int)<((1:Nat):Int))=true from rfl,show bL [u] 0=some u from rfl,w1]
    by_cases hz:c=0
    ·rw[aS]
     simp only[go_sem,hz,show bC (0+1)=1 from rfl,show decide ((1:Int)<((1:Nat):Int))=false from rfl,ava]
    ·simp only[go_sem,a1a.2 hz,aBa hz])))
  have heI:=Ia (i:=i) hx (fun hz=>(hc hz).1) heL;refine⟨c,p,fun hz=>⟨(hc hz).1,HR.mk i x hx (fun j hj=>by rw[hK] at hj;rw[Q7.1 hj];exact(hc hz).2) (fun h'=>absurd (h9.symm.trans h') (by decide)) (fun h'=>absurd (h9.symm.trans h') (by decide))⟩,Ev.succ ((hS.and (lw.and (hNi.and heI))).mono fun k e=>?_)⟩
  obtain⟨⟨bl,w1,w1',ag0⟩,w2,w3,w4⟩:=e;have bf:=hni.1;refine⟨⟨bl,?_,by omega,ag0⟩,fun D hr=>?_⟩
  ·rw[oe];simp only[go_sem,cQ,bq hx,h9,g9,w1]
  ·obtain⟨bm,w5,w6⟩:=w4 D hr
   refine⟨bm,?_,w6⟩;rw[kE];simp only[go_sem,a6,gR,bq hx,aa,h9,g9,show fQ k (t.1,t.2.1,t.2.2) fn x.2.2.2.1=_ from w3,g4,w2 D hr,e1,e2,g29,w5]
end
end Go.Fx.R5
namespace Go.Fx.R5
open Go Go.Fx
section
variable {t:zo} {fn:ab} {ns:List eu} {P:Int} {Is Rs:XS} {B:Int}
theorem aaY{rn ra rc}(q k:Nat)(nm:ab)(a b c:Int)(A:AS)(G:XS)(F:FS)(bu:XS)(cd p:Int):bP rn ra rc q (k+4) 16 nm [a,b,c] A G F ns fn bu cd p 0 =
  (rn A G F ns fn bu cd p a).bind fun r=>(rn A G F ns fn r.1 r.2.1 r.2.2.1 b).bind fun r2=>(bE r2.1 [nm]).bind fun l=>(rn A G F ns fn l r2.2.1 r2.2.2.1 c).bind fun r3=>some (r3.1,r3.2.1,r3.2.2.1,()):=by
 rw[bP];simp only[go_sem,aAa,aza,show decide ((0:Int)<((0+1+1+1:Nat):Int))=true from rfl,show((16:Int)==16)=true from rfl,show((0:Int)==2)=false from rfl,aa,show bL [a,b,c] 0=some a from rfl,show bC (0+1)=1 from rfl]
 rfl
theorem adI(ht:iQ t){i:Nat}{x:eu}(hx:ns[i]? = some x)(hn:oo ns i x)(F3:x.1=16)(IH:Js t fn ns P Is Rs B i x.2.2.2.2):NB t fn ns P Is Rs B i:=by
 intro l hli;have jK:=WD (fn:=fn) ht (l:=l) (by omega) hx
 have lw:=Hh (fn:=fn) ht l x;have dz:=hn.shp;rw[F3] at dz;obtain⟨a,b,c,hK⟩:∃ a b c,x.2.2.2.2=[a,b,c]:=by
  rcases h:x.2.2.2.2 with _|⟨a,_|⟨b,_|⟨c,_|⟨d,r⟩⟩⟩⟩
  ·rw[h] at dz;simp[cm] at dz
  ·rw[h] at dz;simp[cm] at dz
  ·rw[h] at dz;simp[cm] at dz
  ·exact⟨a,b,c,rfl⟩
  ·rw[h] at dz;simp[cm] at dz
 obtain⟨ya,ea1,ea2,ea3,ea4,ea5⟩:=Hm IH.v (n:=0) (j:=a) (by rw[hK];rfl)
 obtain⟨yb,eb1,eb2,eb3,eb4,eb5⟩:=Hm IH.v (n:=1) (j:=b) (by rw[hK];rfl)
 obtain⟨yc,ec1,ec2,ec3,ec4,ec5⟩:=Hm IH.v (n:=2) (j:=c) (by rw[hK];rfl)
 have na:=IH.n a (by rw[hK];simp)
 have nb:=IH.n b (by rw[hK];simp)
 have nc:=IH.n c (by rw[hK];simp)
 have hoc:oY t fn l x=H0 t fn l x.2.2.2.1 3 3:=by simp only[oY,F3,Int.reduceEq,reduceIte,bka]
 simp only[F3,show ¬ (16:Int)=9 by decide,aka] at lw
 have g16:((16:Int)==16)=true:=rfl;have sk:∀ c0 p0:Int,c0≠0→(Ev fun k=>∃ bl,bP (dK k) (dG k) (eQ k) k k 16 x.2.2.2.1 x.2.2.2.2 t.1 t.2.1 t.2.2 ns fn l 0 0 0=some (bl,c0,p0,())∧bl.length≤l.length+i+1)→oY t fn l x=0→
   (Ev fun k=>∀ D,KY l D→∃ bm,bY k ns t.1 t.2.1 t.2.2 fn P Is Rs B D x=some ((c0,p0),bm,()))→
   ∃ c p,(c=0→p=0∧HR ns t fn i)∧Ev fun k=>Ur l (i+1) c p (dK k t.1 t.2.1 t.2.2 ns fn l 0 0 (i:Int))∧∀ D,KY l D→aaH l c p (cv k ns t.1 t.2.1 t.2.2 fn P Is Rs B D (i:Int)):=fun c0 p0 hc0 hS ho hI=>by
  rw[ho] at jK lw;refine⟨c0,p0,fun hz=>absurd hz hc0,Ev.succ ((jK.and (lw.and (hS.and hI))).mono fun k e=>?_)⟩;obtain⟨w1,w2,⟨bl,w3,w3'⟩,w4⟩:=e;refine⟨⟨bl,?_,by omega,fun hz=>absurd hz hc0⟩,fun D hr=>?_⟩
  ·rw[oe];simp only[go_sem,cQ,bq hx,F3,show((16:Int)==9)=false from rfl,show((16:Int)==12)=false from rfl,show((16:Int)==22)=false from rfl,show((16:Int)==16)=true from rfl,w1,show LT 0 x.2.1=0 from rfl,aa]
   rw[show bP _ _ _ k k 16 x.2.2.2.1 x.2.2.2.2 t.1 t.2.1 t.2.2 ns fn l 0 0 0=_ from w3]
   simp only[go_sem,Q6.2 hc0]
  ·obtain⟨bm,w5⟩:=w4 D hr
   refine⟨bm,?_,fun hz=>absurd hz hc0⟩;rw[kE];simp only[go_sem,a6,bq hx,aa,F3,show((16:Int)==9)=false from rfl,show((16:Int)==12)=false from rfl,show((16:Int)==22)=false from rfl,show((16:Int)==16)=true from rfl,w2 D hr,w5]
 have Aq:=IH.l;by_cases h0:oY t fn l x=0
 rotate_left
 ·
  refine⟨oY t fn l x,x.2.1,fun hz=>absurd hz h0,Ev.succ ((jK.and (lw.and (⟨10,fun k hk=>hk⟩:Ev fun k=>10≤k))).mono fun k e=>?_)⟩;obtain⟨w1,w2,hk⟩:=e;rw[GX h0] at w1;obtain⟨j,rfl⟩:∃ j,k=j+4:=⟨k - 4,by omega⟩
  have fa:=In (t:=t) (fn:=fn) (p:=x.2.1) h0 ea3 (j+3) l;have fb:=In (t:=t) (fn:=fn) (p:=x.2.1) h0 eb3 (j+3) l;have fc:=In (t:=t) (fn:=fn) (p:=x.2.1) h0 ec3 (j+3) (l++[x.2.2.2.1]);rw[ea5] at fa;rw[eb5] at fb;rw[ec5] at fc;have fp:bE l [x.2.2.2.1]=some (l++[x.2.2.2.1]):=oO (by simp;omega)
  refine⟨⟨l++[x.2.2.2.1],?_,by simp,fun hz=>absurd hz h0⟩,fun D hr=>⟨D,?_,fun _=>hr⟩⟩
  ·rw[oe (j+4)];simp only[go_sem,cQ,bq hx,F3,show((16:Int)==9)=false from rfl,show((16:Int)==12)=false from rfl,show((16:Int)==22)=false from rfl,show((16:Int)==16)=true from rfl,w1,aa,hK]
   rw[aaY];simp only[go_sem,show j+4=j+3+1 from rfl,fa,fb,fp,fc,Q6.2 h0]
  ·rw[kE (j+4)];simp only[go_sem,a6,bq hx,aa,F3,show((16:Int)==9)=false from rfl,show((16:Int)==12)=false from rfl,show((16:Int)==22)=false from rfl,show((16:Int)==16)=true from rfl,w2 D hr,a1a.2 h0]
 obtain⟨ca,pa,hca,hea⟩:=na.2 l (by omega)
 rw[ea5] at hea;have Lv:(⟨10,fun k hk=>hk⟩:Ev fun k=>10≤k)=⟨10,fun k hk=>hk⟩:=rfl;have Lv:Ev fun k=>10≤k:=⟨10,fun k hk=>hk⟩;have qa:sub [a,b,c] 0 2=some [a,b]:=rfl;have i2:bL [a,b,c] 2=some c:=rfl;by_cases hza:ca=0
 rotate_left
 ·refine sk ca pa hza ((hea.and Lv).mono fun k e=>?_) h0 (Ev.succ ((hea.and Lv).mono fun k e D hr=>?_))
  ·obtain⟨⟨⟨bl,w1,w2,_⟩,_⟩,hk⟩:=e
   obtain⟨j,rfl⟩:∃ j,k=j+4:=⟨k - 4,by omega⟩
   have fb:=In (t:=t) (fn:=fn) (p:=pa) hza eb3 (j+3) bl;have fc:=In (t:=t) (fn:=fn) (p:=pa) hza ec3 (j+3) (bl++[x.2.2.2.1]);rw[eb5] at fb;rw[ec5] at fc;have fp:bE bl [x.2.2.2.1]=some (bl++[x.2.2.2.1]):=oO (by simp;omega)
   have:=na.1;refine⟨bl++[x.2.2.2.1],?_,by simp;omega⟩
   rw[hK,aaY];rw[show j+4=j+3+1 from rfl] at w1
   simp only[go_sem,show j+4=j+3+1 from rfl,w1,fb,fp,fc]
  ·obtain⟨⟨_,w1⟩,hk⟩:=e
   obtain⟨bm,w2,_⟩:=w1 D hr;obtain⟨j,rfl⟩:∃ j,k=j+1:=⟨k - 1,by omega⟩
   refine⟨bm,?_⟩;rw[Ni (j+1)];simp only[go_sem,gY,hK,qa];rw[cN];simp only[go_sem,aAa,aza,show decide ((0:Int)<((0+1+1:Nat):Int))=true from rfl,show bL [a,b] 0=some a from rfl,w2,a1a.2 hza]
 subst hza;obtain⟨rfl,agd⟩:=hca rfl;obtain⟨cb,pb,hcb,heb⟩:=nb.2 l (by omega)
 rw[eb5] at heb;by_cases hzb:cb=0
 rotate_left
 ·refine sk cb pb hzb ((hea.and (heb.and Lv)).mono fun k e=>?_) h0 (Ev.succ ((hea.and (heb.and Lv)).mono fun k e D hr=>?_))
  ·obtain⟨⟨⟨bl0,w1,_,w1'⟩,_⟩,⟨⟨bl,w2,w3,_⟩,_⟩,hk⟩:=e
   obtain rfl:=w1' rfl;obtain⟨j,rfl⟩:∃ j,k=j+4:=⟨k - 4,by omega⟩
   have fc:=In (t:=t) (fn:=fn) (p:=pb) hzb ec3 (j+3) (bl++[x.2.2.2.1]);rw[ec5] at fc;have fp:bE bl [x.2.2.2.1]=some (bl++[x.2.2.2.1]):=oO (by simp;omega)
   have:=nb.1;refine⟨bl++[x.2.2.2.1],?_,by simp;omega⟩
   rw[hK,aaY];rw[show j+4=j+3+1 from rfl] at w1 w2
   simp only[go_sem,show j+4=j+3+1 from rfl,w1,w2,fp,fc]
  ·obtain⟨⟨_,w1⟩,⟨_,w3⟩,hk⟩:=e
   obtain⟨bm0,w2,w2'⟩:=w1 D hr;obtain⟨bm,w4,_⟩:=w3 bm0 (w2' rfl);obtain⟨j,rfl⟩:∃ j,k=j+2:=⟨k - 2,by omega⟩
   refine⟨bm,?_⟩;rw[Ni (j+2)];simp only[go_sem,gY,hK,qa];rw[cN];simp only[go_sem,aAa,aza,show decide ((0:Int)<((0+1+1:Nat):Int))=true from rfl,show bL [a,b] 0=some a from rfl,w2,show bC (0+1)=1 from rfl]
   rw[cN];simp only[go_sem,aAa,aza,show decide ((1:Int)<((0+1+1:Nat):Int))=true from rfl,show bL [a,b] 1=some b from rfl,w4,a1a.2 hzb]
 subst hzb;obtain⟨rfl,age⟩:=hcb rfl;have hnl:x.2.2.2.1∉l:=fun hm=>by
  rw[hoc] at h0;unfold H0 at h0;by_cases hw:W t fn x.2.2.2.1 3 3=0
  ·simp[hw,hm] at h0
  ·simp[hw] at h0
 have Nc:∀{D:AS},KY l D→KY (l++[x.2.2.2.1]) (ry D x.2.2.2.1 1):=fun hr s=>by
  rw[E0,ana,Q7];by_cases e:x.2.2.2.1=s
  ·simp[e]
  ·simp[e,hr s,bDa e]
 have ae7:∀{D:AS},KY (l++[x.2.2.2.1]) D→KY l (ry D x.2.2.2.1 0):=fun hr s=>by
  rw[E0];by_cases e:x.2.2.2.1=s
  ·subst e;simp[hnl]
  ·have:=hr s
   rw[ana,Q7] at this;simp[e,this,bDa e]
 obtain⟨cc,pc,hcc,hec⟩:=nc.2 (l++[x.2.2.2.1]) (by have:=nc.1;simp;omega)
 rw[ec5] at hec;have hlp:bE l [x.2.2.2.1]=some (l++[x.2.2.2.1]):=oO (by simp;omega)
 have hS:Ev fun k=>∃ bl,bP (dK k) (dG k) (eQ k) k k 16 x.2.2.2.1 x.2.2.2.2 t.1 t.2.1 t.2.2 ns fn l 0 0 0=some (bl,cc,pc,())∧bl.length≤l.length+i+1∧(cc=0→bl=l++[x.2.2.2.1]):=(hea.and (heb.and (hec.and Lv))).mono fun k e=>by
  obtain⟨⟨⟨bl0,w1,_,w1'⟩,_⟩,⟨⟨bl1,w2,_,w2'⟩,_⟩,⟨⟨bl,w3,w4,w5⟩,_⟩,hk⟩:=e;obtain rfl:=w1' rfl;obtain rfl:=w2' rfl;obtain⟨j,rfl⟩:∃ j,k=j+4:=⟨k - 4,by omega⟩
  have:=nc.1;refine⟨bl,?_,by simp at w4;omega,w5⟩
  rw[hK,aaY];simp only[go_sem,w1,w2,hlp,w3]
 have hI:Ev fun k=>∀ D,KY l D→∃ bm,bY k ns t.1 t.2.1 t.2.2 fn P Is Rs B D x=some ((cc,pc),bm,())∧(cc=0→KY l bm):=Ev.succ ((hea.and (heb.and (hec.and Lv))).mono fun k e D hr=>by
  obtain⟨⟨_,w1⟩,⟨_,w3⟩,⟨_,w5⟩,hk⟩:=e;obtain⟨bm0,w2,w2'⟩:=w1 D hr;obtain⟨bm1,w4,w4'⟩:=w3 bm0 (w2' rfl);obtain⟨bm2,w6,w6'⟩:=w5 (ry bm1 x.2.2.2.1 1) (Nc (w4' rfl));obtain⟨j,rfl⟩:∃ j,k=j+3:=⟨k - 3,by omega⟩
  refine⟨ry bm2 x.2.2.2.1 0,?_,fun hz=>ae7 (w6' hz)⟩;rw[Ni (j+3)];simp only[go_sem,gY,hK,qa];rw[cN];simp only[go_sem,aAa,aza,show decide ((0:Int)<((0+1+1:Nat):Int))=true from rfl,show bL [a,b] 0=some a from rfl,w2,show bC (0+1)=1 from rfl]
  rw[cN];simp only[go_sem,aAa,aza,show decide ((1:Int)<((0+1+1:Nat):Int))=true from rfl,show bL [a,b] 1=some b from rfl,w4,show bC (1+1)=2 from rfl]
  rw[cN];simp only[go_sem,aAa,aza,show decide ((2:Int)<((0+1+1:Nat):Int))=false from rfl,i2,w6])
 by_cases hzc:cc=0
 rotate_left
 ·exact sk cc pc hzc (hS.mono fun k e=>by obtain⟨bl,w1,w2,_⟩:=e;exact⟨bl,w1,w2⟩) h0 (hI.mono fun k e D hr=>by obtain⟨bm,w1,_⟩:=e D hr;exact⟨bm,w1⟩)
 subst hzc;obtain⟨rfl,agf⟩:=hcc rfl;rw[h0] at jK lw;refine⟨0,0,fun _=>⟨rfl,HR.mk i x hx (fun j hj=>?_) (fun h=>absurd (F3.symm.trans h) (by decide)) (fun h=>absurd (F3.symm.trans h) (by decide))⟩,Ev.succ ((jK.and (lw.and (hS.and hI))).mono fun k e=>?_)⟩
 ·rw[hK] at hj
  simp only[ala,bXa,bca] at hj;rcases hj with rfl|rfl|rfl
  ·exact agd
  ·exact age
  ·exact agf
 ·obtain⟨w1,w2,⟨bl,w3,_,w4⟩,w5⟩:=e
  obtain rfl:=w4 rfl;refine⟨⟨l,?_,by omega,fun _=>rfl⟩,fun D hr=>?_⟩
  ·have hs:sub (l++[x.2.2.2.1]) 0 (bC (((l++[x.2.2.2.1]).length:Int) - 1))=some l:=by
    have:=wS (l:=l++[x.2.2.2.1]) (m:=0) (n:=l.length) (by omega) (by simp)
    rw[aua,caa,bF (by omega) (by omega),show((l.length+1:Nat):Int) - 1=(l.length:Int) by omega]
    rw[show(0:Int)=((0:Nat):Int) from rfl,this];simp
   rw[oe];simp only[go_sem,cQ,bq hx,F3,show((16:Int)==9)=false from rfl,show((16:Int)==12)=false from rfl,show((16:Int)==22)=false from rfl,show((16:Int)==16)=true from rfl,w1,show LT 0 x.2.1=0 from rfl,aa]
   rw[show bP _ _ _ k k 16 x.2.2.2.1 x.2.2.2.2 t.1 t.2.1 t.2.2 ns fn l 0 0 0=_ from w3]
   simp only[go_sem,hs]
  ·obtain⟨bm,w6,w7⟩:=w5 D hr
   refine⟨bm,?_,w7⟩;rw[kE];simp only[go_sem,a6,bq hx,aa,F3,show((16:Int)==9)=false from rfl,show((16:Int)==12)=false from rfl,show((16:Int)==22)=false from rfl,show((16:Int)==16)=true from rfl,w2 D hr,w6]
theorem Xu(ht:iQ t)(fG:jC ns):∀ n i,i<n→i<ns.length→NB t fn ns P Is Rs B i:=by
 intro n;induction n with
 |zero=>intro i h;omega
 |succ n ih=>
  intro i hi hl;have hx:ns[i]? = some ns[i]:=by simp[hl]
  have hn:=fG i _ hx;have IH:Js t fn ns P Is Rs B i ns[i].2.2.2.2:=⟨fun j hj=>by have:=hn.cL j hj;omega,hn.nm.2,fun j hj=>by
   have:=hn.cL j hj;exact⟨this.2,ih j.toNat (by omega) (by omega)⟩⟩
  by_cases h9:ns[i].1=9
  ·exact adJ ht hx hn fG h9 IH
  by_cases D6:ns[i].1=22
  ·exact abh ht hx hn fG D6 IH
  by_cases Kx:ns[i].1=12
  ·exact abg ht hx hn fG Kx IH
  by_cases F3:ns[i].1=16
  ·exact adI ht hx hn F3 IH
  exact ZG ht hx h9 D6 Kx F3 IH
end
end Go.Fx.R5
namespace Go.Fx.R5
open Go Go.Fx
section
variable {t:zo} {ns:List eu} {D:AS}
theorem W0(ht:iQ t)(fG:jC ns)(hl:ns.length≤3900){fn:ab}{P:Int}{Is Rs:XS}{b:Int}(h0:0≤b)(h1:b<ns.length)(h8:kd ns b=8):∃ c p,(c=0→p=0∧HR ns t fn b.toNat)∧Ev fun k=>
  (∃ bl,dK k t.1 t.2.1 t.2.2 ns fn [] 0 0 b=some (bl,c,p,()))∧∃ bm,bN k ns t.1 t.2.1 t.2.2 fn P Is Rs b ([]:AS) b=some ((c,p),bm,()):=by
 obtain⟨x,e1,e2,e3⟩:=vq h0 h1;have hb:((b.toNat:Nat):Int)=b:=aRa h0;rw[e2] at h8;obtain⟨c,p,hc,he⟩:=Xu (fn:=fn) (P:=P) (Is:=Is) (Rs:=Rs) (B:=b) ht fG (b.toNat+1) b.toNat (by omega) (by omega) [] (by simp;omega)
 rw[hb] at he;have Nc:KY [] ([]:AS):=fun s=>by simp[qL]
 have lw:=Hh (fn:=fn) ht [] x;simp only[h8,oY,Int.reduceEq,reduceIte,bka] at lw;refine⟨c,p,hc,(he.and (he.abt.and lw)).mono fun k e=>?_⟩;obtain⟨⟨⟨bl,w1,_⟩,_⟩,⟨_,w2⟩,w3⟩:=e;refine⟨⟨bl,w1⟩,?_⟩;obtain⟨bm,w4,_⟩:=w2 [] Nc;rw[kE] at w4;simp only[go_sem,a6,e3,aa,h8,show((8:Int)==9)=false from rfl,show((8:Int)==12)=false from rfl,show((8:Int)==22)=false from rfl,show((8:Int)==16)=false from rfl,w3 [] Nc] at w4
 cases hbw:bN k ns t.1 t.2.1 t.2.2 fn P Is Rs b ([]:AS) b with
 |none=>rw[hbw] at w4;cases w4
 |some r=>obtain⟨⟨c',p'⟩,bm',u⟩:=r;rw[hbw] at w4;simp only[go_sem,Ob,aia] at w4;exact⟨bm',by rw[w4.1.1,w4.1.2]⟩
theorem MV(hp:P1 ns t D)(fG:jC ns)(hl:ns.length≤3900):∀ m i,m+i=t.2.2.length→
  (∃(c p:Int),c≠0∧cz fun q k=>fh q k ns 0 0 t.1 t.2.1 t.2.2 (i:Int)=some (.inr (c,p,()))∧fH q k t.2.2 ns t.2.2 (t.2.2.length:Int) t.1 t.2.1 0 0 (i:Int)=some (.inr (c,p,())))∨
  ((∀ x∈t.2.2.drop i,HR ns t x.1 x.2.2.2.2.toNat)∧cz fun q k=>fh q k ns 0 0 t.1 t.2.1 t.2.2 (i:Int)=some (.inl (0,0,t.1,t.2.1,t.2.2,()))∧
   fH q k t.2.2 ns t.2.2 (t.2.2.length:Int) t.1 t.2.1 0 0 (i:Int)=some (.inl (t.1,t.2.1,0,0,())))
 |0,i,h=>by
  have h2:¬ i<t.2.2.length:=by omega
  have e:t.2.2.drop i=[]:=by simp;omega
  refine .inr ⟨by rw[e];simp,cz.succ (cz.of fun q k=>⟨?_,?_⟩)⟩
  ·simp only[go_sem,fh,Q5,h2]
  ·simp only[go_sem,fH,Q5,h2]
 |m+1,i,h=>by
  have bf:i<t.2.2.length:=by omega
  have hf6:=hp.iK.f;have hb:=hp.bd _ (aQa bf);obtain⟨c,p,hc,he⟩:=W0 (fn:=t.2.2[i].1) (P:=t.2.2[i].2.1) (Is:=t.2.2[i].2.2.1) (Rs:=t.2.2[i].2.2.2.1) hp.iK fG hl hb.1 hb.2.1 hb.2.2.1;by_cases h0:c=0
  ·subst h0
   obtain⟨rfl,He⟩:=hc rfl;have s1:∀{q k r},(∃ bl,dK q t.1 t.2.1 t.2.2 ns t.2.2[i].1 [] 0 0 t.2.2[i].2.2.2.2=some (bl,0,0,()))→fh q k ns 0 0 t.1 t.2.1 t.2.2 ((i+1:Nat):Int)=r→fh q (k+1) ns 0 0 t.1 t.2.1 t.2.2 (i:Int)=r:=fun⟨bl,a1⟩ a2=>by simp only[go_sem,fh,Q5,bf,cF bf,a1,ag (show i<_ by omega),a2]
   have s2:∀{q k r},(∃ bm,bN q ns t.1 t.2.1 t.2.2 t.2.2[i].1 t.2.2[i].2.1 t.2.2[i].2.2.1 t.2.2[i].2.2.2.1 t.2.2[i].2.2.2.2 ([]:AS) t.2.2[i].2.2.2.2=some ((0,0),bm,()))→fH q k t.2.2 ns t.2.2 (t.2.2.length:Int) t.1 t.2.1 0 0 ((i+1:Nat):Int)=r→
     fH q (k+1) t.2.2 ns t.2.2 (t.2.2.length:Int) t.1 t.2.1 0 0 (i:Int)=r:=fun⟨bm,a1⟩ a2=>by
    simp only[go_sem,fH,Q5,bf,cF bf,a1,ag (show i<_ by omega),a2]
   rcases MV hp fG hl m (i+1) (by omega) with ⟨c,p,g,hh⟩|⟨g,hh⟩
   ·exact .inl ⟨c,p,g,cz.succ ((he.tn.and hh).mono fun q k e=>⟨s1 e.1.1 e.2.1,s2 e.1.2 e.2.2⟩)⟩
   ·refine .inr ⟨fun x hx=>?_,cz.succ ((he.tn.and hh).mono fun q k e=>⟨s1 e.1.1 e.2.1,s2 e.1.2 e.2.2⟩)⟩
    rw[aLa bf] at hx;rcases ala.1 hx with rfl|hx
    ·exact He
    ·exact g x hx
  ·refine .inl ⟨c,p,h0,cz.succ (he.tn.mono fun q k e=>?_)⟩
   obtain⟨⟨bl,w1⟩,bm,w2⟩:=e;refine⟨?_,?_⟩
   ·simp only[go_sem,fh,Q5,bf,cF bf,w1,a1a.2 h0]
   ·simp only[go_sem,fH,Q5,bf,cF bf,w2,a1a.2 h0]
theorem Vo(hT:Us ns):(∃(c p:Int),c≠0∧Ev fun k=>je k ns=some (([],[],[]),(c,p),())∧∀ ce,gp k ce=some (ns,(0,0),())→fo k ce=some (([],[],[]),(c,p),()))∨
  ∃(t:zo) (D:AS),P1 ns t D∧(∀ x∈t.2.2,HR ns t x.1 x.2.2.2.2.toNat)∧Ev fun k=>je k ns=some (t,(0,0),())∧∀ ce,gp k ce=some (ns,(0,0),())→fo k ce=some (t,(0,0),()):=by
 obtain⟨fG,jB,ns0,l,hns,hk,hws⟩:=hT;have hks:jQ ns l≤ns.length:=by rw[pW (by rw[hns];exact aMa _ _) hk.v,hns];simp;omega
 have hk:jc FM ns l:=hk.up (by rw[hns];exact aMa _ _)
 have acp:ns[ns.length - 1]? = some (1,0,0,[],l):=by rw[hns];simp
 have Aq:l.length≤5000:=(fG _ _ acp).nm.2;have t6:0<ns.length:=by rw[hns];simp
 have Hf:bL ns (bC ((ns.length:Int) - 1))=some (1,0,0,[],l):=by
  rw[bF (by omega) (by omega),show(ns.length:Int) - 1=((ns.length - 1:Nat):Int) by omega]
  exact bq acp
 have h0:P1 ns ([],[],[]) []:=⟨⟨by simp,by simp,by simp,by simp⟩,by simp,by simp,by simp,fun s=>by simp[qL,pK]⟩
 rcases Pp fG (by omega) hk Aq hks l.length 0 ([],[],[]) [] rfl h0 (by intro f hf;simp at hf) with ⟨c,p,hc,he⟩|⟨t1,D1,hp1,hf1,LV,he1⟩
 ·refine .inl ⟨c,p,hc,he.j9.mono fun k e=>?_⟩
  have w1:du k k ns l 0 0 [] [] [] 0=_:=e.1;have w2:dO k k ns l (l.length:Int) [] [] [] 0 0 [] 0=_:=e.2;refine⟨by simp only[go_sem,je,Hf,w2],fun ce hp=>by simp only[go_sem,fo,hp,Hf,w1]⟩
 ·have he1:=he1.j9
  rcases US fG (by omega) hk Aq l.length 0 0 t1 rfl hp1 (by simp only[aza] at LV;omega) (fun n x _ hx=>hf1 x (a2a hx)) with ⟨c,p,hc,he⟩|⟨F2,HG,he2⟩
  ·refine .inl ⟨c,p,hc,(he1.and he.j9).mono fun k e=>?_⟩
   obtain⟨⟨w1,w2⟩,w3,w4⟩:=e;have w1:du k k ns l 0 0 [] [] [] 0=_:=w1;have w2:dO k k ns l (l.length:Int) [] [] [] 0 0 [] 0=_:=w2;have w3:dc k k ns l 0 0 t1.1 t1.2.1 t1.2.2 0 0=_:=w3;have w4:dx k k ns l (l.length:Int) t1.2.2 0 0 D1 0 0=_:=w4;refine⟨by simp only[go_sem,je,Hf,w2,w4],fun ce hp=>by simp only[go_sem,fo,hp,Hf,w1,w3]⟩
  ·have he2:=he2.j9
   have hf6:=HG.iK.f;have hM:=adx (t1.1,t1.2.1,F2) (by omega)
   have hS:=RX (t1.1,t1.2.1,F2) [109,97,105,110] (by omega)
   by_cases Y1:0≤nR (fun x:ab×Int×XS×XS×Int=>x.1==([109,97,105,110]:ab)) F2 0∧∀ n x,nR (fun x:ab×Int×XS×XS×Int=>x.1==([109,97,105,110]:ab)) F2 0=(n:Nat)→F2[n]? = some x→x.2.1=0
   ·obtain⟨n,x,n1,n2,_⟩:=I0 Y1.1
    have hz:=Y1.2 n x n1 n2;have b1:decide ((n:Int)<0)=false:=bAa (by omega)
    have b2:decide (x.2.1 > 0)=false:=by rw[hz];rfl
    have b3:(x.2.1 != 0)=false:=by rw[hz];rfl
    rcases MV HG fG (by omega) F2.length 0 rfl with ⟨c,p,hc,he⟩|⟨He,he⟩
    ·refine .inl ⟨c,p,hc,(he1.and (he2.and ((hM.and hS).and he.j9))).mono fun k e=>?_⟩
     obtain⟨⟨w1,w2⟩,⟨w3,w4⟩,⟨w5,w6⟩,w7,w8⟩:=e;have w1:du k k ns l 0 0 [] [] [] 0=_:=w1;have w2:dO k k ns l (l.length:Int) [] [] [] 0 0 [] 0=_:=w2;have w3:dc k k ns l 0 0 t1.1 t1.2.1 t1.2.2 0 0=_:=w3;have w4:dx k k ns l (l.length:Int) t1.2.2 0 0 D1 0 0=_:=w4;have w7:fh k k ns 0 0 t1.1 t1.2.1 F2 0=_:=w7;have w8:fH k k F2 ns F2 (F2.length:Int) t1.1 t1.2.1 0 0 0=_:=w8;refine⟨?_,fun ce hp=>?_⟩
     ·simp only[go_sem,je,Hf,w2,w4,w5,aa,n1,b1,bq n2,aDa,b2,w8]
     ·simp only[go_sem,fo,hp,Hf,w1,w3,w6,aa,n1,b1,bq n2,aDa,b3,w7]
    ·refine .inr ⟨(t1.1,t1.2.1,F2),D1,HG,fun y hy=>He y (by simpa using hy),(he1.and (he2.and ((hM.and hS).and he.j9))).mono fun k e=>?_⟩
     obtain⟨⟨w1,w2⟩,⟨w3,w4⟩,⟨w5,w6⟩,w7,w8⟩:=e;have w1:du k k ns l 0 0 [] [] [] 0=_:=w1;have w2:dO k k ns l (l.length:Int) [] [] [] 0 0 [] 0=_:=w2;have w3:dc k k ns l 0 0 t1.1 t1.2.1 t1.2.2 0 0=_:=w3;have w4:dx k k ns l (l.length:Int) t1.2.2 0 0 D1 0 0=_:=w4;have w7:fh k k ns 0 0 t1.1 t1.2.1 F2 0=_:=w7;have w8:fH k k F2 ns F2 (F2.length:Int) t1.1 t1.2.1 0 0 0=_:=w8;refine⟨?_,fun ce hp=>?_⟩
     ·simp only[go_sem,je,Hf,w2,w4,w5,aa,n1,b1,bq n2,aDa,b2,w8]
     ·simp only[go_sem,fo,hp,Hf,w1,w3,w6,aa,n1,b1,bq n2,aDa,b3,w7]
   ·refine .inl ⟨13,0,by decide,(he1.and (he2.and (hM.and hS))).mono fun k e=>?_⟩
    obtain⟨⟨w1,w2⟩,⟨w3,w4⟩,w5,w6⟩:=e;have w1:du k k ns l 0 0 [] [] [] 0=_:=w1;have w2:dO k k ns l (l.length:Int) [] [] [] 0 0 [] 0=_:=w2;have w3:dc k k ns l 0 0 t1.1 t1.2.1 t1.2.2 0 0=_:=w3;have w4:dx k k ns l (l.length:Int) t1.2.2 0 0 D1 0 0=_:=w4;by_cases Lv:0≤nR (fun x:ab×Int×XS×XS×Int=>x.1==([109,97,105,110]:ab)) F2 0
    ·obtain⟨n,x,n1,n2,_⟩:=I0 Lv
     have hx:=HG.iK.i x (a2a n2);have hz:x.2.1≠0:=fun hz=>Y1 ⟨Lv,fun n' x' a1 a2=>by
      have:n' = n:=by omega
      subst this;rw[n2] at a2;cases a2;exact hz⟩
     have b1:decide ((n:Int)<0)=false:=bAa (by omega)
     have b2:decide (x.2.1 > 0)=true:=decide_eq_true (by omega)
     have b3:(x.2.1 != 0)=true:=a1a.2 hz;refine⟨?_,fun ce hp=>?_⟩
     ·simp only[go_sem,je,Hf,w2,w4,w5,aa,n1,b1,bq n2,aDa,b2]
     ·simp only[go_sem,fo,hp,Hf,w1,w3,w6,aa,n1,b1,bq n2,aDa,b3]
    ·have n1:=(Wp Lv).1
     refine⟨?_,fun ce hp=>?_⟩
     ·simp only[go_sem,je,Hf,w2,w4,w5,aa,n1,show decide ((-1:Int)<0)=true from rfl]
     ·simp only[go_sem,fo,hp,Hf,w1,w3,w6,aa,n1,show decide ((-1:Int)<0)=true from rfl]
end
end Go.Fx.R5
namespace Go.Fx.R5
open Go Go.Fx
abbrev ES:=XE
abbrev SPS:=XQ
structure FG(nf M:Nat)(O:XI)(H:XB)(E:ES):Prop where
 oh:H.length=O.length
 ow:∀ x∈O,0≤x∧x<(nf:Int)
 ed:∀ e∈E,0≤e.1∧e.1<(O.length:Int)∧(e.2.2.1=5→0≤e.2.2.2.2∧e.2.2.2.2<(M:Int))
structure Sk(nf M:Nat)(O:XI)(E:ES)(w:Nat)(O':XI)(H':XB)(E':ES):Prop where
 fg:FG nf M O' H' E'
 lo:O.length≤O'.length
 hi:O'.length≤O.length+5 * w
 eh:E'.length≤E.length+5 * w
section
variable {nf M:Nat} {O:XI} {H:XB} {E:ES}
theorem FG.oF(h:FG nf M O H E){fn:Int}(h0:0≤fn)(h1:fn<nf)(b:Bool):FG nf M (O++[fn]) (H++[b]) E:=
 ⟨by simp[h.oh],fun x hx=>by
  rcases ana.1 hx with hx|hx
  ·exact h.ow x hx
  ·rw[Q7.1 hx];exact⟨h0,h1⟩,fun e he=>by
  have:=h.ed e he;exact⟨this.1,by simp;omega,this.2.2⟩⟩
theorem FG.zq(h:FG nf M O H E){f t k n a:Int}(h0:0≤f)(h1:f<O.length)(h5:k=5→0≤a∧a<(M:Int)):FG nf M O H (E++[(f,t,k,n,a)]):=
 ⟨h.oh,h.ow,fun e he=>by
  rcases ana.1 he with he|he
  ·exact h.ed e he
  ·rw[Q7.1 he];exact⟨h0,h1,h5⟩⟩
theorem Sk.refl(h:FG nf M O H E):Sk nf M O E 0 O H E:=⟨h,by omega,by omega,by omega⟩
theorem zG{α:Type}{l:List α}{x:α}(h:l.length≤2000000):bE l [x]=some (l++[x]):=oO (by simp;omega)
theorem qn(h:FG nf M O H E)(hl:O.length≤2000000)(fn:Int)(b:Bool):dw fn O H b=some ((O.length:Int),O++[fn],H++[b],()):=by
 simp only[go_sem,dw,zG hl,zG (show H.length≤2000000 by rw[h.oh];exact hl)]
 rw[aua,caa,bF (by omega) (by omega)]
 simp
theorem tw(hl:E.length≤2000000)(f t k n a:Int):dC E f t k n a=some (E++[(f,t,k,n,a)],()):=by simp only[go_sem,dC,zG hl]
theorem rE(h:FG nf M O H E)(hl:O.length≤2000000)(fn:Int)(b:Bool):gw fn O H b=some ((O.length:Int),O++[fn],H++[b],()):=qn h hl fn b
theorem uF(hl:E.length≤2000000)(f t k n a:Int):fD E f t k n a=some (E++[(f,t,k,n,a)],()):=tw hl f t k n a
end
section
variable {nf M:Nat} {ns:List eu} {A:AS} {G:XS} {Fs:FS}
def CFI(nf M:Nat)(ns:List eu)(A:AS)(G:XS)(Fs:FS)(i:Nat):Prop:=Ev fun k=>∀(fn:Int) (O:XI) (H:XB) (E:ES) (En:XI) (la:SPS) (ki pl:XI) (p y z:Int),FG nf M O H E→0≤fn→fn<nf→0≤p→p<O.length→O.length+5 * wt ns (i:Int)≤1000000→E.length+5 * wt ns (i:Int)≤1000000→
 ∃ O' H' E',iH k fn O En H E la ns A G Fs ki pl [] [] [] [] [] [] [] (i:Int) p y z=some (O',H',E',())∧Sk nf M O E (wt ns (i:Int)) O' H' E'
theorem aaO(fG:jC ns):∀ n i,i<n→i<ns.length→(∀ x,ns[i]? = some x→t7 x.1=true)→CFI nf M ns A G Fs i:=by
 intro n;induction n with
 |zero=>intro i h;omega
 |succ n ih=>
  intro i hi hl hcd;have hx:ns[i]? = some ns[i]:=by simp[hl]
  have hn:=fG i _ hx;have hcd:=hcd _ hx;have hw:=Oi hx hn.cL;have AC:bL ns (i:Int)=some ns[i]:=bq hx;generalize ns[i]=x at *;have JY:∀ j∈x.2.2.2.2,t7 (kd ns j)=true→CFI nf M ns A G Fs j.toNat∧((j.toNat:Nat):Int)=j:=fun j hj hc=>by
   have hj2:=hn.cL j hj;obtain⟨y,e1,e2,e3⟩:=vq (ns:=ns) hj2.1 (by omega)
   exact⟨ih j.toNat (by omega) (by omega) fun y' F7=>by rw[e1] at F7;cases F7;rw[←e2];exact hc,aRa hj2.1⟩
  have dz:=hn.shp;by_cases h33:x.1=33
  ·rw[h33] at dz
   obtain⟨a,hK⟩:∃ a,x.2.2.2.2=[a]:=by
    rcases h:x.2.2.2.2 with _|⟨a,_|⟨b,r⟩⟩
    ·rw[h] at dz;simp[cm] at dz
    ·exact⟨a,rfl⟩
    ·rw[h] at dz;simp[cm] at dz
   rw[hK] at dz;obtain⟨ca,ea⟩:=JY a (by rw[hK];simp) (by simpa[cm] using dz)
   unfold CFI at ca;rw[ea] at ca;rw[hK,ph] at hw;refine Ev.succ (ca.mono fun k e fn O H E En la ki pl p y z hg f0 f1 p0 p1 hO hE=>?_);obtain⟨O',H',E',w1,w2⟩:=e fn O H E En la ki pl p z y hg f0 f1 p0 p1 (by omega) (by omega)
   refine⟨O',H',E',?_,⟨w2.fg,w2.lo,by have:=w2.hi;omega,by have:=w2.eh;omega⟩⟩
   simp only[go_sem,iH,lS,AC,h33,hK,show bL [a] 0=some a from rfl,w1]
  by_cases xA:x.1=31∨x.1=32
  ·obtain⟨a,b,hK⟩:∃ a b,x.2.2.2.2=[a,b]:=by
    rcases h:x.2.2.2.2 with _|⟨a,_|⟨b,_|⟨c,r⟩⟩⟩
    ·rcases xA with xA|xA<;>(rw[h,xA] at dz;simp[cm] at dz)
    ·rcases xA with xA|xA<;>(rw[h,xA] at dz;simp[cm] at dz)
    ·exact⟨a,b,rfl⟩
    ·rcases xA with xA|xA<;>(rw[h,xA] at dz;simp[cm] at dz)
   have hab:t7 (kd ns a)=true∧t7 (kd ns b)=true:=by rcases xA with xA|xA<;>(rw[hK,xA] at dz;simpa[cm] using dz)
   obtain⟨ca,ea⟩:=JY a (by rw[hK];simp) hab.1
   obtain⟨cb,eb⟩:=JY b (by rw[hK];simp) hab.2
   unfold CFI at ca cb;rw[ea] at ca;rw[eb] at cb;rw[hK,yC] at hw;refine Ev.succ ((ca.and cb).mono fun k e fn O H E En la ki pl p y z hg f0 f1 p0 p1 hO hE=>?_);obtain⟨ca,cb⟩:=e;have hp:=qn hg (show O.length≤2000000 by omega) fn false
   rcases xA with xA|xA
   ·obtain⟨O1,H1,E1,w1,w2⟩:=ca fn (O++[fn]) (H++[false]) E En la ki pl p (O.length:Int) z (hg.oF f0 f1 _) f0 f1 p0 (by simp;omega) (by simp;omega) (by omega)
    have l1:=w2.lo;have l2:=w2.hi;have l3:=w2.eh;simp only[aua,aAa,aza] at l1 l2;obtain⟨O2,H2,E2,w3,w4⟩:=cb fn O1 H1 E1 En la ki pl (O.length:Int) y z w2.fg f0 f1 (by omega) (by omega) (by omega) (by omega)
    have k1:=w4.lo;have k2:=w4.hi;have k3:=w4.eh;refine⟨O2,H2,E2,?_,⟨w4.fg,by omega,by omega,by omega⟩⟩
    simp only[go_sem,iH,lS,AC,xA,show((31:Int)==33)=false from rfl,hK,hp,show bL [a,b] 0=some a from rfl,w1,show bL [a,b] 1=some b from rfl,w3]
   ·obtain⟨O1,H1,E1,w1,w2⟩:=ca fn (O++[fn]) (H++[false]) E En la ki pl p y (O.length:Int) (hg.oF f0 f1 _) f0 f1 p0 (by simp;omega) (by simp;omega) (by omega)
    have l1:=w2.lo;have l2:=w2.hi;have l3:=w2.eh;simp only[aua,aAa,aza] at l1 l2;obtain⟨O2,H2,E2,w3,w4⟩:=cb fn O1 H1 E1 En la ki pl (O.length:Int) y z w2.fg f0 f1 (by omega) (by omega) (by omega) (by omega)
    have k1:=w4.lo;have k2:=w4.hi;have k3:=w4.eh;refine⟨O2,H2,E2,?_,⟨w4.fg,by omega,by omega,by omega⟩⟩
    simp only[go_sem,iH,lS,AC,xA,show((32:Int)==33)=false from rfl,show((32:Int)==31)=false from rfl,hK,hp,show bL [a,b] 0=some a from rfl,w1,show bL [a,b] 1=some b from rfl,w3]
  ·simp only[cia] at xA
   refine Ev.succ (Ev.of fun k fn O H E En la ki pl p y z hg f0 f1 p0 p1 hO hE=>?_);refine⟨O,H,E++[(p,y,3,(i:Int),1)]++[(p,z,3,(i:Int),0)],?_,⟨(hg.zq p0 p1 (fun h=>absurd h (by decide))).zq p0 p1 (fun h=>absurd h (by decide)),by omega,by omega,by simp;omega⟩⟩
   simp only[go_sem,iH,lS,AC,Q6.2 h33,Q6.2 xA.1,Q6.2 xA.2,tw (show E.length≤2000000 by omega),tw (show(E++[(p,y,3,(i:Int),1)]).length≤2000000 by simp;omega)]
end
section
variable {nf M:Nat} {ns:List eu} {A:AS} {G:XS} {Fs:FS}
def CFS(nf M:Nat)(ns:List eu)(A:AS)(G:XS)(Fs:FS)(i:Nat):Prop:=Ev fun k=>∀(fn:Int) (O:XI) (H:XB) (E:ES) (En:XI) (fr to:XI) (p y z:Int),FG nf M O H E→0≤fn→fn<nf→0≤p→p<O.length→O.length+5 * wt ns (i:Int)≤1000000→E.length+5 * wt ns (i:Int)≤1000000→
 ∃ O' H' E',jY k A G Fs ns fn O En H E fr to (i:Int) p y z=some (O',H',E',())∧Sk nf M O E (wt ns (i:Int)) O' H' E'
theorem aaP(fG:jC ns):∀ n i,i<n→i<ns.length→(∀ x,ns[i]? = some x→t7 x.1=true)→CFS nf M ns A G Fs i:=by
 intro n;induction n with
 |zero=>intro i h;omega
 |succ n ih=>
  intro i hi hl hcd;have hx:ns[i]? = some ns[i]:=by simp[hl]
  have hn:=fG i _ hx;have hcd:=hcd _ hx;have hw:=Oi hx hn.cL;have AC:bL ns (i:Int)=some ns[i]:=bq hx;generalize ns[i]=x at *;have JY:∀ j∈x.2.2.2.2,t7 (kd ns j)=true→CFS nf M ns A G Fs j.toNat∧((j.toNat:Nat):Int)=j:=fun j hj hc=>by
   have hj2:=hn.cL j hj;obtain⟨y,e1,e2,e3⟩:=vq (ns:=ns) hj2.1 (by omega)
   exact⟨ih j.toNat (by omega) (by omega) fun y' F7=>by rw[e1] at F7;cases F7;rw[←e2];exact hc,aRa hj2.1⟩
  have dz:=hn.shp;by_cases h33:x.1=33
  ·rw[h33] at dz
   obtain⟨a,hK⟩:∃ a,x.2.2.2.2=[a]:=by
    rcases h:x.2.2.2.2 with _|⟨a,_|⟨b,r⟩⟩
    ·rw[h] at dz;simp[cm] at dz
    ·exact⟨a,rfl⟩
    ·rw[h] at dz;simp[cm] at dz
   rw[hK] at dz;obtain⟨ca,ea⟩:=JY a (by rw[hK];simp) (by simpa[cm] using dz)
   unfold CFS at ca;rw[ea] at ca;rw[hK,ph] at hw;refine Ev.succ (ca.mono fun k e fn O H E En fr to p y z hg f0 f1 p0 p1 hO hE=>?_);obtain⟨O',H',E',w1,w2⟩:=e fn O H E En fr to p z y hg f0 f1 p0 p1 (by omega) (by omega)
   refine⟨O',H',E',?_,⟨w2.fg,w2.lo,by have:=w2.hi;omega,by have:=w2.eh;omega⟩⟩
   simp only[go_sem,jY,nS,AC,h33,hK,show bL [a] 0=some a from rfl,w1]
  by_cases xA:x.1=31∨x.1=32
  ·obtain⟨a,b,hK⟩:∃ a b,x.2.2.2.2=[a,b]:=by
    rcases h:x.2.2.2.2 with _|⟨a,_|⟨b,_|⟨c,r⟩⟩⟩
    ·rcases xA with xA|xA<;>(rw[h,xA] at dz;simp[cm] at dz)
    ·rcases xA with xA|xA<;>(rw[h,xA] at dz;simp[cm] at dz)
    ·exact⟨a,b,rfl⟩
    ·rcases xA with xA|xA<;>(rw[h,xA] at dz;simp[cm] at dz)
   have hab:t7 (kd ns a)=true∧t7 (kd ns b)=true:=by rcases xA with xA|xA<;>(rw[hK,xA] at dz;simpa[cm] using dz)
   obtain⟨ca,ea⟩:=JY a (by rw[hK];simp) hab.1
   obtain⟨cb,eb⟩:=JY b (by rw[hK];simp) hab.2
   unfold CFS at ca cb;rw[ea] at ca;rw[eb] at cb;rw[hK,yC] at hw;refine Ev.succ ((ca.and cb).mono fun k e fn O H E En fr to p y z hg f0 f1 p0 p1 hO hE=>?_);obtain⟨ca,cb⟩:=e;have hp:=rE hg (show O.length≤2000000 by omega) fn false
   rcases xA with xA|xA
   ·obtain⟨O1,H1,E1,w1,w2⟩:=ca fn (O++[fn]) (H++[false]) E En fr to p (O.length:Int) z (hg.oF f0 f1 _) f0 f1 p0 (by simp;omega) (by simp;omega) (by omega)
    have l1:=w2.lo;have l2:=w2.hi;have l3:=w2.eh;simp only[aua,aAa,aza] at l1 l2;obtain⟨O2,H2,E2,w3,w4⟩:=cb fn O1 H1 E1 En fr to (O.length:Int) y z w2.fg f0 f1 (by omega) (by omega) (by omega) (by omega)
    have k1:=w4.lo;have k2:=w4.hi;have k3:=w4.eh;refine⟨O2,H2,E2,?_,⟨w4.fg,by omega,by omega,by omega⟩⟩
    simp only[go_sem,jY,nS,AC,xA,show((31:Int)==33)=false from rfl,hK,hp,show bL [a,b] 0=some a from rfl,w1,show bL [a,b] 1=some b from rfl,w3]
   ·obtain⟨O1,H1,E1,w1,w2⟩:=ca fn (O++[fn]) (H++[false]) E En fr to p y (O.length:Int) (hg.oF f0 f1 _) f0 f1 p0 (by simp;omega) (by simp;omega) (by omega)
    have l1:=w2.lo;have l2:=w2.hi;have l3:=w2.eh;simp only[aua,aAa,aza] at l1 l2;obtain⟨O2,H2,E2,w3,w4⟩:=cb fn O1 H1 E1 En fr to (O.length:Int) y z w2.fg f0 f1 (by omega) (by omega) (by omega) (by omega)
    have k1:=w4.lo;have k2:=w4.hi;have k3:=w4.eh;refine⟨O2,H2,E2,?_,⟨w4.fg,by omega,by omega,by omega⟩⟩
    simp only[go_sem,jY,nS,AC,xA,show((32:Int)==33)=false from rfl,show((32:Int)==31)=false from rfl,hK,hp,show bL [a,b] 0=some a from rfl,w1,show bL [a,b] 1=some b from rfl,w3]
  ·simp only[cia] at xA
   refine Ev.succ (Ev.of fun k fn O H E En fr to p y z hg f0 f1 p0 p1 hO hE=>?_);refine⟨O,H,E++[(p,y,3,(i:Int),1)]++[(p,z,3,(i:Int),0)],?_,⟨(hg.zq p0 p1 (fun h=>absurd h (by decide))).zq p0 p1 (fun h=>absurd h (by decide)),by omega,by omega,by simp;omega⟩⟩
   simp only[go_sem,jY,nS,AC,Q6.2 h33,Q6.2 xA.1,Q6.2 xA.2,uF (show E.length≤2000000 by omega),uF (show(E++[(p,y,3,(i:Int),1)]).length≤2000000 by simp;omega)]
end
end Go.Fx.R5
namespace Go.Fx.R5
open Go Go.Fx
def Uq(ns:List eu)(M:Nat)(pl:XI):Prop:=∀(j:Nat) (x:eu),ns[j]? = some x→x.1=23→∃ v,pl[j]? = some v∧0≤v∧v<(M:Int)
structure abZ(nf M:Nat)(O:XI)(E:ES)(w:Nat)(O':XI)(H':XB)(E':ES):Prop where
 fg:FG nf M O' H' E'
 lo:O.length≤O'.length
 hi:O'.length+1≤O.length+5 * w
 eh:E'.length+1≤E.length+5 * w
theorem EY(ns:List eu)(a:Int)(l:XI):jQ ns (a::l)=wt ns a+jQ ns l:=by simp[jQ]
section
variable {nf M:Nat} {ns:List eu} {A:AS} {G:XS} {Fs:FS}
theorem S6(k:Nat):jO (k+1)=ni (jO k) (gG k) k:=rfl
theorem ul(k:Nat):gG (k+1)=cZ (jO k) (gG k) k:=rfl
def SFI(nf M:Nat)(ns:List eu)(A:AS)(G:XS)(Fs:FS)(i:Nat):Prop:=Ev fun k=>∀(ki pl:XI),Uq ns M pl→∀(fn:Int) (O:XI) (H:XB) (E:ES) (En:XI) (la:SPS) (p q:Int),FG nf M O H E→0≤fn→fn<nf→0≤p→p<O.length→la.length=ns.length→O.length+5 * wt ns (i:Int)≤1000000→E.length+5 * wt ns (i:Int)≤1000000→
 ∃ O' H' E' la',gG k fn O En H E la ns A G Fs ki pl [] [] [] [] [] [] [] (i:Int) p q=some (O',H',E',la',())∧abZ nf M O E (wt ns (i:Int)) O' H' E'∧la'.length=ns.length
def BFI(nf M:Nat)(ns:List eu)(A:AS)(G:XS)(Fs:FS)(i:Nat):Prop:=Ev fun k=>∀(ki pl:XI),Uq ns M pl→∀(fn:Int) (O:XI) (H:XB) (E:ES) (En:XI) (la:SPS) (p q:Int),FG nf M O H E→0≤fn→fn<nf→0≤p→p<O.length→la.length=ns.length→O.length+5 * wt ns (i:Int)≤1000000→E.length+5 * wt ns (i:Int)≤1000000→
 ∃ O' H' E' la',jO k fn O En H E la ns A G Fs ki pl [] [] [] [] [] [] [] (i:Int) p q=some (O',H',E',la',())∧Sk nf M O E (wt ns (i:Int)) O' H' E'∧la'.length=ns.length
theorem Sr{K:XI}(Aq:K.length≤5000)(t6:∀ j∈K,1≤wt ns j)(hK:∀ j∈K,((j.toNat:Nat):Int)=j∧SFI nf M ns A G Fs j.toNat):∀ m s,m+s=K.length→cz fun qq k=>∀(ki pl:XI),Uq ns M pl→∀(fn:Int) (O:XI) (H:XB) (E:ES) (En:XI) (la:SPS) (p q:Int),FG nf M O H E→0≤fn→fn<nf→(s<K.length→0≤p∧p<O.length)→la.length=ns.length→
  O.length+5 * jQ ns (K.drop s)≤1000000→E.length+5 * jQ ns (K.drop s)≤1000000→
  ∃ O' H' E' la',ic (jO qq) (gG qq) qq k ns A G Fs ki pl [] [] [] [] [] [] [] fn En q K K (K.length:Int) O H E la p (s:Int)=some (O',H',E',la',())∧Sk nf M O E (jQ ns (K.drop s)) O' H' E'∧la'.length=ns.length
 |0,s,h=>by
  have h2:¬ s<K.length:=by omega
  refine cz.succ (cz.of fun qq k ki pl wC fn O H E En la p q hg f0 f1 hp LZ hO hE=>⟨O,H,E,la,?_,⟨hg,by omega,by omega,by omega⟩,LZ⟩)
  simp only[go_sem,ic,Q5,h2]
 |m+1,s,h=>by
  have bf:s<K.length:=by omega
  have hd:K.drop s=K[s]::K.drop (s+1):=aLa bf;obtain⟨ej,hj⟩:=hK _ (aQa bf);have hks:jQ ns (K.drop s)=wt ns K[s]+jQ ns (K.drop (s+1)):=by rw[hd,EY]
  unfold SFI at hj;rw[ej] at hj;refine cz.succ ((hj.tn.and (Sr Aq t6 hK m (s+1) (by omega))).mono fun qq k e ki pl wC fn O H E En la p q hg f0 f1 hp LZ hO hE=>?_)
  obtain⟨e1,e2⟩:=e;obtain⟨p0,p1⟩:=hp bf;have hw1:bC ((K.length:Int) - 1)=((K.length - 1:Nat):Int):=by rw[bF (by omega) (by omega)];omega
  rw[hks] at hO hE;by_cases hl:s<K.length - 1
  ·have hpt:=qn hg (show O.length≤2000000 by omega) fn false
   have BM:=hg.oF f0 f1 false;by_cases aa0:(O++[fn]).length+5 * wt ns K[s]≤1000000
   ·obtain⟨O1,H1,E1,la1,w1,w2,w3⟩:=e1 ki pl wC fn (O++[fn]) (H++[false]) E En la p (O.length:Int) BM f0 f1 p0 (by simp;omega) LZ aa0 (by omega)
    have l1:=w2.lo;have l2:=w2.hi;have l3:=w2.eh;simp only[aua,aAa,aza] at l1 l2;obtain⟨O2,H2,E2,la2,w4,w5,w6⟩:=e2 ki pl wC fn O1 H1 E1 En la1 (O.length:Int) q w2.fg f0 f1 (fun _=>⟨by omega,by omega⟩) w3 (by omega) (by omega)
    have k1:=w5.lo;have k2:=w5.hi;have k3:=w5.eh;refine⟨O2,H2,E2,la2,?_,⟨w5.fg,by omega,by rw[hks];omega,by rw[hks];omega⟩,w6⟩
    simp only[go_sem,ic,aa,Q5,bf,cF bf,hw1,hl,hpt,w1,ag (show s<_ by omega),w4]
   ·exfalso
    simp only[aua,aAa,aza] at aa0;have Y0:s+1<K.length:=by omega
    have hd2:K.drop (s+1)=K[s+1]::K.drop (s+1+1):=aLa Y0;rw[hd2,EY] at hO;have:=t6 K[s+1] (aQa Y0);omega
  ·obtain⟨O1,H1,E1,la1,w1,w2,w3⟩:=e1 ki pl wC fn O H E En la p q hg f0 f1 p0 p1 LZ (by omega) (by omega)
   have l1:=w2.lo;have l2:=w2.hi;have l3:=w2.eh;obtain⟨O2,H2,E2,la2,w4,w5,w6⟩:=e2 ki pl wC fn O1 H1 E1 En la1 q q w2.fg f0 f1 (fun hh=>by omega) w3 (by omega) (by omega)
   have k1:=w5.lo;have k2:=w5.hi;have k3:=w5.eh;refine⟨O2,H2,E2,la2,?_,⟨w5.fg,by omega,by rw[hks];omega,by rw[hks];omega⟩,w6⟩
   simp only[go_sem,ic,aa,Q5,bf,cF bf,hw1,hl,w1,ag (show s<_ by omega),w4]
theorem acX{i:Nat}{x:eu}(hx:ns[i]? = some x)(hn:oo ns i x)(hw:wt ns (i:Int)=1+jQ ns x.2.2.2.2)(t6:∀ j∈x.2.2.2.2,1≤wt ns j)(hK:∀ j∈x.2.2.2.2,((j.toNat:Nat):Int)=j∧SFI nf M ns A G Fs j.toNat):BFI nf M ns A G Fs i:=by
 refine Ev.succ ((Sr (by have:=hn.nm.2;omega) t6 hK x.2.2.2.2.length 0 rfl).j9.mono fun k e ki pl wC fn O H E En la p q hg f0 f1 p0 p1 LZ hO hE=>?_)
 rw[bPa] at e;by_cases h0:x.2.2.2.2.length=0
 ·refine⟨O,H,E++[(p,q,1,-1,0)],la,?_,⟨hg.zq p0 p1 (fun h=>absurd h (by decide)),by omega,by omega,by simp;omega⟩,LZ⟩
  simp only[go_sem,S6,ni,bq hx,h0,show(((0:Nat):Int)==0)=true from rfl,tw (show E.length≤2000000 by omega)]
 ·obtain⟨O',H',E',la',w1,w2,w3⟩:=e ki pl wC fn O H E En la p q hg f0 f1 (fun _=>⟨p0,p1⟩) LZ (by omega) (by omega)
  refine⟨O',H',E',la',?_,⟨w2.fg,w2.lo,by have:=w2.hi;omega,by have:=w2.eh;omega⟩,w3⟩
  have w1:ic (jO k) (gG k) k k ns A G Fs ki pl [] [] [] [] [] [] [] fn En q x.2.2.2.2 x.2.2.2.2 (x.2.2.2.2.length:Int) O H E la p 0=_:=w1;simp only[go_sem,S6,ni,bq hx,show((x.2.2.2.2.length:Int)==0)=false from Q6.2 (by omega),w1]
theorem adZ(fG:jC ns){i:Nat}{x:eu}(hx:ns[i]? = some x)(hn:oo ns i x)(hw:wt ns (i:Int)=1+jQ ns x.2.2.2.2)(IH:∀ j∈x.2.2.2.2,((j.toNat:Nat):Int)=j∧(kd ns j=8→BFI nf M ns A G Fs j.toNat)):SFI nf M ns A G Fs i:=by
 have dz:=hn.shp;have AC:bL ns (i:Int)=some x:=bq hx;have FJ:i<ns.length:=(ama.1 hx).1;have ON:∀(la:SPS) (v:Int×Int×Int×Int),la.length=ns.length→∃ y,bL la (i:Int)=some y∧(la.set i v).length=ns.length:=fun la v LZ=>⟨la[i]'(by omega),cF (by omega),by simp[LZ]⟩
 have Nn:∀ j∈x.2.2.2.2,t7 (kd ns j)=true→((j.toNat:Nat):Int)=j∧CFI nf M ns A G Fs j.toNat:=fun j hj hc=>by
  have hj2:=hn.cL j hj;obtain⟨y,e1,e2,e3⟩:=vq (ns:=ns) hj2.1 (by omega)
  exact⟨aRa hj2.1,aaO fG (j.toNat+1) j.toNat (by omega) (by omega) fun y' F7=>by rw[e1] at F7;cases F7;rw[←e2];exact hc⟩
 by_cases h14:x.1=14
 ·rw[h14] at dz
  have hb:∃ a b r,x.2.2.2.2=a::b::r∧t7 (kd ns a)=true∧kd ns b=8∧(r=[]∨∃ c,r=[c]∧kd ns c=8):=by
   rcases h:x.2.2.2.2 with _|⟨a,_|⟨b,_|⟨c,_|⟨d,r⟩⟩⟩⟩
   ·rw[h] at dz;simp[cm] at dz
   ·rw[h] at dz;simp[cm] at dz
   ·rw[h] at dz;simp[cm] at dz;exact⟨a,b,[],rfl,dz.1,dz.2,.inl rfl⟩
   ·rw[h] at dz;simp[cm] at dz;exact⟨a,b,[c],rfl,dz.1.1,dz.1.2,.inr ⟨c,rfl,dz.2⟩⟩
   ·rw[h] at dz;simp[cm] at dz
  obtain⟨a,b,r,hK,ha,hb,hr⟩:=hb;obtain⟨ea,ca⟩:=Nn a (by rw[hK];simp) ha
  obtain⟨eb,cb⟩:=IH b (by rw[hK];simp)
  have cb:=cb hb;unfold CFI at ca;unfold BFI at cb;rw[ea] at ca;rw[eb] at cb;rcases hr with rfl|⟨c,rfl,hc8⟩
  ·rw[hK,yC] at hw
   refine Ev.succ ((ca.and cb).mono fun k e ki pl wC fn O H E En la p q hg f0 f1 p0 p1 LZ hO hE=>?_);obtain⟨ca,cb⟩:=e;have hp:=qn hg (show O.length≤2000000 by omega) fn false
   obtain⟨O1,H1,E1,w1,w2⟩:=ca fn (O++[fn]) (H++[false]) E En la ki pl p (O.length:Int) q (hg.oF f0 f1 _) f0 f1 p0 (by simp;omega) (by simp;omega) (by omega)
   have l1:=w2.lo;have l2:=w2.hi;have l3:=w2.eh;simp only[aua,aAa,aza] at l1 l2;obtain⟨O2,H2,E2,la2,w3,w4,w5⟩:=cb ki pl wC fn O1 H1 E1 En la (O.length:Int) q w2.fg f0 f1 (by omega) (by omega) LZ (by omega) (by omega)
   have k1:=w4.lo;have k2:=w4.hi;have k3:=w4.eh;obtain⟨y,y1,y2⟩:=ON la2 (p,q,(O.length:Int),q) w5;refine⟨O2,H2,E2,la2.set i (p,q,(O.length:Int),q),?_,⟨w4.fg,by omega,by omega,by omega⟩,y2⟩
   simp only[go_sem,ul,cZ,aa,AC,h14,hp,hK,aAa,aza,show(((0+1+1:Nat):Int)==3)=false from rfl,show bL [a,b] 0=some a from rfl,w1,show bL [a,b] 1=some b from rfl,w3,aDa,y1]
  ·obtain⟨ec,cc⟩:=IH c (by rw[hK];simp)
   have cc:=cc hc8;unfold BFI at cc;rw[ec] at cc;rw[hK,PP] at hw;refine Ev.succ ((ca.and (cb.and cc)).mono fun k e ki pl wC fn O H E En la p q hg f0 f1 p0 p1 LZ hO hE=>?_);obtain⟨ca,cb,cc⟩:=e;have hp:=qn hg (show O.length≤2000000 by omega) fn false
   have BM:=hg.oF f0 f1 false;have HG:=qn BM (show(O++[fn]).length≤2000000 by simp;omega) fn false
   have LX:=BM.oF f0 f1 false;obtain⟨O1,H1,E1,w1,w2⟩:=ca fn (O++[fn]++[fn]) (H++[false]++[false]) E En la ki pl p (O.length:Int) ((O++[fn]).length:Int) LX f0 f1 p0 (by simp;omega) (by simp;omega) (by omega)
   have l1:=w2.lo;have l2:=w2.hi;have l3:=w2.eh;simp only[aua,aAa,aza] at l1 l2;obtain⟨O2,H2,E2,la2,w3,w4,w5⟩:=cb ki pl wC fn O1 H1 E1 En la (O.length:Int) q w2.fg f0 f1 (by omega) (by omega) LZ (by omega) (by omega)
   have k1:=w4.lo;have k2:=w4.hi;have k3:=w4.eh;obtain⟨O3,H3,E3,la3,w6,w7,w8⟩:=cc ki pl wC fn O2 H2 E2 En la2 ((O++[fn]).length:Int) q w4.fg f0 f1 (by omega) (by simp;omega) w5 (by omega) (by omega)
   have j1:=w7.lo;have j2:=w7.hi;have j3:=w7.eh;obtain⟨y,y1,y2⟩:=ON la3 (p,q,(O.length:Int),((O++[fn]).length:Int)) w8;refine⟨O3,H3,E3,la3.set i (p,q,(O.length:Int),((O++[fn]).length:Int)),?_,⟨w7.fg,by omega,by omega,by omega⟩,y2⟩
   simp only[go_sem,ul,cZ,aa,AC,h14,hp,HG,hK,show((([a,b,c]:XI).length:Int)==3)=true from rfl,show bL [a,b,c] 0=some a from rfl,w1,show bL [a,b,c] 1=some b from rfl,w3,show bL [a,b,c] 2=some c from rfl,w6,aDa,y1]
 by_cases h15:x.1=15
 ·rw[h15] at dz
  obtain⟨a,b,hK,ha,hb⟩:∃ a b,x.2.2.2.2=[a,b]∧t7 (kd ns a)=true∧kd ns b=8:=by
   rcases h:x.2.2.2.2 with _|⟨a,_|⟨b,_|⟨c,r⟩⟩⟩
   ·rw[h] at dz;simp[cm] at dz
   ·rw[h] at dz;simp[cm] at dz
   ·rw[h] at dz;simp[cm] at dz;exact⟨a,b,rfl,dz.1,dz.2⟩
   ·rw[h] at dz;simp[cm] at dz
  obtain⟨ea,ca⟩:=Nn a (by rw[hK];simp) ha
  obtain⟨eb,cb⟩:=IH b (by rw[hK];simp)
  have cb:=cb hb;unfold CFI at ca;unfold BFI at cb;rw[ea] at ca;rw[eb] at cb;rw[hK,yC] at hw;refine Ev.succ ((ca.and cb).mono fun k e ki pl wC fn O H E En la p q hg f0 f1 p0 p1 LZ hO hE=>?_);obtain⟨ca,cb⟩:=e;have hp:=qn hg (show O.length≤2000000 by omega) fn true
  have BM:=hg.oF f0 f1 true;have HG:=qn BM (show(O++[fn]).length≤2000000 by simp;omega) fn false
  have LX:=(BM.oF f0 f1 false).zq (f:=p) (t:=(O.length:Int)) (k:=1) (n:=-1) (a:=0) p0 (by simp<;>omega) (fun h=>absurd h (by decide))
  obtain⟨O1,H1,E1,w1,w2⟩:=ca fn (O++[fn]++[fn]) (H++[true]++[false]) (E++[(p,(O.length:Int),1,-1,0)]) En la ki pl (O.length:Int) ((O++[fn]).length:Int) q LX f0 f1 (by omega) (by simp;omega) (by simp;omega) (by simp;omega)
  have l1:=w2.lo;have l2:=w2.hi;have l3:=w2.eh;simp only[aua,aAa,aza] at l1 l2 l3;obtain⟨O2,H2,E2,la2,w3,w4,w5⟩:=cb ki pl wC fn O1 H1 E1 En la ((O++[fn]).length:Int) (O.length:Int) w2.fg f0 f1 (by omega) (by simp;omega) LZ (by omega) (by omega)
  have k1:=w4.lo;have k2:=w4.hi;have k3:=w4.eh;obtain⟨y,y1,y2⟩:=ON la2 (p,q,((O++[fn]).length:Int),q) w5;refine⟨O2,H2,E2,la2.set i (p,q,((O++[fn]).length:Int),q),?_,⟨w4.fg,by omega,by omega,by omega⟩,y2⟩
  simp only[go_sem,ul,cZ,aa,AC,h15,show((15:Int)==14)=false from rfl,hp,HG,tw (show E.length≤2000000 by omega),hK,show bL [a,b] 0=some a from rfl,w1,show bL [a,b] 1=some b from rfl,w3,aDa,y1]
 by_cases F3:x.1=16
 ·rw[F3] at dz
  obtain⟨a,b,c,hK,hb⟩:∃ a b c,x.2.2.2.2=[a,b,c]∧kd ns c=8:=by
   rcases h:x.2.2.2.2 with _|⟨a,_|⟨b,_|⟨c,_|⟨d,r⟩⟩⟩⟩
   ·rw[h] at dz;simp[cm] at dz
   ·rw[h] at dz;simp[cm] at dz
   ·rw[h] at dz;simp[cm] at dz
   ·rw[h] at dz;simp[cm] at dz;exact⟨a,b,c,rfl,dz.2⟩
   ·rw[h] at dz;simp[cm] at dz
  obtain⟨ec,cc⟩:=IH c (by rw[hK];simp)
  have cc:=cc hb;unfold BFI at cc;rw[ec] at cc;rw[hK,PP] at hw;refine Ev.succ (cc.mono fun k cc ki pl wC fn O H E En la p q hg f0 f1 p0 p1 LZ hO hE=>?_);have hp:=qn hg (show O.length≤2000000 by omega) fn true
  have BM:=hg.oF f0 f1 true;have HG:=qn BM (show(O++[fn]).length≤2000000 by simp;omega) fn false
  have LX:=BM.oF f0 f1 false;have hg3:=LX.zq (f:=p) (t:=(O.length:Int)) (k:=8) (n:=(i:Int)) (a:=0) p0 (by simp<;>omega) (fun h=>absurd h (by decide))
  have hg4:=hg3.zq (f:=(O.length:Int)) (t:=((O++[fn]).length:Int)) (k:=9) (n:=(i:Int)) (a:=1) (by omega) (by simp<;>omega) (fun h=>absurd h (by decide))
  have hg5:=hg4.zq (f:=(O.length:Int)) (t:=q) (k:=9) (n:=(i:Int)) (a:=0) (by omega) (by simp<;>omega) (fun h=>absurd h (by decide))
  have hp3:=qn hg5 (show(O++[fn]++[fn]).length≤2000000 by simp;omega) fn false
  have hg6:=hg5.oF f0 f1 false;obtain⟨O2,H2,E2,la2,w3,w4,w5⟩:=cc ki pl wC fn _ _ _ En la ((O++[fn]).length:Int) ((O++[fn]++[fn]).length:Int) hg6 f0 f1 (by simp<;>omega) (by simp<;>omega) LZ (by simp<;>omega) (by simp<;>omega)
  have k1:=w4.lo;have k2:=w4.hi;have k3:=w4.eh;simp only[aua,aAa,aza] at k1 k2 k3;obtain⟨y,y1,y2⟩:=ON la2 (p,q,((O++[fn]).length:Int),q) w5;refine⟨O2,H2,E2++[(((O++[fn]++[fn]).length:Int),(O.length:Int),10,(i:Int),0)],la2.set i (p,q,((O++[fn]).length:Int),q),?_,⟨w4.fg.zq (by omega) (by simp;omega) (fun h=>absurd h (by decide)),by omega,by omega,by simp;omega⟩,y2⟩
  simp only[go_sem,ul,cZ,aa,AC,F3,show((16:Int)==14)=false from rfl,show((16:Int)==15)=false from rfl,hp,HG,tw (show E.length≤2000000 by omega),tw (show(E++[(p,(O.length:Int),8,(i:Int),0)]).length≤2000000 by simp;omega),tw (show(E++[(p,(O.length:Int),8,(i:Int),0)]++[((O.length:Int),((O++[fn]).length:Int),9,(i:Int),1)]).length≤2000000 by simp;omega),hp3,hK,show bL [a,b,c] 2=some c from rfl,w3,tw (show E2.length≤2000000 by omega),aDa,y1]
 by_cases h19:x.1=19
 ·rw[h19] at dz
  obtain⟨a,hK,ha⟩:∃ a,x.2.2.2.2=[a]∧t7 (kd ns a)=true:=by
   rcases h:x.2.2.2.2 with _|⟨a,_|⟨b,r⟩⟩
   ·rw[h] at dz;simp[cm] at dz
   ·rw[h] at dz;simp[cm] at dz;exact⟨a,rfl,dz⟩
   ·rw[h] at dz;simp[cm] at dz
  obtain⟨ea,ca⟩:=Nn a (by rw[hK];simp) ha
  unfold CFI at ca;rw[ea] at ca;rw[hK,ph] at hw;refine Ev.succ (ca.mono fun k ca ki pl wC fn O H E En la p q hg f0 f1 p0 p1 LZ hO hE=>?_);have hp:=qn hg (show O.length≤2000000 by omega) fn false
  obtain⟨O1,H1,E1,w1,w2⟩:=ca fn (O++[fn]) (H++[false]) E En la ki pl p q (O.length:Int) (hg.oF f0 f1 _) f0 f1 p0 (by simp;omega) (by simp;omega) (by omega)
  have l1:=w2.lo;have l2:=w2.hi;have l3:=w2.eh;simp only[aua,aAa,aza] at l1 l2;obtain⟨y,y1,y2⟩:=ON la (p,q,q,(O.length:Int)) LZ;refine⟨O1,H1,E1++[((O.length:Int),(O.length:Int),4,(i:Int),0)],la.set i (p,q,q,(O.length:Int)),?_,⟨w2.fg.zq (by omega) (by omega) (fun h=>absurd h (by decide)),by omega,by omega,by simp;omega⟩,y2⟩
  simp only[go_sem,ul,cZ,aa,AC,h19,show((19:Int)==14)=false from rfl,show((19:Int)==15)=false from rfl,show((19:Int)==16)=false from rfl,hp,hK,show bL [a] 0=some a from rfl,w1,tw (show E1.length≤2000000 by omega),aDa,y1]
 have one:∀(mk:XI→Int→Int→Int×Int×Int×Int×Int),(∀ pl p q,Uq ns M pl→(mk pl p q).1=p∧((mk pl p q).2.2.1=5→0≤(mk pl p q).2.2.2.2∧(mk pl p q).2.2.2.2<(M:Int)))→
   (∀ k ki pl fn O H E En la p q y,Uq ns M pl→E.length≤2000000→bL la (i:Int)=some y→gG (k+1) fn O En H E la ns A G Fs ki pl [] [] [] [] [] [] [] (i:Int) p q=some (O,H,E++[mk pl p q],la.set i (p,q,0,0),()))→SFI nf M ns A G Fs i:=fun mk h1 h2=>
  Ev.succ (Ev.of fun k ki pl wC fn O H E En la p q hg f0 f1 p0 p1 LZ hO hE=>by
   obtain⟨y,y1,y2⟩:=ON la (p,q,0,0) LZ;obtain⟨g1,g2⟩:=h1 pl p q wC;refine⟨O,H,E++[mk pl p q],_,h2 k ki pl fn O H E En la p q y wC (by omega) y1,⟨?_,by omega,by omega,by simp;omega⟩,y2⟩
   have:=hg.zq (f:=(mk pl p q).1) (t:=(mk pl p q).2.1) (k:=(mk pl p q).2.2.1) (n:=(mk pl p q).2.2.2.1) (a:=(mk pl p q).2.2.2.2) (by rw[g1];exact p0) (by rw[g1];exact p1) g2
   exact this)
 have n14:=Q6.2 h14;have n15:=Q6.2 h15;have n16:=Q6.2 F3;have n19:=Q6.2 h19;by_cases h21:x.1=21
 ·refine one (fun _ p q=>(p,p,6,(i:Int),0)) (fun pl p q _=>⟨rfl,fun h=>by simp at h⟩) (fun k ki pl fn O H E En la p q y _ hE hy=>?_)
  simp only[go_sem,ul,cZ,aa,AC,h21,show((21:Int)==14)=false from rfl,show((21:Int)==15)=false from rfl,show((21:Int)==16)=false from rfl,show((21:Int)==19)=false from rfl,tw hE,aDa,hy]
 have n21:=Q6.2 h21;by_cases h20:x.1=20
 ·refine one (fun _ p q=>(p,p,7,(i:Int),0)) (fun pl p q _=>⟨rfl,fun h=>by simp at h⟩) (fun k ki pl fn O H E En la p q y _ hE hy=>?_)
  simp only[go_sem,ul,cZ,aa,AC,h20,show((20:Int)==14)=false from rfl,show((20:Int)==15)=false from rfl,show((20:Int)==16)=false from rfl,show((20:Int)==19)=false from rfl,show((20:Int)==21)=false from rfl,tw hE,aDa,hy]
 have n20:=Q6.2 h20;by_cases D6:x.1=22
 ·rw[D6] at dz
  obtain⟨u,r,hK,hu⟩:∃ u r,x.2.2.2.2=u::r∧kd ns u=23:=by
   cases h:x.2.2.2.2 with
   |nil=>rw[h] at dz;simp[cm] at dz
   |cons u r=>rw[h] at dz;simp[cm] at dz;exact⟨u,r,rfl,dz.1⟩
  have hu2:=hn.cL u (by rw[hK];simp)
  obtain⟨y,e1,e2,e3⟩:=vq (ns:=ns) hu2.1 (by omega)
  refine one (fun pl p q=>(p,q,5,(i:Int),(pl[u.toNat]?).getD 0)) (fun pl p q wC=>?_) (fun k ki pl fn O H E En la p q y' wC hE hy=>?_)
  ·obtain⟨v,v1,v2,v3⟩:=wC u.toNat y e1 (by rw[←e2];exact hu)
   refine⟨rfl,fun _=>?_⟩;simp only[v1,cca];exact⟨v2,v3⟩
  obtain⟨v,v1,v2,v3⟩:=wC u.toNat y e1 (by rw[←e2];exact hu)
  have iu:bL pl u=some v:=by rw[←aRa hu2.1];exact bq v1
  have iu2:bL pl ((u.toNat:Nat):Int)=some v:=bq v1;simp only[v1,cca];simp only[go_sem,ul,cZ,aa,AC,D6,show((22:Int)==14)=false from rfl,show((22:Int)==15)=false from rfl,show((22:Int)==16)=false from rfl,show((22:Int)==19)=false from rfl,show((22:Int)==21)=false from rfl,show((22:Int)==20)=false from rfl,hK,show bL (u::r) 0=some u from rfl,iu,iu2,tw hE,aDa,hy]
 have n22:=Q6.2 D6;refine one (fun _ p q=>(p,q,2,(i:Int),0)) (fun pl p q _=>⟨rfl,fun h=>by simp at h⟩) (fun k ki pl fn O H E En la p q y _ hE hy=>?_)
 simp only[go_sem,ul,cZ,aa,AC,n14,n15,n16,n19,n21,n20,n22,tw hE,aDa,hy]
theorem Xe(fG:jC ns):∀ n i,i<n→i<ns.length→(kd ns (i:Int)=8→BFI nf M ns A G Fs i)∧SFI nf M ns A G Fs i:=by
 intro n;induction n with
 |zero=>intro i h;omega
 |succ n ih=>
  intro i hi hl;have hx:ns[i]? = some ns[i]:=by simp[hl]
  have hn:=fG i _ hx;have hw:=Oi hx hn.cL;have JY:∀ j∈ns[i].2.2.2.2,((j.toNat:Nat):Int)=j∧j.toNat<n∧j.toNat<ns.length:=fun j hj=>by have:=hn.cL j hj;exact⟨aRa this.1,by omega,by omega⟩
  refine⟨fun h8=>acX hx hn hw (fun j hj=>?_) fun j hj=>⟨(JY j hj).1,(ih j.toNat (JY j hj).2.1 (JY j hj).2.2).2⟩,adZ fG hx hn hw fun j hj=>⟨(JY j hj).1,fun h8=>(ih j.toNat (JY j hj).2.1 (JY j hj).2.2).1 (by rw[(JY j hj).1];exact h8)⟩⟩
  have hj:=hn.cL j hj;obtain⟨y,e1,e2,e3⟩:=vq (ns:=ns) hj.1 (by omega)
  have:=Oi e1 (fG _ _ e1).cL;rw[aRa hj.1] at this;omega
end
end Go.Fx.R5
namespace Go.Fx.R5
open Go Go.Fx
section
variable {nf M:Nat} {ns:List eu} {A:AS} {G:XS} {Fs:FS}
theorem T3(k:Nat):jl (k+1)=pd (jl k) (jZ k) (mQ k) k:=rfl
theorem uG(k:Nat):jZ (k+1)=gk (jl k) (jZ k) (mQ k) k:=rfl
theorem T4(k:Nat):mQ (k+1)=pZ (jl k) (jZ k) (mQ k) k:=rfl
def SFS(nf M:Nat)(ns:List eu)(A:AS)(G:XS)(Fs:FS)(i:Nat):Prop:=Ev fun k=>∀(fn:Int) (O:XI) (H:XB) (E:ES) (En:XI) (fr to:XI) (p q:Int),FG nf M O H E→0≤fn→fn<nf→0≤p→p<O.length→fr.length=ns.length→to.length=ns.length→O.length+5 * wt ns (i:Int)≤1000000→E.length+5 * wt ns (i:Int)≤1000000→
 ∃ O' H' E' Pz to',jZ k A G Fs ns fn O En H E fr to (i:Int) p q=some (O',H',E',Pz,to',())∧abZ nf M O E (wt ns (i:Int)) O' H' E'∧Pz.length=ns.length∧to'.length=ns.length
def BFS(nf M:Nat)(ns:List eu)(A:AS)(G:XS)(Fs:FS)(i:Nat):Prop:=Ev fun k=>∀(fn:Int) (O:XI) (H:XB) (E:ES) (En:XI) (fr to:XI) (p q:Int),FG nf M O H E→0≤fn→fn<nf→0≤p→p<O.length→fr.length=ns.length→to.length=ns.length→O.length+5 * wt ns (i:Int)≤1000000→E.length+5 * wt ns (i:Int)≤1000000→
 ∃ O' H' E' Pz to',jl k A G Fs ns fn O En H E fr to (i:Int) p q=some (O',H',E',Pz,to',())∧Sk nf M O E (wt ns (i:Int)) O' H' E'∧Pz.length=ns.length∧to'.length=ns.length
theorem Ss{K:XI}(Aq:K.length≤5000)(t6:∀ j∈K,1≤wt ns j)(hK:∀ j∈K,((j.toNat:Nat):Int)=j∧SFS nf M ns A G Fs j.toNat):∀ m s,m+s=K.length→cz fun qq k=>∀(fn:Int) (O:XI) (H:XB) (E:ES) (En:XI) (fr to:XI) (p q:Int),FG nf M O H E→0≤fn→fn<nf→(s<K.length→0≤p∧p<O.length)→fr.length=ns.length→to.length=ns.length→
  O.length+5 * jQ ns (K.drop s)≤1000000→E.length+5 * jQ ns (K.drop s)≤1000000→
  ∃ O' H' E' Pz to',iv (jl qq) (jZ qq) (mQ qq) qq k A G Fs ns fn En q K O H E fr to p (s:Int)=some (O',H',E',Pz,to',())∧Sk nf M O E (jQ ns (K.drop s)) O' H' E'∧Pz.length=ns.length∧to'.length=ns.length
 |0,s,h=>by
  have h2:¬ s<K.length:=by omega
  refine cz.succ (cz.of fun qq k fn O H E En fr to p q hg f0 f1 hp tZ Jj hO hE=>⟨O,H,E,fr,to,?_,⟨hg,by omega,by omega,by omega⟩,tZ,Jj⟩)
  simp only[go_sem,iv,Q5,h2]
 |m+1,s,h=>by
  have bf:s<K.length:=by omega
  have hd:K.drop s=K[s]::K.drop (s+1):=aLa bf;obtain⟨ej,hj⟩:=hK _ (aQa bf);have hks:jQ ns (K.drop s)=wt ns K[s]+jQ ns (K.drop (s+1)):=by rw[hd,EY]
  unfold SFS at hj;rw[ej] at hj;refine cz.succ ((hj.tn.and (Ss Aq t6 hK m (s+1) (by omega))).mono fun qq k e fn O H E En fr to p q hg f0 f1 hp tZ Jj hO hE=>?_)
  obtain⟨e1,e2⟩:=e;obtain⟨p0,p1⟩:=hp bf;rw[hks] at hO hE;by_cases hl:s+1<K.length
  ·have hpt:=rE hg (show O.length≤2000000 by omega) fn false
   have BM:=hg.oF f0 f1 false;have hd2:K.drop (s+1)=K[s+1]::K.drop (s+1+1):=aLa hl;have hk2:1≤jQ ns (K.drop (s+1)):=by rw[hd2,EY];have:=t6 K[s+1] (aQa hl);omega
   obtain⟨O1,H1,E1,fr1,to1,w1,w2,w3,w3'⟩:=e1 fn (O++[fn]) (H++[false]) E En fr to p (O.length:Int) BM f0 f1 p0 (by simp;omega) tZ Jj (by simp;omega) (by omega)
   have l1:=w2.lo;have l2:=w2.hi;have l3:=w2.eh;simp only[aua,aAa,aza] at l1 l2;obtain⟨O2,H2,E2,fr2,Db,w4,w5,w6,w6'⟩:=e2 fn O1 H1 E1 En fr1 to1 (O.length:Int) q w2.fg f0 f1 (fun _=>⟨by omega,by omega⟩) w3 w3' (by omega) (by omega)
   have k1:=w5.lo;have k2:=w5.hi;have k3:=w5.eh;refine⟨O2,H2,E2,fr2,Db,?_,⟨w5.fg,by omega,by rw[hks];omega,by rw[hks];omega⟩,w6,w6'⟩
   simp only[go_sem,iv,aa,Q5,bf,cF bf,ag (show s<_ by omega),hl,hpt,w1,w4]
  ·obtain⟨O1,H1,E1,fr1,to1,w1,w2,w3,w3'⟩:=e1 fn O H E En fr to p q hg f0 f1 p0 p1 tZ Jj (by omega) (by omega)
   have l1:=w2.lo;have l2:=w2.hi;have l3:=w2.eh;obtain⟨O2,H2,E2,fr2,Db,w4,w5,w6,w6'⟩:=e2 fn O1 H1 E1 En fr1 to1 q q w2.fg f0 f1 (fun hh=>by omega) w3 w3' (by omega) (by omega)
   have k1:=w5.lo;have k2:=w5.hi;have k3:=w5.eh;refine⟨O2,H2,E2,fr2,Db,?_,⟨w5.fg,by omega,by rw[hks];omega,by rw[hks];omega⟩,w6,w6'⟩
   simp only[go_sem,iv,aa,Q5,bf,cF bf,ag (show s<_ by omega),hl,w1,w4]
theorem at_len{α:Type}{l:List α}{i n:Nat}(hl:l.length=n)(hi:i<n):∃ y,bL l (i:Int)=some y:=⟨l[i]'(by omega),cF (by omega)⟩
theorem acY{i:Nat}{x:eu}(hx:ns[i]? = some x)(hn:oo ns i x)(hw:wt ns (i:Int)=1+jQ ns x.2.2.2.2)(t6:∀ j∈x.2.2.2.2,1≤wt ns j)(hK:∀ j∈x.2.2.2.2,((j.toNat:Nat):Int)=j∧SFS nf M ns A G Fs j.toNat):BFS nf M ns A G Fs i:=by
 have FJ:i<ns.length:=(ama.1 hx).1;refine Ev.succ ((Ss (by have:=hn.nm.2;omega) t6 hK x.2.2.2.2.length 0 rfl).j9.mono fun k e fn O H E En fr to p q hg f0 f1 p0 p1 tZ Jj hO hE=>?_)
 rw[bPa] at e;obtain⟨y,hy⟩:=at_len tZ FJ;by_cases h0:x.2.2.2.2.length=0
 ·have aa3:x.2.2.2.2=[]:=List.length_eq_zero_iff.1 h0
  have BM:=hg.zq (f:=p) (t:=q) (k:=1) (n:=-1) (a:=0) p0 p1 (fun h=>absurd h (by decide))
  rw[aa3,zO] at e hw;obtain⟨O',H',E',Pz,to',w1,w2,w3,w3'⟩:=e fn O H (E++[(p,q,1,-1,0)]) En (fr.set i p) to p q BM f0 f1 (fun _=>⟨p0,p1⟩) (by simpa using tZ) Jj (by omega) (by simp;omega)
  have:=w2.eh;simp only[aua,aAa,aza] at this;refine⟨O',H',E',Pz,to',?_,⟨w2.fg,w2.lo,by have:=w2.hi;omega,by omega⟩,w3,w3'⟩
  have w1:iv (jl k) (jZ k) (mQ k) k k A G Fs ns fn En q [] O H (E++[(p,q,1,-1,0)]) (fr.set i p) to p 0=_:=w1;simp only[go_sem,T3,pd,aa,bq hx,hy,aDa,aa3,show((([]:XI).length:Int)==0)=true from rfl,uF (show E.length≤2000000 by omega),w1]
 ·obtain⟨O',H',E',Pz,to',w1,w2,w3,w3'⟩:=e fn O H E En (fr.set i p) to p q hg f0 f1 (fun _=>⟨p0,p1⟩) (by simpa using tZ) Jj (by omega) (by omega)
  refine⟨O',H',E',Pz,to',?_,⟨w2.fg,w2.lo,by have:=w2.hi;omega,by have:=w2.eh;omega⟩,w3,w3'⟩
  have w1:iv (jl k) (jZ k) (mQ k) k k A G Fs ns fn En q x.2.2.2.2 O H E (fr.set i p) to p 0=_:=w1;simp only[go_sem,T3,pd,aa,bq hx,hy,aDa,show((x.2.2.2.2.length:Int)==0)=false from Q6.2 (by omega),w1]
end
section
variable {nf:Nat} {ns:List eu} {t:zo} {nmf:ab}
theorem ad0(ht:iQ t)(fG:jC ns){i:Nat}{x:eu}(He:HR ns t nmf i)(hx:ns[i]? = some x)(hn:oo ns i x)(hw:wt ns (i:Int)=1+jQ ns x.2.2.2.2)(IH:∀ j∈x.2.2.2.2,((j.toNat:Nat):Int)=j∧(kd ns j=8→BFS nf t.2.2.length ns t.1 t.2.1 t.2.2 j.toNat)):SFS nf t.2.2.length ns t.1 t.2.1 t.2.2 i:=by
 have dz:=hn.shp;have AC:bL ns (i:Int)=some x:=bq hx;have FJ:i<ns.length:=(ama.1 hx).1;have Nn:∀ j∈x.2.2.2.2,t7 (kd ns j)=true→((j.toNat:Nat):Int)=j∧CFS nf t.2.2.length ns t.1 t.2.1 t.2.2 j.toNat:=fun j hj hc=>by
  have hj2:=hn.cL j hj;obtain⟨y,e1,e2,e3⟩:=vq (ns:=ns) hj2.1 (by omega)
  exact⟨aRa hj2.1,aaP fG (j.toNat+1) j.toNat (by omega) (by omega) fun y' F7=>by rw[e1] at F7;cases F7;rw[←e2];exact hc⟩
 by_cases h14:x.1=14
 ·rw[h14] at dz
  have hb:∃ a b r,x.2.2.2.2=a::b::r∧t7 (kd ns a)=true∧kd ns b=8∧(r=[]∨∃ c,r=[c]∧kd ns c=8):=by
   rcases h:x.2.2.2.2 with _|⟨a,_|⟨b,_|⟨c,_|⟨d,r⟩⟩⟩⟩
   ·rw[h] at dz;simp[cm] at dz
   ·rw[h] at dz;simp[cm] at dz
   ·rw[h] at dz;simp[cm] at dz;exact⟨a,b,[],rfl,dz.1,dz.2,.inl rfl⟩
   ·rw[h] at dz;simp[cm] at dz;exact⟨a,b,[c],rfl,dz.1.1,dz.1.2,.inr ⟨c,rfl,dz.2⟩⟩
   ·rw[h] at dz;simp[cm] at dz
  obtain⟨a,b,r,hK,ha,hb,hr⟩:=hb;obtain⟨ea,ca⟩:=Nn a (by rw[hK];simp) ha
  obtain⟨eb,cb⟩:=IH b (by rw[hK];simp)
  have cb:=cb hb;unfold CFS at ca;unfold BFS at cb;rw[ea] at ca;rw[eb] at cb;rcases hr with rfl|⟨c,rfl,hc8⟩
  ·rw[hK,yC] at hw
   refine Ev.succ ((ca.and cb).mono fun k e fn O H E En fr to p q hg f0 f1 p0 p1 tZ Jj hO hE=>?_);obtain⟨ca,cb⟩:=e;obtain⟨y1,OK⟩:=at_len tZ FJ;obtain⟨y2,Iy⟩:=at_len Jj FJ;have hp:=rE hg (show O.length≤2000000 by omega) fn false
   obtain⟨O1,H1,E1,w1,w2⟩:=ca fn (O++[fn]) (H++[false]) E En (fr.set i p) (to.set i q) p (O.length:Int) q (hg.oF f0 f1 _) f0 f1 p0 (by simp;omega) (by simp;omega) (by omega)
   have l1:=w2.lo;have l2:=w2.hi;have l3:=w2.eh;simp only[aua,aAa,aza] at l1 l2;obtain⟨O2,H2,E2,fr2,Db,w3,w4,w5,w5'⟩:=cb fn O1 H1 E1 En (fr.set i p) (to.set i q) (O.length:Int) q w2.fg f0 f1 (by omega) (by omega) (by simpa using tZ) (by simpa using Jj) (by omega) (by omega)
   have k1:=w4.lo;have k2:=w4.hi;have k3:=w4.eh;refine⟨O2,H2,E2,fr2,Db,?_,⟨w4.fg,by omega,by omega,by omega⟩,w5,w5'⟩
   simp only[go_sem,uG,gk,aa,AC,OK,Iy,aDa,h14,hp,hK,show decide (((([a,b]:XI).length:Int)) > 2)=false from rfl,show bL [a,b] 0=some a from rfl,w1,show bL [a,b] 1=some b from rfl,w3]
  ·obtain⟨ec,cc⟩:=IH c (by rw[hK];simp)
   have cc:=cc hc8;unfold BFS at cc;rw[ec] at cc;rw[hK,PP] at hw;refine Ev.succ ((ca.and (cb.and cc)).mono fun k e fn O H E En fr to p q hg f0 f1 p0 p1 tZ Jj hO hE=>?_);obtain⟨ca,cb,cc⟩:=e;obtain⟨y1,OK⟩:=at_len tZ FJ;obtain⟨y2,Iy⟩:=at_len Jj FJ;have hp:=rE hg (show O.length≤2000000 by omega) fn false
   have BM:=hg.oF f0 f1 false;have HG:=rE BM (show(O++[fn]).length≤2000000 by simp;omega) fn false
   have LX:=BM.oF f0 f1 false;obtain⟨O1,H1,E1,w1,w2⟩:=ca fn (O++[fn]++[fn]) (H++[false]++[false]) E En (fr.set i p) (to.set i q) p (O.length:Int) ((O++[fn]).length:Int) LX f0 f1 p0 (by simp;omega) (by simp;omega) (by omega)
   have l1:=w2.lo;have l2:=w2.hi;have l3:=w2.eh;simp only[aua,aAa,aza] at l1 l2;obtain⟨O2,H2,E2,fr2,Db,w3,w4,w5,w5'⟩:=cb fn O1 H1 E1 En (fr.set i p) (to.set i q) (O.length:Int) q w2.fg f0 f1 (by omega) (by omega) (by simpa using tZ) (by simpa using Jj) (by omega) (by omega)
   have k1:=w4.lo;have k2:=w4.hi;have k3:=w4.eh;obtain⟨O3,H3,E3,fr3,to3,w6,w7,w8,w8'⟩:=cc fn O2 H2 E2 En fr2 Db ((O++[fn]).length:Int) q w4.fg f0 f1 (by omega) (by simp;omega) w5 w5' (by omega) (by omega)
   have j1:=w7.lo;have j2:=w7.hi;have j3:=w7.eh;refine⟨O3,H3,E3,fr3,to3,?_,⟨w7.fg,by omega,by omega,by omega⟩,w8,w8'⟩
   simp only[go_sem,uG,gk,aa,AC,OK,Iy,aDa,h14,hp,HG,hK,show decide (((([a,b,c]:XI).length:Int)) > 2)=true from rfl,show bL [a,b,c] 0=some a from rfl,w1,show bL [a,b,c] 1=some b from rfl,w3,show bL [a,b,c] 2=some c from rfl,w6]
 by_cases h15:x.1=15
 ·rw[h15] at dz
  obtain⟨a,b,hK,ha,hb⟩:∃ a b,x.2.2.2.2=[a,b]∧t7 (kd ns a)=true∧kd ns b=8:=by
   rcases h:x.2.2.2.2 with _|⟨a,_|⟨b,_|⟨c,r⟩⟩⟩
   ·rw[h] at dz;simp[cm] at dz
   ·rw[h] at dz;simp[cm] at dz
   ·rw[h] at dz;simp[cm] at dz;exact⟨a,b,rfl,dz.1,dz.2⟩
   ·rw[h] at dz;simp[cm] at dz
  obtain⟨ea,ca⟩:=Nn a (by rw[hK];simp) ha
  obtain⟨eb,cb⟩:=IH b (by rw[hK];simp)
  have cb:=cb hb;unfold CFS at ca;unfold BFS at cb;rw[ea] at ca;rw[eb] at cb;rw[hK,yC] at hw;refine Ev.succ (Ev.succ ((ca.and cb).mono fun k e fn O H E En fr to p q hg f0 f1 p0 p1 tZ Jj hO hE=>?_));obtain⟨ca,cb⟩:=e;obtain⟨y1,OK⟩:=at_len tZ FJ;obtain⟨y2,Iy⟩:=at_len Jj FJ;have hp:=rE hg (show O.length≤2000000 by omega) fn true
  have BM:=hg.oF f0 f1 true;have HG:=rE BM (show(O++[fn]).length≤2000000 by simp;omega) fn false
  have LX:=(BM.oF f0 f1 false).zq (f:=p) (t:=(O.length:Int)) (k:=1) (n:=-1) (a:=0) p0 (by simp<;>omega) (fun h=>absurd h (by decide))
  obtain⟨O1,H1,E1,w1,w2⟩:=ca fn (O++[fn]++[fn]) (H++[true]++[false]) (E++[(p,(O.length:Int),1,-1,0)]) En (fr.set i p) (to.set i q) (O.length:Int) ((O++[fn]).length:Int) q LX f0 f1 (by omega) (by simp;omega) (by simp;omega) (by simp;omega)
  have l1:=w2.lo;have l2:=w2.hi;have l3:=w2.eh;simp only[aua,aAa,aza] at l1 l2 l3;obtain⟨O2,H2,E2,fr2,Db,w3,w4,w5,w5'⟩:=cb fn O1 H1 E1 En (fr.set i p) (to.set i q) ((O++[fn]).length:Int) (O.length:Int) w2.fg f0 f1 (by omega) (by simp;omega) (by simpa using tZ) (by simpa using Jj) (by omega) (by omega)
  have k1:=w4.lo;have k2:=w4.hi;have k3:=w4.eh;refine⟨O2,H2,E2,fr2,Db,?_,⟨w4.fg,by omega,by omega,by omega⟩,w5,w5'⟩
  simp only[go_sem,uG (k+1),gk,aa,AC,OK,Iy,aDa,h15,show((15:Int)==14)=false from rfl,T4,pZ,hp,HG,uF (show E.length≤2000000 by omega),hK,show bL [a,b] 0=some a from rfl,w1,show bL [a,b] 1=some b from rfl,w3]
 by_cases F3:x.1=16
 ·rw[F3] at dz
  obtain⟨a,b,c,hK,hb⟩:∃ a b c,x.2.2.2.2=[a,b,c]∧kd ns c=8:=by
   rcases h:x.2.2.2.2 with _|⟨a,_|⟨b,_|⟨c,_|⟨d,r⟩⟩⟩⟩
   ·rw[h] at dz;simp[cm] at dz
   ·rw[h] at dz;simp[cm] at dz
   ·rw[h] at dz;simp[cm] at dz
   ·rw[h] at dz;simp[cm] at dz;exact⟨a,b,c,rfl,dz.2⟩
   ·rw[h] at dz;simp[cm] at dz
  obtain⟨ec,cc⟩:=IH c (by rw[hK];simp)
  have cc:=cc hb;unfold BFS at cc;rw[ec] at cc;rw[hK,PP] at hw;refine Ev.succ (Ev.succ (cc.mono fun k cc fn O H E En fr to p q hg f0 f1 p0 p1 tZ Jj hO hE=>?_));obtain⟨y1,OK⟩:=at_len tZ FJ;obtain⟨y2,Iy⟩:=at_len Jj FJ;have hp:=rE hg (show O.length≤2000000 by omega) fn true
  have BM:=hg.oF f0 f1 true;have HG:=rE BM (show(O++[fn]).length≤2000000 by simp;omega) fn false
  have LX:=BM.oF f0 f1 false;have hg3:=LX.zq (f:=p) (t:=(O.length:Int)) (k:=8) (n:=(i:Int)) (a:=0) p0 (by simp<;>omega) (fun h=>absurd h (by decide))
  have hg4:=hg3.zq (f:=(O.length:Int)) (t:=((O++[fn]).length:Int)) (k:=9) (n:=(i:Int)) (a:=1) (by omega) (by simp<;>omega) (fun h=>absurd h (by decide))
  have hg5:=hg4.zq (f:=(O.length:Int)) (t:=q) (k:=9) (n:=(i:Int)) (a:=0) (by omega) (by simp<;>omega) (fun h=>absurd h (by decide))
  have hp3:=rE hg5 (show(O++[fn]++[fn]).length≤2000000 by simp;omega) fn false
  have hg6:=hg5.oF f0 f1 false;obtain⟨O2,H2,E2,fr2,Db,w3,w4,w5,w5'⟩:=cc fn _ _ _ En (fr.set i p) (to.set i q) ((O++[fn]).length:Int) ((O++[fn]++[fn]).length:Int) hg6 f0 f1 (by simp<;>omega) (by simp<;>omega) (by simpa using tZ) (by simpa using Jj) (by simp<;>omega) (by simp<;>omega)
  have k1:=w4.lo;have k2:=w4.hi;have k3:=w4.eh;simp only[aua,aAa,aza] at k1 k2 k3;refine⟨O2,H2,E2++[(((O++[fn]++[fn]).length:Int),(O.length:Int),10,(i:Int),0)],fr2,Db,?_,⟨w4.fg.zq (by omega) (by simp;omega) (fun h=>absurd h (by decide)),by omega,by omega,by simp;omega⟩,w5,w5'⟩
  simp only[go_sem,uG (k+1),gk,aa,AC,OK,Iy,aDa,F3,show((16:Int)==14)=false from rfl,show((16:Int)==15)=false from rfl,T4,pZ,hp,HG,uF (show E.length≤2000000 by omega),uF (show(E++[(p,(O.length:Int),8,(i:Int),0)]).length≤2000000 by simp;omega),uF (show(E++[(p,(O.length:Int),8,(i:Int),0)]++[((O.length:Int),((O++[fn]).length:Int),9,(i:Int),1)]).length≤2000000 by simp;omega),hp3,hK,show bL [a,b,c] 2=some c from rfl,w3,uF (show E2.length≤2000000 by omega)]
 by_cases h19:x.1=19
 ·rw[h19] at dz
  obtain⟨a,hK,ha⟩:∃ a,x.2.2.2.2=[a]∧t7 (kd ns a)=true:=by
   rcases h:x.2.2.2.2 with _|⟨a,_|⟨b,r⟩⟩
   ·rw[h] at dz;simp[cm] at dz
   ·rw[h] at dz;simp[cm] at dz;exact⟨a,rfl,dz⟩
   ·rw[h] at dz;simp[cm] at dz
  obtain⟨ea,ca⟩:=Nn a (by rw[hK];simp) ha
  unfold CFS at ca;rw[ea] at ca;rw[hK,ph] at hw;refine Ev.succ (ca.mono fun k ca fn O H E En fr to p q hg f0 f1 p0 p1 tZ Jj hO hE=>?_);obtain⟨y1,OK⟩:=at_len tZ FJ;obtain⟨y2,Iy⟩:=at_len Jj FJ;have hp:=rE hg (show O.length≤2000000 by omega) fn false
  obtain⟨O1,H1,E1,w1,w2⟩:=ca fn (O++[fn]) (H++[false]) E En (fr.set i p) (to.set i q) p q (O.length:Int) (hg.oF f0 f1 _) f0 f1 p0 (by simp;omega) (by simp;omega) (by omega)
  have l1:=w2.lo;have l2:=w2.hi;have l3:=w2.eh;simp only[aua,aAa,aza] at l1 l2;refine⟨O1,H1,E1++[((O.length:Int),(O.length:Int),4,(i:Int),0)],fr.set i p,to.set i q,?_,⟨w2.fg.zq (by omega) (by omega) (fun h=>absurd h (by decide)),by omega,by omega,by simp;omega⟩,by simpa using tZ,by simpa using Jj⟩
  simp only[go_sem,uG,gk,aa,AC,OK,Iy,aDa,h19,show((19:Int)==14)=false from rfl,show((19:Int)==15)=false from rfl,show((19:Int)==16)=false from rfl,hp,hK,show bL [a] 0=some a from rfl,w1,uF (show E1.length≤2000000 by omega)]
 have one:∀(mk:Int→Int→Int×Int×Int×Int×Int),(∀ p q,(mk p q).1=p∧((mk p q).2.2.1=5→0≤(mk p q).2.2.2.2∧(mk p q).2.2.2.2<(t.2.2.length:Int)))→
   (Ev fun k=>∀ fn O H E En fr to p q y1 y2,E.length≤2000000→bL fr (i:Int)=some y1→bL to (i:Int)=some y2→jZ (k+1) t.1 t.2.1 t.2.2 ns fn O En H E fr to (i:Int) p q=some (O,H,E++[mk p q],fr.set i p,to.set i q,()))→SFS nf t.2.2.length ns t.1 t.2.1 t.2.2 i:=fun mk h1 h2=>
  Ev.succ (h2.mono fun k h2 fn O H E En fr to p q hg f0 f1 p0 p1 tZ Jj hO hE=>by
   obtain⟨y1,OK⟩:=at_len tZ FJ;obtain⟨y2,Iy⟩:=at_len Jj FJ;obtain⟨g1,g2⟩:=h1 p q;refine⟨O,H,E++[mk p q],_,_,h2 fn O H E En fr to p q y1 y2 (by omega) OK Iy,⟨?_,by omega,by omega,by simp;omega⟩,by simpa using tZ,by simpa using Jj⟩
   exact hg.zq (f:=(mk p q).1) (t:=(mk p q).2.1) (k:=(mk p q).2.2.1) (n:=(mk p q).2.2.2.1) (a:=(mk p q).2.2.2.2) (by rw[g1];exact p0) (by rw[g1];exact p1) g2)
 by_cases h21:x.1=21
 ·refine one (fun p q=>(p,p,6,(i:Int),0)) (fun p q=>⟨rfl,fun h=>by simp at h⟩) (Ev.of fun k fn O H E En fr to p q y1 y2 hE OK Iy=>?_)
  simp only[go_sem,uG,gk,aa,AC,OK,Iy,aDa,h21,show((21:Int)==14)=false from rfl,show((21:Int)==15)=false from rfl,show((21:Int)==16)=false from rfl,show((21:Int)==19)=false from rfl,uF hE]
 by_cases h20:x.1=20
 ·refine one (fun p q=>(p,p,7,(i:Int),0)) (fun p q=>⟨rfl,fun h=>by simp at h⟩) (Ev.of fun k fn O H E En fr to p q y1 y2 hE OK Iy=>?_)
  simp only[go_sem,uG,gk,aa,AC,OK,Iy,aDa,h20,show((20:Int)==14)=false from rfl,show((20:Int)==15)=false from rfl,show((20:Int)==16)=false from rfl,show((20:Int)==19)=false from rfl,show((20:Int)==21)=false from rfl,uF hE]
 by_cases D6:x.1=22
 ·rw[D6] at dz
  obtain⟨u,r,hK,hu⟩:∃ u r,x.2.2.2.2=u::r∧kd ns u=23:=by
   cases h:x.2.2.2.2 with
   |nil=>rw[h] at dz;simp[cm] at dz
   |cons u r=>rw[h] at dz;simp[cm] at dz;exact⟨u,r,rfl,dz.1⟩
  have hu2:=hn.cL u (by rw[hK];simp)
  obtain⟨y,e1,e2,e3⟩:=vq (ns:=ns) hu2.1 (by omega)
  obtain⟨_,x',EV,PI,hc',ha'⟩:=He;rw[hx] at EV;obtain rfl:=bva EV;have h5:=hc' D6 u (by rw[hK];rfl)
  obtain⟨n,f,n1,n2,n3⟩:=nk5 h5;have Y3:Em ns u=y.2.2.2.1:=by simp only[Em,e1]
  rw[Y3] at n3;have Lv:0≤nR (fun z:ab×Int×XS×XS×Int=>z.1==y.2.2.2.1) t.2.2 0:=Cj.2 ⟨f,a2a n2,a_a.2 n3⟩;have agw:=Z0 Lv;have hF:=RX t y.2.2.2.1 (by have:=ht.f;omega)
  refine one (fun p q=>(p,q,5,(i:Int),nR (fun z:ab×Int×XS×XS×Int=>z.1==y.2.2.2.1) t.2.2 0)) (fun p q=>⟨rfl,fun _=>⟨Lv,agw⟩⟩) (hF.mono fun k e fn O H E En fr to p q y1 y2 hE OK Iy=>?_);simp only[go_sem,uG,gk,aa,AC,OK,Iy,aDa,D6,show((22:Int)==14)=false from rfl,show((22:Int)==15)=false from rfl,show((22:Int)==16)=false from rfl,show((22:Int)==19)=false from rfl,show((22:Int)==21)=false from rfl,show((22:Int)==20)=false from rfl,hK,show bL (u::r) 0=some u from rfl,e3,show kx k (t.1,t.2.1,t.2.2) y.2.2.2.1=_ from e,uF hE]
 refine one (fun p q=>(p,q,2,(i:Int),0)) (fun p q=>⟨rfl,fun h=>by simp at h⟩) (Ev.of fun k fn O H E En fr to p q y1 y2 hE OK Iy=>?_)
 simp only[go_sem,uG,gk,aa,AC,OK,Iy,aDa,Q6.2 h14,Q6.2 h15,Q6.2 F3,Q6.2 h19,Q6.2 h21,Q6.2 h20,Q6.2 D6,uF hE]
theorem Xf(ht:iQ t)(fG:jC ns):∀ n i,i<n→i<ns.length→HR ns t nmf i→(kd ns (i:Int)=8→BFS nf t.2.2.length ns t.1 t.2.1 t.2.2 i)∧SFS nf t.2.2.length ns t.1 t.2.1 t.2.2 i:=by
 intro n;induction n with
 |zero=>intro i h;omega
 |succ n ih=>
  intro i hi hl He;have hx:ns[i]? = some ns[i]:=by simp[hl]
  have hn:=fG i _ hx;have hw:=Oi hx hn.cL;have hkc:∀ j∈ns[i].2.2.2.2,HR ns t nmf j.toNat:=by obtain⟨_,x',EV,PI,_,_⟩:=He;rw[hx] at EV;obtain rfl:=bva EV;exact PI
  have JY:∀ j∈ns[i].2.2.2.2,((j.toNat:Nat):Int)=j∧j.toNat<n∧j.toNat<ns.length:=fun j hj=>by have:=hn.cL j hj;exact⟨aRa this.1,by omega,by omega⟩
  refine⟨fun h8=>acY hx hn hw (fun j hj=>?_) fun j hj=>⟨(JY j hj).1,(ih j.toNat (JY j hj).2.1 (JY j hj).2.2 (hkc j hj)).2⟩,ad0 ht fG He hx hn hw fun j hj=>⟨(JY j hj).1,fun h8=>(ih j.toNat (JY j hj).2.1 (JY j hj).2.2 (hkc j hj)).1 (by rw[(JY j hj).1];exact h8)⟩⟩
  have hj:=hn.cL j hj;obtain⟨y,e1,e2,e3⟩:=vq (ns:=ns) hj.1 (by omega)
  have:=Oi e1 (fG _ _ e1).cL;rw[aRa hj.1] at this;omega
end
end Go.Fx.R5
namespace Go.Fx.R5
open Go Go.Fx
theorem abJ{k:Int}{l:XI}(h:cm k l=true)(hm:(23:Int)∈l):(k=22∨k=12)∧∃ r,l=23::r:=by
 unfold cm at h;by_cases c1:k=24∨k=25∨k=27∨k=29∨k=23∨k=34∨k=17∨k=20∨k=2∨k=3∨k=5∨k=6∨k=7
 ·rw[a8a c1] at h
  cases l with
  |nil=>cases hm
  |cons a r=>cases h
 rw[aBa c1] at h;by_cases c2:k=26∨k=11∨k=13∨k=18∨k=21
 ·rw[a8a c2] at h
  rcases l with _|⟨a,_|⟨b,r⟩⟩
  ·cases hm
  ·obtain rfl:=Q7.1 hm;exact absurd h (by decide)
  ·cases h
 rw[aBa c2] at h;by_cases c3:k=9
 ·rw[a8a c3] at h
  rcases l with _|⟨a,_|⟨b,r⟩⟩
  ·cases hm
  ·obtain rfl:=Q7.1 hm;exact absurd h (by decide)
  ·cases h
 rw[aBa c3] at h;by_cases c4:k=28∨k=30∨k=10
 ·rw[a8a c4] at h
  rcases l with _|⟨a,_|⟨b,_|⟨c,r⟩⟩⟩
  ·cases hm
  ·cases h
  ·simp only[Q3] at h
   rcases ala.1 hm with rfl|hm
   ·exact absurd h.1 (by decide)
   ·obtain rfl:=Q7.1 hm;exact absurd h.2 (by decide)
  ·cases h
 rw[aBa c4] at h;by_cases c5:k=12
 ·rw[a8a c5] at h
  rcases l with _|⟨a,_|⟨b,_|⟨c,r⟩⟩⟩
  ·cases hm
  ·cases h
  ·simp only[Q3,a_a] at h
   exact⟨.inr c5,[b],by rw[h.1]⟩
  ·cases h
 rw[aBa c5] at h;by_cases c6:k=22
 ·rw[a8a c6] at h
  cases l with
  |nil=>cases hm
  |cons a r=>simp only[Q3,a_a] at h;exact⟨.inl c6,r,by rw[h.1]⟩
 rw[aBa c6] at h;by_cases c7:k=31∨k=32
 ·rw[a8a c7] at h
  rcases l with _|⟨a,_|⟨b,_|⟨c,r⟩⟩⟩
  ·cases hm
  ·cases h
  ·simp only[Q3] at h
   rcases ala.1 hm with rfl|hm
   ·exact absurd h.1 (by decide)
   ·obtain rfl:=Q7.1 hm;exact absurd h.2 (by decide)
  ·cases h
 rw[aBa c7] at h;by_cases c8:k=33∨k=19
 ·rw[a8a c8] at h
  rcases l with _|⟨a,_|⟨b,r⟩⟩
  ·cases hm
  ·obtain rfl:=Q7.1 hm;exact absurd h (by decide)
  ·cases h
 rw[aBa c8] at h;by_cases c9:k=14
 ·rw[a8a c9] at h
  rcases l with _|⟨a,_|⟨b,_|⟨c,_|⟨d,r⟩⟩⟩⟩
  ·cases hm
  ·cases h
  ·simp only[Q3] at h
   rcases ala.1 hm with rfl|hm
   ·exact absurd h.1 (by decide)
   ·obtain rfl:=Q7.1 hm;exact absurd h.2 (by decide)
  ·simp only[Q3] at h
   rcases ala.1 hm with rfl|hm
   ·exact absurd h.1.1 (by decide)
   ·rcases ala.1 hm with rfl|hm
    ·exact absurd h.1.2 (by decide)
    ·obtain rfl:=Q7.1 hm;exact absurd h.2 (by decide)
  ·cases h
 rw[aBa c9] at h;by_cases c10:k=15
 ·rw[a8a c10] at h
  rcases l with _|⟨a,_|⟨b,_|⟨c,r⟩⟩⟩
  ·cases hm
  ·cases h
  ·simp only[Q3] at h
   rcases ala.1 hm with rfl|hm
   ·exact absurd h.1 (by decide)
   ·obtain rfl:=Q7.1 hm;exact absurd h.2 (by decide)
  ·cases h
 rw[aBa c10] at h;by_cases Mu:k=16
 ·rw[a8a Mu] at h
  rcases l with _|⟨a,_|⟨b,_|⟨c,_|⟨d,r⟩⟩⟩⟩
  ·cases hm
  ·cases h
  ·cases h
  ·simp only[Q3] at h
   rcases ala.1 hm with rfl|hm
   ·exact absurd h.1.1 (by decide)
   ·rcases ala.1 hm with rfl|hm
    ·exact absurd h.1.2 (by decide)
    ·obtain rfl:=Q7.1 hm;exact absurd h.2 (by decide)
  ·cases h
 rw[aBa Mu] at h;by_cases c12:k=8
 ·rw[a8a c12] at h
  exact absurd (aqa.1 h 23 hm) (by decide)
 rw[aBa c12] at h;by_cases c13:k=4
 ·rw[a8a c13] at h
  simp only[Q3,a_a] at h;have ik:l≠[]:=List.ne_nil_of_mem hm;have e:=List.dropLast_concat_getLast ik;rw[←e] at hm;rcases ana.1 hm with hm|hm
  ·exact absurd (aqa.1 h.1 23 hm) (by decide)
  ·have h2:=h.2
   rw[List.getLast?_eq_some_getLast ik] at h2;rw[←Q7.1 hm] at h2;cases h2
 rw[aBa c13] at h;by_cases c14:k=1
 ·rw[a8a c14] at h
  exact absurd (aqa.1 h 23 hm) (by decide)
 rw[aBa c14] at h;cases h
section
variable {ns:List eu} {t:zo}
theorem nk1{fn s:ab}(h:(nk t fn s).1=1):0≤(nk t fn s).2∧(nk t fn s).2<t.1.length:=by
 have key:(OP t s).1=1→0≤(OP t s).2∧(OP t s).2<t.1.length:=fun h=>by
  unfold OP at h ⊢;by_cases g1:0≤nR (fun x:ab×Int=>x.1==s) t.1 0
  ·have:=Z0 g1
   simp[g1];omega
  ·by_cases g2:0≤nR (fun x=>x==s) t.2.1 0
   ·simp[g1,g2] at h
   ·by_cases g3:0≤nR (fun x:ab×Int×XS×XS×Int=>x.1==s) t.2.2 0<;>simp[g1,g2,g3] at h
 unfold nk at h ⊢;cases hf:t.2.2.find? (fun x=>x.1==fn) with
 |none=>simp only[hf] at h ⊢;exact key h
 |some x=>
  simp only[hf] at h ⊢;by_cases g1:0≤nR (fun y=>y==s) x.2.2.1 0
  ·simp[g1] at h
  ·by_cases g2:0≤nR (fun y=>y==s) x.2.2.2.1 0
   ·simp[g1,g2] at h
   ·simp only[go_sem,g1,g2] at h ⊢;exact key h
structure KP(ns:List eu)(ki pl:XI):Prop where
 k:ki.length=ns.length
 p:pl.length=ns.length
 o:Uq ns 6 pl
theorem KP.set{ki pl:XI}(h:KP ns ki pl){i:Nat}{x:eu}(hx:ns[i]? = some x)(a b:Int)(hb:x.1=23→0≤b∧b<6):KP ns (ki.set i a) (pl.set i b):=by
 refine⟨by simpa using h.k,by simpa using h.p,fun j y hy h23=>?_⟩
 have FJ:=(ama.1 hx).1;by_cases e:i=j
 ·subst e
  rw[hx] at hy;cases hy;refine⟨b,?_,(hb h23).1,(hb h23).2⟩;rw[List.getElem?_set_self (by rw[h.p];exact FJ)]
 ·obtain⟨v,v1,v2⟩:=h.o j y hy h23
  exact⟨v,by rw[List.getElem?_set_ne e];exact v1,v2⟩
def Bd(ns:List eu)(t:zo)(rec:ab×Int×XS×XS×Int)(i:Nat):Prop:=Ev fun k=>∀ ki pl,KP ns ki pl→
 ∃ ki' pl',gB k ns t.1 t.2.1 t.2.2 ki pl [] [] [] [] [] [] [] rec (i:Int)=some (ki',pl',())∧KP ns ki' pl'
theorem Pe{rec:ab×Int×XS×XS×Int}{K:XI}(Aq:K.length≤5000)(hK:∀ j∈K,((j.toNat:Nat):Int)=j∧Bd ns t rec j.toNat):∀ m s,m+s=K.length→cz fun q k=>∀ ki pl,KP ns ki pl→
  ∃ ki' pl',gJ (gB q) q k rec.1 rec.2.1 rec.2.2.1 rec.2.2.2.1 rec.2.2.2.2 ns t.1 t.2.1 t.2.2 [] [] [] [] [] [] [] K (K.length:Int) ki pl (s:Int)=some (ki',pl',())∧KP ns ki' pl'
 |0,s,h=>by
  have h2:¬ s<K.length:=by omega
  exact cz.succ (cz.of fun q k ki pl hkp=>⟨ki,pl,by simp only[go_sem,gJ,Q5,h2],hkp⟩)
 |m+1,s,h=>by
  have bf:s<K.length:=by omega
  obtain⟨ej,hj⟩:=hK _ (aQa bf);unfold Bd at hj;rw[ej] at hj;refine cz.succ ((hj.tn.and (Pe Aq hK m (s+1) (by omega))).mono fun q k e ki pl hkp=>?_)
  obtain⟨ki1,pl1,w1,w2⟩:=e.1 ki pl hkp;obtain⟨ki2,pl2,w3,w4⟩:=e.2 ki1 pl1 w2;refine⟨ki2,pl2,?_,w4⟩;simp only[go_sem,gJ,Q5,bf,cF bf,ag (show s<_ by omega)]
  rw[show gB q ns t.1 t.2.1 t.2.2 ki pl [] [] [] [] [] [] [] (rec.1,rec.2.1,rec.2.2.1,rec.2.2.2.1,rec.2.2.2.2) K[s]=_ from w1]
  simp only[go_sem,w3]
theorem Yq(ht:iQ t)(fG:jC ns)(rec:ab×Int×XS×XS×Int):∀ n i,i<n→i<ns.length→HR ns t rec.1 i→(∀ x,ns[i]? = some x→x.1=23→0≤(nk t rec.1 x.2.2.2.1).2∧(nk t rec.1 x.2.2.2.1).2<6)→Bd ns t rec i:=by
 intro n;induction n with
 |zero=>intro i h;omega
 |succ n ih=>
  intro i hi hl He h23;have hx:ns[i]? = some ns[i]:=by simp[hl]
  have hn:=fG i _ hx;have aeT:=h23 _ hx;obtain⟨_,x',EV,hkc,hcc,hca⟩:=He;rw[hx] at EV;obtain rfl:=bva EV;have hf6:=ht.f;have ha4:=ht.a;have JY:∀ j∈ns[i].2.2.2.2,((j.toNat:Nat):Int)=j∧Bd ns t rec j.toNat:=fun j hj=>by
   have hj2:=hn.cL j hj;refine⟨aRa hj2.1,ih j.toNat (by omega) (by omega) (hkc j hj) fun y hy h23=>?_⟩
   have hkd:kd ns j=23:=by simp only[kd,hy];exact h23
   have ii:(23:Int)∈ns[i].2.2.2.2.map (kd ns):=by rw[←hkd];exact aIa hj
   obtain⟨hk,r,hr⟩:=abJ hn.shp ii;have Na:ns[i].2.2.2.2.head? = some j∨∃ u,ns[i].2.2.2.2.head? = some u∧kd ns u=23:=by
    cases hK:ns[i].2.2.2.2 with
    |nil=>rw[hK] at hj;cases hj
    |cons u r'=>rw[hK] at hr;simp only[aHa,aJa] at hr;exact .inr ⟨u,rfl,hr.1⟩
   have Y3:Em ns j=y.2.2.2.1:=by simp only[Em,hy]
   have only:ns[i].2.2.2.2.head? = some j:=by
    rcases Na with h|⟨u,hu,Ly⟩
    ·exact h
    ·cases hK:ns[i].2.2.2.2 with
     |nil=>rw[hK] at hj;cases hj
     |cons u' r'=>
      rw[hK] at hj hu;simp only[List.head?_cons,Ob] at hu;subst hu;rcases ala.1 hj with rfl|hj
      ·rfl
      ·exfalso
       have hs:=hn.shp;rw[hK] at hs;rcases hk with hk|hk
       ·rw[hk] at hs
        simp only[cm,aHa] at hs;simp at hs;have:=hs.2 j hj;rw[hkd] at this;simp[Bk] at this
       ·rw[hk] at hs
        rcases r' with _|⟨b,_|⟨c,r''⟩⟩
        ·cases hj
        ·simp[cm] at hs
         rw[Q7.1 hj] at hkd;rw[hkd] at hs;simp[Bk] at hs
        ·simp[cm] at hs
   rw[←Y3];rcases hk with hk|hk
   ·obtain⟨m,f,m1,m2,_⟩:=nk5 (hcc hk j only)
    have:=(ama.1 m2).1;rw[m1];omega
   ·have:=nk1 (hca hk j only)
    omega
  have AC:bL ns (i:Int)=some ns[i]:=bq hx;have hlp:=(Pe (t:=t) (rec:=rec) hn.nm.2 JY ns[i].2.2.2.2.length 0 rfl).j9;have hnk:=Zg ht rec.1 ns[i].2.2.2.1;refine Ev.succ ((hlp.and hnk).mono fun k e ki pl hkp=>?_);obtain⟨e1,e2⟩:=e;cases hnm:(ns[i].2.2.2.1==([]:ab)) with
  |true=>obtain⟨ki',pl',w1,w2⟩:=e1 ki pl hkp;refine⟨ki',pl',?_,w2⟩;have w1:gJ (gB k) k k rec.1 rec.2.1 rec.2.2.1 rec.2.2.2.1 rec.2.2.2.2 ns t.1 t.2.1 t.2.2 [] [] [] [] [] [] [] ns[i].2.2.2.2 (ns[i].2.2.2.2.length:Int) ki pl 0=_:=w1;simp only[go_sem,gB,oL,aa,AC,hnm,w1]
  |false=>obtain⟨y1,OK⟩:=at_len hkp.k hl;obtain⟨y2,Iy⟩:=at_len hkp.p hl;obtain⟨ki',pl',w1,w2⟩:=e1 (ki.set i (nk t rec.1 ns[i].2.2.2.1).1) (pl.set i (nk t rec.1 ns[i].2.2.2.1).2) (hkp.set hx _ _ aeT);refine⟨ki',pl',?_,w2⟩;have w1:gJ (gB k) k k rec.1 rec.2.1 rec.2.2.1 rec.2.2.2.1 rec.2.2.2.2 ns t.1 t.2.1 t.2.2 [] [] [] [] [] [] [] ns[i].2.2.2.2 (ns[i].2.2.2.2.length:Int) (ki.set i (nk t rec.1 ns[i].2.2.2.1).1) (pl.set i (nk t rec.1 ns[i].2.2.2.1).2) 0=_:=w1;simp only[go_sem,gB,oL,aa,AC,hnm,show fQ k (t.1,t.2.1,t.2.2) rec.1 ns[i].2.2.2.1=_ from e2,aDa,OK,Iy,w1]
end
end Go.Fx.R5
namespace Go.Fx.R5
open Go Go.Fx
section
variable {ns:List eu} {t:zo} {D:AS}
theorem PW(hp:P1 ns t D)(fG:jC ns)(He:∀ x∈t.2.2,HR ns t x.1 x.2.2.2.2.toNat):∀ m s,m+s=t.2.2.length→cz fun q k=>∀ ki pl,KP ns ki pl→
  ∃ ki' pl',pz q k ns t.1 t.2.1 t.2.2 t.2.2 (t.2.2.length:Int) ki pl (s:Int)=some (ki',pl',())∧KP ns ki' pl'
 |0,s,h=>by
  have h2:¬ s<t.2.2.length:=by omega
  exact cz.succ (cz.of fun q k ki pl hkp=>⟨ki,pl,by simp only[go_sem,pz,Q5,h2],hkp⟩)
 |m+1,s,h=>by
  have bf:s<t.2.2.length:=by omega
  have hf6:=hp.iK.f;have hb:=hp.bd _ (aQa bf);have hc:=He _ (aQa bf);have hB:=Yq hp.iK fG t.2.2[s] (t.2.2[s].2.2.2.2.toNat+1) t.2.2[s].2.2.2.2.toNat (by omega) (by omega) hc (fun x hx h23=>by
   have:kd ns t.2.2[s].2.2.2.2=x.1:=by simp only[kd,hx]
   rw[hb.2.2.1] at this;omega)
  unfold Bd at hB;rw[aRa hb.1] at hB;refine cz.succ ((hB.tn.and (PW hp fG He m (s+1) (by omega))).mono fun q k e ki pl hkp=>?_)
  obtain⟨ki1,pl1,w1,w2⟩:=e.1 ki pl hkp;obtain⟨ki2,pl2,w3,w4⟩:=e.2 ki1 pl1 w2;refine⟨ki2,pl2,?_,w4⟩;simp only[go_sem,pz,Q5,bf,cF bf,w1,ag (show s<_ by omega),w3]
theorem Tf(hp:P1 ns t D)(fG:jC ns)(hl:ns.length≤1401):∀ m s,m+s=t.2.2.length→cz fun q k=>∀ ki pl,Uq ns 6 pl→∀(fn:Int) (O En:XI) (H:XB) (E:ES) (la:SPS),FG t.2.2.length 6 O H E→En.length=s→O.length≤s * 8000→E.length≤s * 8000→la.length=ns.length→
  ∃ fn' O' En' H' E' la',pA q k ns t.1 t.2.1 t.2.2 ki pl (t.2.2.length:Int) fn O En H E la (s:Int)=some (fn',O',En',H',E',la',())∧FG t.2.2.length 6 O' H' E'∧O'.length≤48000∧E'.length≤48000
 |0,s,h=>by
  have h2:¬ s<t.2.2.length:=by omega
  have hf6:=hp.iK.f;refine cz.succ (cz.of fun q k ki pl _ fn O En H E la hg hEn hO hE LZ=>⟨fn,O,En,H,E,la,by simp only[go_sem,pA,Q5,h2],hg,by omega,by omega⟩)
 |m+1,s,h=>by
  have bf:s<t.2.2.length:=by omega
  have hf6:=hp.iK.f;have hb:=hp.bd _ (aQa bf);have hw:=hb.2.2.2;have hB:=(Xe (nf:=t.2.2.length) (M:=6) (A:=t.1) (G:=t.2.1) (Fs:=t.2.2) fG (t.2.2[s].2.2.2.2.toNat+1) t.2.2[s].2.2.2.2.toNat (by omega) (by omega)).1 (by rw[aRa hb.1];exact hb.2.2.1)
  unfold BFI at hB;rw[aRa hb.1] at hB;refine cz.succ ((hB.tn.and (Tf hp fG hl m (s+1) (by omega))).mono fun q k e ki pl wC fn O En H E la hg hEn hO hE LZ=>?_)
  have f0:(0:Int)≤(s:Int):=by omega
  have f1:(s:Int)<(t.2.2.length:Nat):=by omega
  have hp1:=qn hg (show O.length≤2000000 by omega) (s:Int) false
  have BM:=hg.oF f0 f1 false;have HG:=qn BM (show(O++[(s:Int)]).length≤2000000 by simp;omega) (s:Int) false
  have LX:=BM.oF f0 f1 false;have hen:bE En [(O.length:Int)]=some (En++[(O.length:Int)]):=zG (by omega)
  obtain⟨O1,H1,E1,la1,w1,w2,w3⟩:=e.1 ki pl wC (s:Int) (O++[(s:Int)]++[(s:Int)]) (H++[false]++[false]) E (En++[(O.length:Int)]) la (O.length:Int) ((O++[(s:Int)]).length:Int) LX f0 f1 (by omega) (by simp;omega) LZ (by simp;omega) (by omega)
  have l1:=w2.lo;have l2:=w2.hi;have l3:=w2.eh;simp only[aua,aAa,aza] at l1 l2;have hg3:=w2.fg.zq (f:=((O++[(s:Int)]).length:Int)) (t:=((O++[(s:Int)]).length:Int)) (k:=6) (n:=-1) (a:=0) (by omega) (by simp;omega) (fun h=>absurd h (by decide))
  obtain⟨GW,O2,En2,H2,E2,la2,w4,w5,w6,w7⟩:=e.2 ki pl wC (s:Int) O1 (En++[(O.length:Int)]) H1 (E1++[(((O++[(s:Int)]).length:Int),((O++[(s:Int)]).length:Int),6,-1,0)]) la1 hg3 (by simp;omega) (by omega) (by simp;omega) w3
  refine⟨GW,O2,En2,H2,E2,la2,?_,w5,w6,w7⟩;simp only[go_sem,pA,rV,Q5,bf,hp1,hen,HG,cF bf,w1,tw (show E1.length≤2000000 by omega),ag (show s<_ by omega),w4]
end
theorem TG{E:ES}{n:Nat}(hE:∀ e∈E,0≤e.1∧e.1<(n:Int))(hl:E.length≤100000)(q:Nat):∀(m s k:Nat) (out:XL),m+s=E.length→m<k→out.length=n→(∀ l∈out,l.length≤s)→∃ O4,pB q k E (E.length:Int) out (s:Int)=some (O4,())
 |0,s,k+1,out,h,_,ho,hs=>by
  have h2:¬ s<E.length:=by omega
  exact⟨out,by simp only[go_sem,pB,Q5,h2]⟩
 |m+1,s,k+1,out,h,hk,ho,hs=>by
  have bf:s<E.length:=by omega
  have he:=hE _ (aQa bf);have hi:E[s].1.toNat<out.length:=by omega
  have i1:bL out E[s].1=some out[E[s].1.toNat]:=by have:bL out ((E[s].1.toNat:Nat):Int)=some out[E[s].1.toNat]:=cF hi;rwa[aRa he.1] at this
  have i2:bL out ((E[s].1.toNat:Nat):Int)=some out[E[s].1.toNat]:=cF hi;have hol:=hs _ (aQa hi);have ha:bE out[E[s].1.toNat] [(s:Int)]=some (out[E[s].1.toNat]++[(s:Int)]):=zG (by omega)
  obtain⟨O4,e⟩:=TG hE hl q m (s+1) k (out.set E[s].1.toNat (out[E[s].1.toNat]++[(s:Int)])) (by omega) (by omega) (by simpa using ho) (fun l hl=>by
   rcases List.mem_or_eq_of_mem_set hl with h|rfl
   ·have:=hs l h;omega
   ·simp;omega)
  refine⟨O4,?_⟩;simp only[go_sem,pB,Q5,bf,cF bf,i1,i2,ha,b_a,bHa,ag (show s<_ by omega),e]
theorem WY{c:XB}(hc:c.length=36){a b:Nat}(ha:a<6)(hb:b<6):∃ y,bL c ((a:Int) * 6+(b:Int) * 1)=some y:=by
 obtain⟨y,hy⟩:=at_len (i:=a * 6+b * 1) hc (by omega)
 exact⟨y,by rw[←hy];congr 1⟩
theorem fd0{O:XI}{H:XB}{E:ES}{nf:Nat}(hg:FG nf 6 O H E)(hn:nf≤6)(hl:E.length≤100000)(q:Nat):∀(m s k:Nat) (c:XB),m+s=E.length→m<k→c.length=36→∃ c',jN q k O E (E.length:Int) c (s:Int)=some (c',())∧c'.length=36
 |0,s,k+1,c,h,_,hc=>by
  have h2:¬ s<E.length:=by omega
  exact⟨c,by simp only[go_sem,jN,Q5,h2],hc⟩
 |m+1,s,k+1,c,h,hk,hc=>by
  have bf:s<E.length:=by omega
  have he:=hg.ed _ (aQa bf);cases h5:(E[s].2.2.1==5) with
  |false=>
   obtain⟨c',e1,e2⟩:=fd0 hg hn hl q m (s+1) k c (by omega) (by omega) hc
   exact⟨c',by simp only[go_sem,jN,aa,Q5,bf,cF bf,h5,ag (show s<_ by omega),e1],e2⟩
  |true=>
   have ha:=he.2.2 (a_a.1 h5);have hi:E[s].1.toNat<O.length:=by omega
   have i1:bL O E[s].1=some O[E[s].1.toNat]:=by have:bL O ((E[s].1.toNat:Nat):Int)=some O[E[s].1.toNat]:=cF hi;rwa[aRa he.1] at this
   have ho:=hg.ow _ (aQa hi);generalize O[E[s].1.toNat]=o at *;obtain⟨y,hy⟩:=WY hc (a:=o.toNat) (b:=E[s].2.2.2.2.toNat) (by omega) (by omega)
   obtain⟨c',e1,e2⟩:=fd0 hg hn hl q m (s+1) k (c.set (o.toNat * 6+E[s].2.2.2.2.toNat * 1) true) (by omega) (by omega) (by simpa using hc)
   refine⟨c',?_,e2⟩;have b1:decide (0≤o)=true:=decide_eq_true ho.1;have b2:decide (o<6)=true:=decide_eq_true (by omega)
   have b3:decide (0≤E[s].2.2.2.2)=true:=decide_eq_true ha.1;have b4:decide (E[s].2.2.2.2<6)=true:=decide_eq_true ha.2;simp only[go_sem,jN,aa,Q5,bf,cF bf,h5,i1,b1,b2,b3,b4,bHa,hy,ag (show s<_ by omega),e1]
theorem fd6{kk i n:Nat}(hk:kk<6)(hi:i<6)(hn:n≤6)(q:Nat):∀(m s k:Nat) (c:XB),m+s=n→m<k→c.length=36→∃ c',gl q k (kk:Int) (i:Int) (n:Int) c (s:Int)=some (c',())∧c'.length=36
 |0,s,k+1,c,h,_,hc=>by
  have h2:¬ s<n:=by omega
  exact⟨c,by simp only[go_sem,gl,Q5,h2],hc⟩
 |m+1,s,k+1,c,h,hm,hc=>by
  have bf:s<n:=by omega
  obtain⟨y1,h1⟩:=WY hc hi hk;obtain⟨y2,h2⟩:=WY hc hk (show s<6 by omega)
  obtain⟨y3,h3⟩:=WY hc hi (show s<6 by omega)
  obtain⟨c1,e1,e2⟩:=fd6 hk hi hn q m (s+1) k c (by omega) (by omega) hc
  obtain⟨c2,e3,e4⟩:=fd6 hk hi hn q m (s+1) k (c.set (i * 6+s * 1) true) (by omega) (by omega) (by simpa using hc)
  have bi:decide ((0:Int)≤(i:Int))=true:=decide_eq_true (by omega)
  have bi6:decide ((i:Int)<6)=true:=decide_eq_true (by omega)
  have bk:decide ((0:Int)≤(kk:Int))=true:=decide_eq_true (by omega)
  have bk6:decide ((kk:Int)<6)=true:=decide_eq_true (by omega)
  have bs:decide ((0:Int)≤(s:Int))=true:=decide_eq_true (by omega)
  have bs6:decide ((s:Int)<6)=true:=decide_eq_true (by omega)
  have UC:gl q (k+1) (kk:Int) (i:Int) (n:Int) c (s:Int)=bif y1 then(bif y2 then gl q k (kk:Int) (i:Int) (n:Int) (c.set (i * 6+s * 1) true) ((s+1:Nat):Int) else gl q k (kk:Int) (i:Int) (n:Int) c ((s+1:Nat):Int)) else gl q k (kk:Int) (i:Int) (n:Int) c ((s+1:Nat):Int):=by simp only[go_sem,gl,aa,Q5,bf,bi,bi6,bk,bk6,bs,bs6,bHa,aDa,h1,h2,h3,ag (show s<_ by omega)]
  rw[UC];cases y1 with
  |false=>exact⟨c1,e1,e2⟩
  |true=>cases y2 with
   |false=>exact⟨c1,e1,e2⟩
   |true=>exact⟨c2,e3,e4⟩
theorem fd4{kk n:Nat}(hk:kk<6)(hn:n≤6)(q:Nat)(hq:7≤q):∀(m s k:Nat) (c:XB),m+s=n→m<k→c.length=36→∃ c',kM q k (n:Int) (kk:Int) (n:Int) c (s:Int)=some (c',())∧c'.length=36
 |0,s,k+1,c,h,_,hc=>by
  have h2:¬ s<n:=by omega
  exact⟨c,by simp only[go_sem,kM,Q5,h2],hc⟩
 |m+1,s,k+1,c,h,hm,hc=>by
  have bf:s<n:=by omega
  obtain⟨c1,e1,e2⟩:=fd6 hk (show s<6 by omega) hn q n 0 q c (by omega) (by omega) hc
  obtain⟨c2,e3,e4⟩:=fd4 hk hn q hq m (s+1) k c1 (by omega) (by omega) e2
  have e1:gl q q (kk:Int) (s:Int) (n:Int) c 0=some (c1,()):=e1;exact⟨c2,by simp only[go_sem,kM,Q5,bf,e1,ag (show s<_ by omega),e3],e4⟩
theorem fd2{n:Nat}(hn:n≤6)(q:Nat)(hq:7≤q):∀(m s k:Nat) (c:XB),m+s=n→m<k→c.length=36→∃ c',kK q k (n:Int) (n:Int) c (s:Int)=some (c',())∧c'.length=36
 |0,s,k+1,c,h,_,hc=>by
  have h2:¬ s<n:=by omega
  exact⟨c,by simp only[go_sem,kK,Q5,h2],hc⟩
 |m+1,s,k+1,c,h,hm,hc=>by
  have bf:s<n:=by omega
  obtain⟨c1,e1,e2⟩:=fd4 (show s<6 by omega) hn q hq n 0 q c (by omega) (by omega) hc
  obtain⟨c2,e3,e4⟩:=fd2 hn q hq m (s+1) k c1 (by omega) (by omega) e2
  have e1:kM q q (n:Int) (s:Int) (n:Int) c 0=some (c1,()):=e1;exact⟨c2,by simp only[go_sem,kK,Q5,bf,e1,ag (show s<_ by omega),e3],e4⟩
theorem ac9{c:XB}(hc:c.length=36){i n:Nat}(hi:i<n)(hn:n≤6)(q:Nat):∀(m s k:Nat) (d:XB),m+s=n→m<k→d.length=n→∃ d',gA q k c (i:Int) (n:Int) d (s:Int)=some (d',())∧d'.length=n
 |0,s,k+1,d,h,_,hd=>by
  have h2:¬ s<n:=by omega
  exact⟨d,by simp only[go_sem,gA,Q5,h2],hd⟩
 |m+1,s,k+1,d,h,hm,hd=>by
  have bf:s<n:=by omega
  obtain⟨y1,h1⟩:=WY hc (show s<6 by omega) (show s<6 by omega)
  obtain⟨y2,h2⟩:=WY hc (show s<6 by omega) (show i<6 by omega)
  obtain⟨y3,h3⟩:=at_len hd hi;obtain⟨d1,e1,e2⟩:=ac9 hc hi hn q m (s+1) k d (by omega) (by omega) hd
  obtain⟨d2,e3,e4⟩:=ac9 hc hi hn q m (s+1) k (d.set i true) (by omega) (by omega) (by simpa using hd)
  have bi:decide ((0:Int)≤(i:Int))=true:=decide_eq_true (by omega)
  have bi6:decide ((i:Int)<6)=true:=decide_eq_true (by omega)
  have bs:decide ((0:Int)≤(s:Int))=true:=decide_eq_true (by omega)
  have bs6:decide ((s:Int)<6)=true:=decide_eq_true (by omega)
  have UC:gA q (k+1) c (i:Int) (n:Int) d (s:Int)=bif (y1&&((i:Int)==(s:Int)||y2)) then gA q k c (i:Int) (n:Int) (d.set i true) ((s+1:Nat):Int) else gA q k c (i:Int) (n:Int) d ((s+1:Nat):Int):=by
   simp only[go_sem,gA,aa,Q5,bf,bi,bi6,bs,bs6,bHa,aDa,h1,h2,h3,ag (show s<_ by omega)]
   cases y1<;>cases ((i:Int)==(s:Int))<;>rfl
  rw[UC];cases (y1&&((i:Int)==(s:Int)||y2)) with
  |false=>exact⟨d1,e1,e2⟩
  |true=>exact⟨d2,e3,e4⟩
theorem fd8{c:XB}(hc:c.length=36){n:Nat}(hn:n≤6)(q:Nat)(hq:7≤q):∀(m s k:Nat) (d:XB),m+s=n→m<k→d.length=n→∃ d',kN q k (n:Int) c (n:Int) d (s:Int)=some (d',())∧d'.length=n
 |0,s,k+1,d,h,_,hd=>by
  have h2:¬ s<n:=by omega
  exact⟨d,by simp only[go_sem,kN,Q5,h2],hd⟩
 |m+1,s,k+1,d,h,hm,hd=>by
  have bf:s<n:=by omega
  obtain⟨d1,e1,e2⟩:=ac9 hc bf hn q n 0 q d (by omega) (by omega) hd
  obtain⟨d2,e3,e4⟩:=fd8 hc hn q hq m (s+1) k d1 (by omega) (by omega) e2
  have e1:gA q q c (s:Int) (n:Int) d 0=some (d1,()):=e1;exact⟨d2,by simp only[go_sem,kN,Q5,bf,e1,ag (show s<_ by omega),e3],e4⟩
theorem J6{α:Type}(n:Nat)(x:α)(h:n≤1000000):mkl (n:Int) x=some (List.replicate n x):=by
 have h1:decide ((0:Int)≤(n:Int))=true:=decide_eq_true (by omega)
 have h2:decide ((n:Int)≤4294967296)=true:=decide_eq_true (by omega)
 simp only[go_sem,mkl,h1,h2,bHa,aDa]
theorem Ff{α:Type}{l:List α}{n:Nat}(h:l.length=n):sub l 0 (n:Int)=some l:=by
 have:=wS (l:=l) (m:=0) (n:=n) (by omega) (by omega)
 rw[show(0:Int)=((0:Nat):Int) from rfl,this,←h,cva];rfl
theorem OF{F:FS}{O:XI}{H:XB}{E:ES}(hg:FG F.length 6 O H E)(hn:F.length≤6)(hl:E.length≤100000){k:Nat}(hk:200000≤k):∃ d,vK k F O E=some (d,()):=by
 obtain⟨c1,e1,e2⟩:=fd0 hg hn hl k E.length 0 k (List.replicate 36 false) (by omega) (by omega) (by simp)
 obtain⟨c2,e3,e4⟩:=fd2 hn k (by omega) F.length 0 k c1 (by omega) (by omega) e2
 obtain⟨d,e5,e6⟩:=fd8 e4 hn k (by omega) F.length 0 k (List.replicate F.length false) (by omega) (by omega) (by simp)
 have e1:jN k k O E (E.length:Int) (List.replicate 36 false) 0=_:=e1;have e3:kK k k (F.length:Int) (F.length:Int) c1 0=_:=e3;have e5:kN k k (F.length:Int) c2 (F.length:Int) (List.replicate F.length false) 0=_:=e5;exact⟨d,by simp only[go_sem,vK,e1,e3,J6 F.length false (by omega),Ff (bxa (n:=F.length) (a:=false)),e5]⟩
section
variable {ns:List eu} {t:zo} {D:AS}
theorem Xs(hp:P1 ns t D)(fG:jC ns)(He:∀ x∈t.2.2,HR ns t x.1 x.2.2.2.2.toNat)(hl:ns.length≤1401):Ev fun k=>∀ ce,pE k ce=some (ns,(0,0),())→je k ns=some (t,(0,0),())→
  ∃ ki pl O En H E la out d,tK k ce=some (.inl (ns,t.1,t.2.1,t.2.2,ki,pl,O,En,H,E,la,out,d,(0,0),())):=by
 have hf6:=hp.iK.f;refine((PW hp fG He t.2.2.length 0 rfl).j9.and ((Tf hp fG hl t.2.2.length 0 rfl).j9.and (⟨200000,fun k hk=>hk⟩:Ev fun k=>200000≤k))).mono fun k e ce hT hN=>?_;obtain⟨e1,e2,hk⟩:=e;have h0:KP ns (List.replicate ns.length 0) (List.replicate ns.length 0):=⟨by simp,by simp,fun j x hj _=>⟨0,by
  have:=(ama.1 hj).1;simp[this],by omega,by omega⟩⟩
 obtain⟨ki,pl,w1,w2⟩:=e1 _ _ h0;obtain⟨fn,O,En,H,E,la,w3,w4,w5,w6⟩:=e2 ki pl w2.o 0 [] [] [] [] (List.replicate ns.length (0,0,0,0)) ⟨rfl,by simp,by simp⟩ rfl (by simp) (by simp) (by simp)
 obtain⟨out,w7⟩:=TG (n:=O.length) (fun e he=>⟨(w4.ed e he).1,(w4.ed e he).2.1⟩) (by omega) k E.length 0 k (List.replicate O.length []) (by omega) (by omega) (by simp) (by simp)
 obtain⟨d,w8⟩:=OF w4 hf6 (by omega) hk
 have w1:pz k k ns t.1 t.2.1 t.2.2 t.2.2 (t.2.2.length:Int) (List.replicate ns.length 0) (List.replicate ns.length 0) 0=_:=w1;have w3:pA k k ns t.1 t.2.1 t.2.2 ki pl (t.2.2.length:Int) 0 [] [] [] [] (List.replicate ns.length (0,0,0,0)) 0=_:=w3;have w7:pB k k E (E.length:Int) (List.replicate O.length []) 0=_:=w7;refine⟨ki,pl,O,En,H,E,la,out,d,?_⟩;simp only[go_sem,tK,hT,hN,J6 ns.length (0:Int) (by omega),Ff (bxa (n:=ns.length) (a:=(0:Int))),w1,J6 ns.length ((0,0,0,0):Int×Int×Int×Int) (by omega),Ff (bxa (n:=ns.length) (a:=((0,0,0,0):Int×Int×Int×Int))),w3,J6 O.length ([]:XI) (by omega),Ff (bxa (n:=O.length) (a:=([]:XI))),w7,w8]
end
end Go.Fx.R5
namespace Go.Fx.R5
open Go Go.Fx
theorem aek{ns:List eu}(hl:ns.length≤1000000)(q:Nat):∀(m s k:Nat) (fr to:XI),m+s=ns.length→m<k→fr.length=s→to.length=s→∃ Pz to',oB q k ns fr to (s:Int)=some (Pz,to',())∧Pz.length=ns.length∧to'.length=ns.length
 |0,s,k+1,fr,to,h,_,hf,ht=>by
  have h2:¬ s<ns.length:=by omega
  exact⟨fr,to,by simp only[go_sem,oB,Q5,h2],by omega,by omega⟩
 |m+1,s,k+1,fr,to,h,hk,hf,ht=>by
  have bf:s<ns.length:=by omega
  obtain⟨Pz,to',e1,e2,e3⟩:=aek hl q m (s+1) k (fr++[-1]) (to++[-1]) (by omega) (by omega) (by simp;omega) (by simp;omega)
  exact⟨Pz,to',by simp only[go_sem,oB,Q5,bf,zG (show fr.length≤2000000 by omega),zG (show to.length≤2000000 by omega),ag (show s<_ by omega),e1],e2,e3⟩
section
variable {ns:List eu} {t:zo} {D:AS}
theorem ael(hp:P1 ns t D)(fG:jC ns)(He:∀ x∈t.2.2,HR ns t x.1 x.2.2.2.2.toNat)(hl:ns.length≤1401):∀ m s,m+s=t.2.2.length→cz fun q k=>∀(fn:Int) (O En:XI) (H:XB) (E:ES) (fr to:XI),FG t.2.2.length t.2.2.length O H E→En.length=s→O.length≤s * 8000→E.length≤s * 8000→fr.length=ns.length→to.length=ns.length→
  ∃ fn' O' En' H' E' Pz to',oC q k t.2.2 t.1 t.2.1 t.2.2 ns fn O En H E fr to (s:Int)=some (fn',O',En',H',E',Pz,to',())∧FG t.2.2.length t.2.2.length O' H' E'∧E'.length≤48000∧En'.length=t.2.2.length
 |0,s,h=>by
  have h2:¬ s<t.2.2.length:=by omega
  have hf6:=hp.iK.f;refine cz.succ (cz.of fun q k fn O En H E fr to hg hEn hO hE tZ Jj=>⟨fn,O,En,H,E,fr,to,by simp only[go_sem,oC,Q5,h2],hg,by omega,by omega⟩)
 |m+1,s,h=>by
  have bf:s<t.2.2.length:=by omega
  have hf6:=hp.iK.f;have hb:=hp.bd _ (aQa bf);have hw:=hb.2.2.2;have hB:=(Xf (nf:=t.2.2.length) (nmf:=t.2.2[s].1) hp.iK fG (t.2.2[s].2.2.2.2.toNat+1) t.2.2[s].2.2.2.2.toNat (by omega) (by omega) (He _ (aQa bf))).1 (by rw[aRa hb.1];exact hb.2.2.1)
  unfold BFS at hB;rw[aRa hb.1] at hB;refine cz.succ ((hB.tn.and (ael hp fG He hl m (s+1) (by omega))).mono fun q k e fn O En H E fr to hg hEn hO hE tZ Jj=>?_)
  have f0:(0:Int)≤(s:Int):=by omega
  have f1:(s:Int)<(t.2.2.length:Nat):=by omega
  have hp1:=rE hg (show O.length≤2000000 by omega) (s:Int) false
  have BM:=hg.oF f0 f1 false;have HG:=rE BM (show(O++[(s:Int)]).length≤2000000 by simp;omega) (s:Int) false
  have LX:=BM.oF f0 f1 false;have hen:bE En [(O.length:Int)]=some (En++[(O.length:Int)]):=zG (by omega)
  obtain⟨O1,H1,E1,fr1,to1,w1,w2,w3,w3'⟩:=e.1 (s:Int) (O++[(s:Int)]++[(s:Int)]) (H++[false]++[false]) E (En++[(O.length:Int)]) fr to (O.length:Int) ((O++[(s:Int)]).length:Int) LX f0 f1 (by omega) (by simp;omega) tZ Jj (by simp;omega) (by omega)
  have l1:=w2.lo;have l2:=w2.hi;have l3:=w2.eh;simp only[aua,aAa,aza] at l1 l2;have hg3:=w2.fg.zq (f:=((O++[(s:Int)]).length:Int)) (t:=((O++[(s:Int)]).length:Int)) (k:=6) (n:=-1) (a:=0) (by omega) (by simp;omega) (fun h=>absurd h (by decide))
  obtain⟨GW,O2,En2,H2,E2,fr2,Db,w4,w5,w6,w7⟩:=e.2 (s:Int) O1 (En++[(O.length:Int)]) H1 (E1++[(((O++[(s:Int)]).length:Int),((O++[(s:Int)]).length:Int),6,-1,0)]) fr1 to1 hg3 (by simp;omega) (by omega) (by simp;omega) w3 w3'
  refine⟨GW,O2,En2,H2,E2,fr2,Db,?_,w5,w6,w7⟩;simp only[go_sem,oC,Q5,bf,hp1,hen,HG,cF bf,w1,uF (show E1.length≤2000000 by omega),ag (show s<_ by omega),w4]
end
section
variable {O En:XI} {H:XB} {E:ES}
theorem Ut{α:Type}{l:List α}{v:Int}(h0:0≤v)(h1:v<l.length):∃ y,bL l v=some y∧bL l ((v.toNat:Nat):Int)=some y:=by
 obtain⟨y,hy⟩:=at_len (l:=l) (i:=v.toNat) rfl (by omega)
 exact⟨y,by rw[←hy,aRa h0],hy⟩
theorem Va{n:Nat}(hg:FG n n O H E)(hl:E.length≤100000)(fn:Int)(q:Nat):∀(m s k:Nat) (r:XB),m+s=E.length→m<k→r.length=n→∃ r',gX q k O E fn r (s:Int)=some (r',())∧r'.length=n
 |0,s,k+1,r,h,_,hr=>by
  have h2:¬ s<E.length:=by omega
  exact⟨r,by simp only[go_sem,gX,Q5,h2],hr⟩
 |m+1,s,k+1,r,h,hk,hr=>by
  have bf:s<E.length:=by omega
  have he:=hg.ed _ (aQa bf);obtain⟨r1,e1,e2⟩:=Va hg hl fn q m (s+1) k r (by omega) (by omega) hr
  cases h5:(E[s].2.2.1==5) with
  |false=>exact⟨r1,by simp only[go_sem,gX,aa,Q5,bf,cF bf,h5,ag (show s<_ by omega),e1],e2⟩
  |true=>
   have ha:=he.2.2 (a_a.1 h5);obtain⟨o,o1,o2⟩:=Ut (l:=O) he.1 he.2.1;have hom:o∈O:=by
    simp only[go_sem,bL,aDa,show decide (0≤((E[s].1.toNat:Nat):Int))=true from decide_eq_true (by omega)] at o2
    exact a2a o2
   have ho:=hg.ow o hom;obtain⟨b,b1,b2⟩:=Ut (l:=r) (v:=o) ho.1 (by omega)
   obtain⟨c,c1,c2⟩:=Ut (l:=r) (v:=E[s].2.2.2.2) ha.1 (by omega)
   obtain⟨r2,e3,e4⟩:=Va hg hl fn q m (s+1) k (r.set E[s].2.2.2.2.toNat true) (by omega) (by omega) (by simpa using hr)
   have UC:gX q (k+1) O E fn r (s:Int)=bif (o==fn||b) then gX q k O E fn (r.set E[s].2.2.2.2.toNat true) ((s+1:Nat):Int) else gX q k O E fn r ((s+1:Nat):Int):=by
    simp only[go_sem,gX,aa,Q5,bf,cF bf,h5,o1,b1,b2,c1,c2,ag (show s<_ by omega)]
    cases (o==fn)<;>rfl
   rw[UC];cases (o==fn||b) with
   |false=>exact⟨r1,e1,e2⟩
   |true=>exact⟨r2,e3,e4⟩
theorem Z7{n:Nat}(hg:FG n n O H E)(hn:n≤6)(hEn:En.length=n)(hl:E.length≤100000)(fn:Int)(q:Nat)(hq:100001≤q):∀(m s k:Nat) (r:XB),m+s=n→m<k→r.length=n→∃ r',mt q k O En E fn r (s:Int)=some (r',())∧r'.length=n
 |0,s,k+1,r,h,_,hr=>by
  have h2:¬ s<En.length:=by omega
  exact⟨r,by simp only[go_sem,mt,Q5,h2],hr⟩
 |m+1,s,k+1,r,h,hk,hr=>by
  have bf:s<En.length:=by omega
  obtain⟨r1,e1,e2⟩:=Va hg hl fn q E.length 0 q r (by omega) (by omega) hr
  obtain⟨r2,e3,e4⟩:=Z7 hg hn hEn hl fn q hq m (s+1) k r1 (by omega) (by omega) e2
  have e1:gX q q O E fn r 0=_:=e1;exact⟨r2,by simp only[go_sem,mt,Q5,bf,e1,ag (show s<_ by omega),e3],e4⟩
theorem TR{n:Nat}(hg:FG n n O H E)(hn:n≤6)(hEn:En.length=n)(hl:E.length≤100000)(fn:Int){k:Nat}(hk:100001≤k):∃ r,xP k (O,En,H,E) fn=some (r,())∧r.length=n:=by
 obtain⟨r,e1,e2⟩:=Z7 hg hn hEn hl fn k hk n 0 k (List.replicate n false) (by omega) (by omega) (by simp)
 have e1:mt k k O En E fn (List.replicate n false) 0=_:=e1;exact⟨r,by simp only[go_sem,xP,hEn,J6 n false (by omega),Ff (bxa (n:=n) (a:=false)),e1],e2⟩
theorem kZ{n:Nat}{r:XB}(hr:r.length=n)(hn:n≤6)(q:Nat):∀(m s k:Nat) (d:XB),m+s=n→m<k→d.length=n→∃ d',nA q k r d (s:Int)=some (d',())∧d'.length=n
 |0,s,k+1,d,h,_,hd=>by
  have h2:¬ s<r.length:=by omega
  exact⟨d,by simp only[go_sem,nA,Q5,h2],hd⟩
 |m+1,s,k+1,d,h,hk,hd=>by
  have bf:s<r.length:=by omega
  obtain⟨y,hy⟩:=at_len (l:=d) hd (show s<n by omega)
  obtain⟨z,hz⟩:=at_len (l:=r) hr (show s<n by omega)
  obtain⟨d1,e1,e2⟩:=kZ hr hn q m (s+1) k (d.set s (y||z)) (by omega) (by omega) (by simpa using hd)
  refine⟨d1,?_,e2⟩;rw[←e1];simp only[go_sem,nA,aa,Q5,bf,aDa,hy,hz,ag (show s<_ by omega)]
  cases y<;>rfl
theorem Yy{n:Nat}(hg:FG n n O H E)(hn:n≤6)(hEn:En.length=n)(hl:E.length≤100000)(q:Nat)(hq:100001≤q):∀(m s k:Nat) (d:XB),m+s=n→m<k→d.length=n→∃ d',jk q k O En H E d (s:Int)=some (d',())∧d'.length=n
 |0,s,k+1,d,h,_,hd=>by
  have h2:¬ s<En.length:=by omega
  exact⟨d,by simp only[go_sem,jk,Q5,h2],hd⟩
 |m+1,s,k+1,d,h,hk,hd=>by
  have bf:s<En.length:=by omega
  obtain⟨r,e1,e2⟩:=TR hg hn hEn hl (s:Int) hq;obtain⟨x,hx⟩:=at_len (l:=r) e2 (show s<n by omega)
  obtain⟨y,hy⟩:=at_len (l:=d) hd (show s<n by omega)
  obtain⟨d1,e3,e4⟩:=kZ e2 hn q n 0 q (d.set s true) (by omega) (by omega) (by simpa using hd)
  have e3:nA q q r (d.set s true) 0=_:=e3;obtain⟨d2,e5,e6⟩:=Yy hg hn hEn hl q hq m (s+1) k d (by omega) (by omega) hd
  obtain⟨d3,e7,e8⟩:=Yy hg hn hEn hl q hq m (s+1) k d1 (by omega) (by omega) e4
  have UC:jk q (k+1) O En H E d (s:Int)=bif x then jk q k O En H E d1 ((s+1:Nat):Int) else jk q k O En H E d ((s+1:Nat):Int):=by
   simp only[go_sem,jk,aa,Q5,bf,e1,hx,hy,aDa,e3,ag (show s<_ by omega)]
   cases x<;>rfl
  rw[UC];cases x with
  |false=>exact⟨d2,e5,e6⟩
  |true=>exact⟨d3,e7,e8⟩
end
section
variable {ns:List eu} {t:zo} {D:AS}
theorem XJ(hp:P1 ns t D)(fG:jC ns)(He:∀ x∈t.2.2,HR ns t x.1 x.2.2.2.2.toNat)(hl:ns.length≤1401):Ev fun k=>∀ ce,gp k ce=some (ns,(0,0),())→fo k ce=some (t,(0,0),())→
  ∃ O En H E d,rG k ce=some (.inl (t.1,t.2.1,t.2.2,ns,O,En,H,E,d,true,())):=by
 have hf6:=hp.iK.f;refine((ael hp fG He hl t.2.2.length 0 rfl).j9.and (⟨200000,fun k hk=>hk⟩:Ev fun k=>200000≤k)).mono fun k e ce hT hN=>?_;obtain⟨e2,hk⟩:=e;obtain⟨fr,to,w1,w2,w3⟩:=aek (ns:=ns) (by omega) k ns.length 0 k [] [] rfl (by omega) rfl rfl
 obtain⟨fn,O,En,H,E,Pz,to',w4,w5,w6,w7⟩:=e2 0 [] [] [] [] fr to ⟨rfl,by simp,by simp⟩ rfl (by simp) (by simp) w2 w3
 obtain⟨d,w8,_⟩:=Yy w5 hf6 w7 (by omega) k (by omega) t.2.2.length 0 k (List.replicate t.2.2.length false) (by omega) (by omega) (by simp)
 have w1:oB k k ns [] [] 0=_:=w1;have w4:oC k k t.2.2 t.1 t.2.1 t.2.2 ns 0 [] [] [] [] fr to 0=_:=w4;have w8:jk k k O En H E (List.replicate t.2.2.length false) 0=_:=w8;refine⟨O,En,H,E,d,?_⟩;simp only[go_sem,rG,hN,hT,HB,Hz,w1,w4,EK,w7,J6 t.2.2.length false (by omega),Ff (bxa (n:=t.2.2.length) (a:=false)),w8]
end
theorem AA(q:Nat)(A:AS):∀ k l i,mA q k A (A.length:Int) l i=eI q k A l i
 |0,_,_=>rfl
 |k+1,l,i=>by simp only[mA,eI,AA q A k];cases bL A i<;>rfl
theorem st2(q:Nat)(ns:List eu):∀ k l i,mB q k ns (ns.length:Int) l i=dU q k ns l i
 |0,_,_=>rfl
 |k+1,l,i=>by simp only[mB,dU,aa,st2 q ns k];cases bL ns i<;>rfl
theorem Vl(k:Nat)(ns:List eu)(A:AS):rp k ns A=mh k A ns:=by simp only[rp,mh,AA,st2]
theorem Vk(A:AS)(ns:List eu)(ha:A.length≤4)(hn:ns.length≤1401){k:Nat}(hk:2000≤k):∃ l:XI,mh k A ns=some (l,())∧l.length≤20000:=by
 have l0:∀(m s k':Nat) (l:XI),m+s=A.length→m<k'→l.length≤2 * s→∃ l',eI k k' A l (s:Int)=some (l',())∧l'.length≤8:=by
  intro m;induction m with
  |zero=>
   intro s k' l h PI hl;obtain⟨k',rfl⟩:∃ j,k' = j+1:=⟨k' - 1,by omega⟩
   have h2:¬ s<A.length:=by omega
   exact⟨l,by simp only[go_sem,eI,Q5,h2],by omega⟩
  |succ m ih=>
   intro s k' l h PI hl;obtain⟨k',rfl⟩:∃ j,k' = j+1:=⟨k' - 1,by omega⟩
   have bf:s<A.length:=by omega
   obtain⟨l',e1,e2⟩:=ih (s+1) k' (l++[bC (A[s].2 - 1),A[s].2]) (by omega) (by omega) (by simp;omega)
   have ha:bE l [bC (A[s].2 - 1),A[s].2]=some (l++[bC (A[s].2 - 1),A[s].2]):=oO (by simp;omega)
   exact⟨l',by simp only[go_sem,eI,Q5,bf,cF bf,ha,ag (show s<_ by omega),e1],e2⟩
 have l2:∀(m s k':Nat) (l:XI),m+s=ns.length→m<k'→l.length≤8+6 * s→∃ l',dU k k' ns l (s:Int)=some (l',())∧l'.length≤20000:=by
  intro m;induction m with
  |zero=>
   intro s k' l h PI hl;obtain⟨k',rfl⟩:∃ j,k' = j+1:=⟨k' - 1,by omega⟩
   have h2:¬ s<ns.length:=by omega
   exact⟨l,by simp only[go_sem,dU,Q5,h2],by omega⟩
  |succ m ih=>
   intro s k' l h PI hl;obtain⟨k',rfl⟩:∃ j,k' = j+1:=⟨k' - 1,by omega⟩
   have bf:s<ns.length:=by omega
   cases h24:(ns[s].1==24) with
   |false=>
    obtain⟨l',e1,e2⟩:=ih (s+1) k' l (by omega) (by omega) (by omega)
    exact⟨l',by simp only[go_sem,dU,aa,Q5,bf,cF bf,h24,ag (show s<_ by omega),e1],e2⟩
   |true=>
    have ha:∀ a b c d e f:Int,bE l [a,b,c,d,e,f]=some (l++[a,b,c,d,e,f]):=fun a b c d e f=>oO (by simp;omega)
    obtain⟨l',e1,e2⟩:=ih (s+1) k' (l++[bC (ns[s].2.2.1 - 1),ns[s].2.2.1,bC (ns[s].2.2.1+1),bC (bC (0 - ns[s].2.2.1) - 1),bC (0 - ns[s].2.2.1),bC (1 - ns[s].2.2.1)]) (by omega) (by omega) (by simp;omega)
    exact⟨l',by simp only[go_sem,dU,aa,Q5,bf,cF bf,h24,ha,ag (show s<_ by omega),e1],e2⟩
 obtain⟨a,e1,e2⟩:=l0 A.length 0 k [] rfl (by omega) (by simp)
 obtain⟨b,e3,e4⟩:=l2 ns.length 0 k a rfl (by omega) (by omega)
 have e1:eI k k A [] 0=_:=e1;have e3:dU k k ns a 0=_:=e3;exact⟨b,by simp only[go_sem,mh,e1,e3],e4⟩
theorem Xr(ce:ab):(∃ c p,c≠0∧Ev fun k=>fo k ce=some (([],[],[]),(c,p),())∧tK k ce=some (.inr ((c,p),())))∨
  ∃ ns t D,Us ns∧P1 ns t D∧Ev fun k=>(gp k ce=some (ns,(0,0),())∧fo k ce=some (t,(0,0),()))∧
   (∃ ki pl O En H E la out d,tK k ce=some (.inl (ns,t.1,t.2.1,t.2.2,ki,pl,O,En,H,E,la,out,d,(0,0),())))∧∃ O En H E d,rG k ce=some (.inl (t.1,t.2.1,t.2.2,ns,O,En,H,E,d,true,())):=by
 rcases U5 ce with ⟨ns,hT,he⟩|⟨c,p,hc,he⟩
 ·rcases Vo hT with ⟨c,p,hc,hN⟩|⟨t,D,hp,He,hN⟩
  ·refine .inl ⟨c,p,hc,(he.and hN).mono fun k e=>⟨e.2.2 ce e.1.1,?_⟩⟩
   simp only[go_sem,tK,e.1.2,e.2.1,a1a.2 hc]
  ·have hl:ns.length≤1401:=hT.len
   refine .inr ⟨ns,t,D,hT,hp,((he.and hN).and ((Xs hp hT.all He hl).and (XJ hp hT.all He hl))).mono fun k e=>?_⟩;obtain⟨⟨⟨e1,e2⟩,e3,e4⟩,e5,e6⟩:=e;exact⟨⟨e1,e4 ce e1⟩,e5 ce e2 e3,e6 ce e1 (e4 ce e1)⟩
 ·refine .inl ⟨c,p,hc,he.mono fun k e=>⟨by simp only[go_sem,fo,e.1,a1a.2 hc],?_⟩⟩
  simp only[go_sem,tK,e.2,a1a.2 hc]
end Go.Fx.R5
namespace Go.Fx.R5
open Go Go.Fx
theorem X2{x y:Int}(hx:0≤x)(hx2:x<1000000000000000)(hy:0≤y)(Iy:y<1000000000000000):0≤Pf .xor .i64 x y:=by
 have e:∀ z:Int,0≤z→z<1000000000000000→(BitVec.ofInt 64 z).toNat=z.toNat:=fun z h0 h1=>by rw[BitVec.toNat_ofInt];omega
 have h:(BitVec.ofInt 64 x ^^^ BitVec.ofInt 64 y).toNat<2 ^ 60:=by rw[BitVec.toNat_xor,e x hx hx2,e y hy Iy];exact Nat.xor_lt_two_pow (by omega) (by omega)
 have hb:Pf .xor .i64 x y=bC ((BitVec.ofInt 64 x ^^^ BitVec.ofInt 64 y).toNat:Int):=rfl;rw[hb];have:=bF (x:=((BitVec.ofInt 64 x ^^^ BitVec.ofInt 64 y).toNat:Int)) (by omega) (by omega)
 rw[this];omega
theorem Oa{x:Int}(h:0≤x){n:Nat}(hn:1≤n):∃ v:Nat,v<n∧x.tmod (n:Int)=(v:Int):=by
 have h1:=Int.tmod_nonneg (n:Int) h;have h2:=Int.tmod_lt_of_pos x (show(0:Int)<n by omega)
 exact⟨(x.tmod n).toNat,by omega,by omega⟩
structure By(b:XI):Prop where
 v:∀ x∈b,0≤x∧x≤255
 l:b.length≤2000
theorem By.at{b:XI}(h:By b){i:Nat}(hi:i<b.length):0≤b[i]∧b[i]≤255:=h.v _ (aQa hi)
theorem abr{b:XI}(hb:By b){p:Nat}(hp:p≤1000000000){n:Nat}(hn:1≤n):∃ v:Nat,v<n∧aI b (p:Int) (n:Int)=some ((v:Int),((p+1:Nat):Int),()):=by
 have hl:=hb.l;have w1:bC ((p:Int)+1)=((p+1:Nat):Int):=ag (by omega)
 have w2:bC (((p+1:Nat):Int) - 1)=(p:Int):=by rw[bF (by omega) (by omega)];omega
 have n1:¬ ((n:Int)<1):=by omega
 have n0:¬ ((n:Int)=0):=by omega
 simp only[go_sem,aI,aa,w1,w2,n1,n0];cases b with
 |nil=>exact⟨0,by omega,rfl⟩
 |cons b0 b=>
  have h0:(((b0::b).length:Int)==0)=false:=Q6.2 (by simp;omega)
  have h1:¬ (((b0::b).length:Int)=0):=by simp;omega
  generalize hB:b0::b=B at *;simp only[go_sem,h0,h1,Q5];have t6:1≤B.length:=by rw[←hB];simp
  by_cases bf:p<B.length
  ·obtain⟨x0,x1⟩:=hb.at bf
   obtain⟨v,v1,v2⟩:=Oa (x:=bC B[p]) (by rw[bF (by omega) (by omega)];exact x0) hn
   exact⟨v,v1,by simp only[go_sem,bf,cF bf,v2]⟩
  ·have a0:bC ((p:Int) * 7)=(p:Int) * 7:=bF (by omega) (by omega)
   have a1:bC ((p:Int) * 7+3)=(p:Int) * 7+3:=bF (by omega) (by omega)
   obtain⟨i,i1,i2⟩:=Oa (x:=(p:Int)) (by omega) t6
   obtain⟨j,j1,j2⟩:=Oa (x:=(p:Int) * 7+3) (by omega) t6
   obtain⟨x0,x1⟩:=hb.at i1;obtain⟨y0,y1⟩:=hb.at j1;have d0:0≤(p:Int).tdiv (B.length:Int):=Int.tdiv_nonneg (by omega) (by omega)
   have d1:(p:Int).tdiv (B.length:Int)≤p:=by rw[Int.tdiv_eq_ediv_of_nonneg (by omega)];exact Int.ediv_le_self _ (by omega)
   generalize hd:(p:Int).tdiv (B.length:Int)=d at d0 d1;generalize hX:B[i]=X at x0 x1;generalize hY:B[j]=Y at y0 y1;have c1:bC X=X:=bF (by omega) (by omega)
   have c2:bC Y=Y:=bF (by omega) (by omega)
   have c3:bC (X * 131)=X * 131:=bF (by omega) (by omega)
   have c4:bC (Y * 1117)=Y * 1117:=bF (by omega) (by omega)
   have c5:bC (X * 131+Y * 1117)=X * 131+Y * 1117:=bF (by omega) (by omega)
   have c6:bC ((p:Int) * 29)=(p:Int) * 29:=bF (by omega) (by omega)
   have c7:bC (X * 131+Y * 1117+(p:Int) * 29)=X * 131+Y * 1117+(p:Int) * 29:=bF (by omega) (by omega)
   have c8:bC d=d:=bF (by omega) (by omega)
   have c9:bC (d * 53)=d * 53:=bF (by omega) (by omega)
   have c10:bC (X * 131+Y * 1117+(p:Int) * 29+d * 53)=X * 131+Y * 1117+(p:Int) * 29+d * 53:=bF (by omega) (by omega)
   have e0:0≤X * 131+Y * 1117+(p:Int) * 29+d * 53:=by omega
   have e1:X * 131+Y * 1117+(p:Int) * 29+d * 53<1000000000000000:=by omega
   generalize hE:X * 131+Y * 1117+(p:Int) * 29+d * 53=A at c10 e0 e1;have f0:0≤A.tdiv 64:=Int.tdiv_nonneg e0 (by omega)
   have f1:A.tdiv 64≤A:=by rw[Int.tdiv_eq_ediv_of_nonneg e0];exact Int.ediv_le_self _ e0
   have Mu:bC (A.tdiv 64)=A.tdiv 64:=bF (by omega) (by omega)
   obtain⟨v,v1,v2⟩:=Oa (X2 e0 e1 f0 (by omega)) hn
   exact⟨v,v1,by simp only[go_sem,bf,a0,a1,i2,j2,cF i1,cF j1,hX,hY,c1,c2,c3,c4,c5,c6,c7,hd,c8,c9,hE,c10,Mu,v2]⟩
def ci{α:Type}(P:α→Prop)(x:Option α):Prop:=∃ a,x=some a∧P a
section
variable {α β:Type} {P R:α→Prop} {x:Option α}
theorem ci.of{a:α}(h:P a):ci P (some a):=⟨a,rfl,h⟩
theorem ci.mono(h:ci P x)(g:∀ a,P a→R a):ci R x:=let⟨a,e,p⟩:=h;⟨a,e,g a p⟩
theorem ci.bind{S:β→Prop}{f:α→Option β}(h:ci P x)(g:∀ a,P a→ci S (f a)):ci S (x.bind f):=by obtain⟨a,rfl,p⟩:=h;exact g a p
theorem ci.bif{c:Bool}{x y:Option α}(h:c=true→ci P x)(g:c=false→ci P y):ci P (bif c then x else y):=by
 cases c with
 |false=>exact g rfl
 |true=>exact h rfl
theorem ci.afh{β:Type}(I:β→Prop){f:β→Option α}{body:(β→Option α)→Option α}(h:∀ v,I v→ci P (f v))(g:∀ jx,(∀ v,I v→ci P (jx v))→ci P (body jx)):ci P (aa f body):=g f h
theorem ci.KB{f:Bool→Option α}{body:(Bool→Option α)→Option α}(h:∀ v,ci P (f v))(g:∀ jx,(∀ v,ci P (jx v))→ci P (body jx)):ci P (aa f body):=g f h
theorem ci.tn{c d e:Bool}{jx:Bool→Option α}(h:∀ v,ci P (jx v)):ci P (bif c then jx d else jx e):=.bif (fun _=>h _) fun _=>h _
end
section
variable {β:Type} {S:β→Prop} {b:XI}
theorem ci.pick{f:Int×Int×Unit→Option β}(hb:By b){p:Nat}{n:Int}(m:Nat)(hm:n=(m:Int))(g:∀ v:Nat,v<m→ci S (f ((v:Int),((p+1:Nat):Int),())))(hp:p≤1000000000:=by omega)(hn:1≤m:=by omega):ci S ((aI b (p:Int) n).bind f):=by subst hm;obtain⟨v,v1,v2⟩:=abr hb hp hn;rw[v2];exact g v v1
theorem ci.bE{l m:ab}{f:ab→Option β}(A B:Nat)(hl:l.length≤A)(hm:m.length≤B)(g:∀ s:ab,s.length≤A+B→ci S (f s))(hAB:A+B≤1000000000:=by omega):ci S ((Go.Fx.bE l m).bind f):=by
 rw[oO (by omega)]
 exact g _ (by simp;omega)
def Gn(L M p:Nat)(r:ab×Int×Unit):Prop:=∃(s:ab) (p':Nat),r=(s,(p':Int),())∧s.length≤L∧p'≤p+M
theorem Gn.of{L M p p':Nat}{s:ab}(h1:s.length≤L:=by omega)(h2:p'≤p+M:=by omega):ci (Gn L M p) (some (s,(p':Int),())):=⟨_,rfl,s,p',rfl,h1,h2⟩
theorem Gn.bind{L M p:Nat}{x:Option (ab×Int×Unit)}{f:ab×Int×Unit→Option β}(h:ci (Gn L M p) x)(g:∀(s:ab) (p':Nat),s.length≤L→p'≤p+M→ci S (f (s,(p':Int),()))):ci S (x.bind f):=by obtain⟨_,rfl,s,p',rfl,h1,h2⟩:=h;exact g s p' h1 h2
end
def Ws(n:Nat)(l:XS):Prop:=∀ x∈l,x.length≤n
section
variable {b:XI} {p:Nat}
theorem wP(hb:By b){n:Nat}{l:XS}(hl:Ws n l)(hp:p≤1000000000:=by omega)(h1:1≤n:=by omega):ci (Gn n 1 p) (bK b (p:Int) l):=by
 unfold bK;refine ci.bif (fun _=>Gn.of (by simpa using h1)) fun h=>?_
 have h:=Q6.1 h;refine ci.pick hb l.length rfl fun v hv=>?_;simp only[go_sem,cF hv];exact Gn.of (hl _ (aQa hv)) (by omega)
theorem MI{k:Nat}{n:Nat}(hk:4≤k:=by omega)(hn:n<60:=by omega):ci (fun r:ab×Unit=>r.1.length≤2) (ny k (n:Int)):=by
 obtain⟨k,rfl⟩:∃ j,k=j+4:=⟨k - 4,by omega⟩
 have h:((List.range 60).map fun n=>(match ny (k+4) (n:Nat) with|some (s,())=>decide (s.length≤2)|none=>false))=(List.range 60).map fun _=>true:=by kernel_rfl
 have h:=bWa (·[n]?) h
 simp only[bIa,List.getElem?_range hn,bLa,Ob] at h;split at h
 ·rename_i s e;exact⟨_,e,b8a h⟩
 ·cases h
end
end Go.Fx.R5
namespace Go.Fx.R5
open Go Go.Fx
structure Wz(hG fU gK:XS):Prop where
 i:Ws 4 hG
 r:Ws 4 fU
 o:Ws 4 gK
abbrev TFn:=XS→XS→XS→Int→XI→Int→Int→Option (ab×Int×Unit)
def zE(B L M:Nat)(d:Int)(f:TFn):Prop:=∀ hG fU gK less b (p:Nat),Wz hG fU gK→By b→p≤B→ci (Gn L M p) (f hG fU gK less b (p:Int) d)
theorem pL{n:Nat}{l:XS}(h:(l.all fun x=>decide (x.length≤n))=true):Ws n l:=fun x hx=>b8a (aqa.1 h x hx)
theorem aaz{k:Nat}(hk:5≤k):zE 900000000 4 3 0 (cC k):=fun hG fU gK less b p hw hb hp=>by
 obtain⟨k,rfl⟩:∃ j,k=j+1:=⟨k - 1,by omega⟩
 simp only[go_sem,cC,tm,aa,cpa];refine ci.pick hb 12 rfl fun v hv=>ci.pick hb 2 rfl fun v2 F6=>ci.bif (fun _=>?_) fun _=>?_
 ·exact Gn.bind (wP hb hw.i) fun s p' h1 h2=>Gn.of h1
 ·refine ci.pick hb 9 rfl fun v3 hv3=>ci.bind (MI (k:=k) (n:=v3)) fun r hr=>Gn.of
theorem acN{k L M B B2:Nat}{d:Int}(hk:4≤k)(hd:0<d)(hL:L≤1000000)(hM:M≤1000000)(h4:4≤L)(hB:B2+2 * M+5≤B)(hB2:B≤900000000)(h:zE B L M (bC (d - 1)) (cC k))(h0:zE B L M 0 (cC k)):zE B2 (2 * L+10) (2 * M+5) d (cC (k+1)):=fun hG fU gK less b p hw hb hp=>by
 have hd0:¬ d≤0:=by omega
 simp only[go_sem,cC,tm,aa,hd0];refine ci.pick hb 12 rfl fun v hv=>ci.bif (fun _=>?_) fun _=>ci.bif (fun _=>?_) fun _=>ci.bif (fun _=>?_) fun _=>?_
 ·refine ci.pick hb 2 rfl fun v2 F6=>ci.bif (fun _=>?_) fun _=>?_
  ·exact Gn.bind (wP hb hw.i) fun s p' h1 h2=>Gn.of (s:=s)
  ·refine ci.pick hb 9 rfl fun v3 hv3=>ci.bind (MI (k:=k) (n:=v3)) fun r hr=>Gn.of
 ·exact Gn.bind (wP hb (n:=10) (pL (by decide))) fun s p' h1 h2=>Gn.of (s:=s)
 ·refine Gn.bind (h _ _ _ _ _ _ hw hb (by omega)) fun s p' h1 h2=>ci.bE 2 L (by decide) h1 fun s h3=>ci.bE _ 1 h3 (by decide) fun s h4=>Gn.of
 ·have sk:ci (Gn (2 * L+10) (2 * M+5) p) (bif ((v:Int)==6) then(cC k hG fU gK less b ((p+1:Nat):Int) 0).bind fun r9=>(Go.Fx.bE ([45]:ab) r9.1).bind fun s4=>some (s4,r9.2.1,()) else
    (bK b ((p+1:Nat):Int) ([([43]:ab),([45]:ab),([42]:ab),([47]:ab),([37]:ab),([38]:ab),([124]:ab),([94]:ab),([60,60]:ab),([62,62]:ab),([43,37]:ab),([45,37]:ab),([42,37]:ab),([43]:ab),([45]:ab),([43]:ab)])).bind fun kC=>
     (cC k hG fU gK less b kC.2.1 (bC (d - 1))).bind fun oc=>
     (Go.Fx.bE oc.1 ([32]:ab)).bind fun s5=>(Go.Fx.bE s5 kC.1).bind fun s6=>(Go.Fx.bE s6 ([32]:ab)).bind fun s7=>
     (cC k hG fU gK less b oc.2.1 (bC (d - 1))).bind fun pf=>(Go.Fx.bE s7 pf.1).bind fun s8=>
     (aI b pf.2.1 2).bind fun p7=>bif p7.1==0 then(Go.Fx.bE ([40]:ab) s8).bind fun s9=>(Go.Fx.bE s9 ([41]:ab)).bind fun s10=>some (s10,p7.2.1,()) else some (s8,p7.2.1,())):=by
   refine ci.bif (fun _=>?_) fun _=>?_
   ·exact Gn.bind (h0 _ _ _ _ _ _ hw hb (by omega)) fun s p' h1 h2=>ci.bE 1 L (by decide) h1 fun s h3=>Gn.of
   ·refine Gn.bind (wP hb (n:=2) (pL (by decide))) fun so p1 a1 a2=>Gn.bind (h _ _ _ _ _ _ hw hb (by omega)) fun s p2 b1 b2=>ci.bE L 1 b1 (by decide) fun s c1=>ci.bE _ 2 c1 a1 fun s c2=>ci.bE _ 1 c2 (by decide) fun s c3=>
      Gn.bind (h _ _ _ _ _ _ hw hb (by omega)) fun s2 p3 d1 d2=>ci.bE _ _ c3 d1 fun s c4=>ci.pick hb 2 rfl fun v2 _=>ci.bif (fun _=>?_) fun _=>Gn.of
    exact ci.bE 1 _ (by decide) c4 fun s e1=>ci.bE _ 1 e1 (by decide) fun s e2=>Gn.of
  refine ci.bif (fun _=>ci.bif (fun _=>?_) fun _=>sk) fun _=>sk;exact Gn.bind (wP hb hw.r) fun s p' h1 h2=>ci.bE 1 4 (by decide) h1 fun s h3=>Gn.of
theorem zE.mono{B B2 L M L2 M2:Nat}{d:Int}{f:TFn}(h:zE B L M d f)(hL:L≤L2)(hM:M≤M2)(hB:B2≤B):zE B2 L2 M2 d f:=fun hG fU gK less b p hw hb hp=>(h hG fU gK less b p hw hb (bGa hp hB)).mono fun r ⟨s,p',e,a,c⟩=>⟨s,p',e,by omega,by omega⟩
theorem WP{k:Nat}(hk:6≤k):zE 800000000 30 11 1 (cC k):=by
 obtain⟨k,rfl⟩:∃ j,k=j+1:=⟨k - 1,by omega⟩
 have h:=(aaz (k:=k) (by omega)).mono (show 4≤10 by omega) (show 3≤3 by omega) (axa _)
 exact acN (L:=10) (M:=3) (by omega) (by omega) (by omega) (by omega) (by omega) (by omega) (by omega) h h
theorem acM{k:Nat}(hk:7≤k):zE 700000000 70 27 2 (cC k):=by
 obtain⟨k,rfl⟩:∃ j,k=j+1:=⟨k - 1,by omega⟩
 exact acN (L:=30) (M:=11) (by omega) (by omega) (by omega) (by omega) (by omega) (by omega) (by omega) (WP (by omega)) ((aaz (by omega)).mono (by omega) (by omega) (by omega))
end Go.Fx.R5
namespace Go.Fx.R5
open Go Go.Fx
theorem Pk{k:Nat}(hk:20≤k){hG fU gK:XS}{less:Int}{b:XI}{p v:Nat}(hw:Wz hG fU gK)(hb:By b)(hp:p≤600000000)(hv:v<9){c:Bool}:ci (Gn 100 30 p)
  (bif c then(bK b (p:Int) fU).bind fun r7=>(Go.Fx.bE ([110,117,108,108,32]:ab) r7.1).bind fun s7=>some (s7,r7.2.1,()) else
   bif decide ((v:Int)<6) then(qt (fV k) k b hG (p:Int)).bind fun o=>some (o.2.1,o.1,()) else
    (cC k hG fU gK less b (p:Int) 1).bind fun r8=>(Go.Fx.bE r8.1 ([32]:ab)).bind fun s8=>
    (bK b r8.2.1 ([([61,61]:ab),([33,61]:ab),([60]:ab),([60,61]:ab),([62]:ab),([62,61]:ab)])).bind fun r9=>
    (Go.Fx.bE s8 r9.1).bind fun s9=>(Go.Fx.bE s9 ([32]:ab)).bind fun s10=>
    (cC k hG fU gK less b r9.2.1 1).bind fun kC=>(Go.Fx.bE s10 kC.1).bind fun s11=>some (s11,kC.2.1,())):=by
 refine ci.bif (fun _=>?_) fun _=>ci.bif (fun _=>?_) fun _=>?_
 ·exact Gn.bind (wP hb hw.r) fun s p' h1 h2=>ci.bE 5 4 (by decide) h1 fun s h3=>Gn.of
 ·unfold qt
  simp only[Q9];refine Gn.bind (wP hb hw.i) fun s p1 a1 a2=>ci.bE 4 1 a1 (by decide) fun s c1=>Gn.bind (wP hb (n:=2) (pL (by decide))) fun so p2 b1 b2=>
   ci.bE _ 2 c1 b1 fun s c2=>ci.bE _ 1 c2 (by decide) fun s c3=>ci.pick hb 12 rfl fun v3 hv3=>ci.bind (MI (k:=k) (n:=v3)) fun r hr=>
   ci.bE _ 2 c3 hr fun s c4=>Gn.of (s:=s)
 ·exact Gn.bind (WP (by omega) _ _ _ _ _ _ hw hb (by omega)) fun s p1 a1 a2=>ci.bE 30 1 a1 (by decide) fun s c1=>Gn.bind (wP hb (n:=2) (pL (by decide))) fun so p2 b1 b2=>
   ci.bE _ 2 c1 b1 fun s c2=>ci.bE _ 1 c2 (by decide) fun s c3=>Gn.bind (WP (by omega) _ _ _ _ _ _ hw hb (by omega)) fun s2 p3 d1 d2=>ci.bE _ _ c3 d1 fun s c4=>Gn.of
theorem aet{k:Nat}(hk:21≤k):zE 500000000 100 31 0 (fV k):=fun hG fU gK less b p hw hb hp=>by
 obtain⟨k,rfl⟩:∃ j,k=j+1:=⟨k - 1,by omega⟩
 simp only[go_sem,fV,tj,aa,show decide ((0:Int) > 0)=false from rfl]
 refine ci.pick hb 9 rfl fun v hv=>?_;have h:=fun c=>(Pk (k:=k) (less:=less) (p:=p+1) (v:=v) (c:=c) (by omega) hw hb (by omega) hv).mono (R:=Gn 100 31 p) fun r ⟨s,p',e,a,c⟩=>⟨s,p',e,a,by omega⟩
 exact ci.bif (fun _=>h _) fun _=>h false
theorem ab3{k L M B B2:Nat}{d:Int}(hk:20≤k)(hd:0<d)(hL:L≤1000000)(hM:M≤1000000)(h4:100≤L)(h5:31≤M)(hB:B2+2 * M+5≤B)(hB2:B≤500000000)(h:zE B L M (bC (d - 1)) (fV k)):zE B2 (2 * L+10) (2 * M+5) d (fV (k+1)):=fun hG fU gK less b p hw hb hp=>by
 have hd0:d > 0:=by omega
 simp only[go_sem,fV,tj,hd0];refine ci.pick hb 9 rfl fun v hv=>ci.KB (fun c=>ci.bif (fun _=>?_) fun _=>ci.KB (fun c=>ci.bif (fun _=>?_) fun _=>ci.KB (fun c=>ci.bif (fun _=>?_) fun _=>ci.KB (fun c=>?_) fun jx hj=>ci.tn hj) fun jx hj=>hj _) fun jx hj=>hj _) fun jx hj=>hj _
 ·exact Gn.bind (h _ _ _ _ _ _ hw hb (by omega)) fun s p1 a1 a2=>ci.bE L 5 a1 (by decide) fun s c1=>Gn.bind (h _ _ _ _ _ _ hw hb (by omega)) fun s2 p2 b1 b2=>ci.bE _ _ c1 b1 fun s c2=>Gn.of
 ·exact Gn.bind (h _ _ _ _ _ _ hw hb (by omega)) fun s p1 a1 a2=>ci.bE L 4 a1 (by decide) fun s c1=>Gn.bind (h _ _ _ _ _ _ hw hb (by omega)) fun s2 p2 b1 b2=>ci.bE _ _ c1 b1 fun s c2=>Gn.of
 ·exact Gn.bind (h _ _ _ _ _ _ hw hb (by omega)) fun s p1 a1 a2=>ci.bE 5 L (by decide) a1 fun s c1=>ci.bE _ 1 c1 (by decide) fun s c2=>Gn.of
 ·exact(Pk (k:=k) (less:=less) (p:=p+1) (v:=v) (c:=c) hk hw hb (by omega) hv).mono (R:=Gn (2 * L+10) (2 * M+5) p) fun r ⟨s,p',e,a,c⟩=>⟨s,p',e,by omega,by omega⟩
theorem ab2{k:Nat}(hk:22≤k):zE 400000000 210 67 1 (fV k):=by
 obtain⟨k,rfl⟩:∃ j,k=j+1:=⟨k - 1,by omega⟩
 exact ab3 (L:=100) (M:=31) (by omega) (by omega) (by omega) (by omega) (by omega) (by omega) (by omega) (by omega) (aet (by omega))
theorem aeu{k:Nat}(hk:23≤k):zE 300000000 430 139 2 (fV k):=by
 obtain⟨k,rfl⟩:∃ j,k=j+1:=⟨k - 1,by omega⟩
 exact ab3 (L:=210) (M:=67) (by omega) (by omega) (by omega) (by omega) (by omega) (by omega) (by omega) (by omega) (ab2 (by omega))
theorem aan{k:Nat}(hk:20≤k){hG fU gK:XS}{less:Int}{b:XI}{p:Nat}{n:Int}(hw:Wz hG fU gK)(hb:By b)(hp:p≤600000000):ci (Gn 200 60 p) (uI k hG fU gK less b (p:Int) n):=by
 have up:∀{l:XS},Ws 4 l→Ws 10 l:=fun h x hx=>bGa (h x hx) (by omega)
 have one:∀{p:Nat} {l:XS},Ws 10 l→p≤700000000→ci (Gn 10 1 p) (bK b (p:Int) l):=fun hl hp=>wP hb hl;have abm:∀{p:Nat},p≤700000000→ci (Gn 10 1 p) (bK b (p:Int) fU):=fun hp=>one (up hw.r) hp;have Xx:∀{p:Nat},p≤700000000→ci (Gn 10 1 p) (bK b (p:Int) gK):=fun hp=>one (up hw.o) hp;have t1:∀{p:Nat},p≤700000000→ci (Gn 30 11 p) (cC k hG fU gK less b (p:Int) 1):=fun hp=>WP (by omega) _ _ _ _ _ _ hw hb (by omega)
 have t0:∀{p:Nat},p≤700000000→ci (Gn 4 3 p) (cC k hG fU gK less b (p:Int) 0):=fun hp=>aaz (by omega) _ _ _ _ _ _ hw hb (by omega)
 unfold uI;refine ci.bif (fun _=>?_) fun _=>ci.bif (fun _=>?_) fun _=>ci.bif (fun _=>?_) fun _=>ci.KB (fun v=>ci.bif (fun _=>?_) fun _=>ci.KB (fun v=>ci.bif (fun _=>?_) fun _=>ci.KB (fun v=>ci.bif (fun _=>?_) fun _=>
  ci.KB (fun v=>ci.bif (fun _=>?_) fun _=>ci.bif (fun _=>?_) fun _=>ci.bif (fun _=>?_) fun _=>ci.afh (fun v=>∃ p':Nat,v.2=(p':Int)∧p'≤p+1) (fun v ⟨p',e,As⟩=>?_)
   fun jx hj=>ci.bif (fun _=>ci.pick hb 4 rfl fun v hv=>hj _ ⟨_,rfl,by omega⟩) fun _=>hj _ ⟨_,rfl,by omega⟩)
   fun jx hj=>ci.tn hj) fun jx hj=>ci.tn hj) fun jx hj=>ci.tn hj) fun jx hj=>ci.tn hj
 ·exact Gn.bind (one (pL (by decide)) (by omega)) fun s p1 a1 a2=>ci.bE 2 10 (by decide) a1 fun s c1=>ci.bE _ 4 c1 (by decide) fun s c2=>Gn.bind (t1 (by omega)) fun s2 p2 b1 b2=>ci.bE _ _ c2 b1 fun s c3=>ci.bE _ 2 c3 (by decide) fun s c4=>Gn.of
 ·exact Gn.bind (Xx (by omega)) fun s p1 a1 a2=>ci.bE 5 10 (by decide) a1 fun s c1=>ci.bE _ 2 c1 (by decide) fun s c2=>Gn.of
 ·exact Gn.bind ((acM (by omega)) _ _ _ _ _ _ hw hb (by omega)) fun s p1 a1 a2=>ci.bE 6 70 (by decide) a1 fun s c1=>ci.bE _ 2 c1 (by decide) fun s c2=>Gn.of
 ·exact Gn.bind (abm (by omega)) fun s p1 a1 a2=>ci.bE 10 4 a1 (by decide) fun s c1=>Gn.bind (one (pL (by decide)) (by omega)) fun s2 p2 b1 b2=>ci.bE _ _ c1 b1 fun s c2=>ci.bE _ 1 c2 (by decide) fun s c3=>
   Gn.bind (one (pL (by decide)) (by omega)) fun s3 p3 d1 d2=>ci.bE _ _ c3 d1 fun s c4=>ci.bE _ 3 c4 (by decide) fun s c5=>Gn.of
 ·exact Gn.bind (abm (by omega)) fun s p1 a1 a2=>ci.bE 1 10 (by decide) a1 fun s c1=>ci.bE _ 3 c1 (by decide) fun s c2=>Gn.bind (t1 (by omega)) fun s2 p2 b1 b2=>ci.bE _ _ c2 b1 fun s c3=>ci.bE _ 2 c3 (by decide) fun s c4=>Gn.of
 ·exact Gn.bind (abm (by omega)) fun s p1 a1 a2=>ci.bE 10 4 a1 (by decide) fun s c1=>Gn.bind (one (pL (by decide)) (by omega)) fun s2 p2 b1 b2=>ci.bE _ _ c1 b1 fun s c2=>ci.bE _ 2 c2 (by decide) fun s c3=>Gn.of
 ·exact Gn.bind (abm (by omega)) fun s p1 a1 a2=>ci.bE 10 3 a1 (by decide) fun s c1=>Gn.bind (one (pL (by decide)) (by omega)) fun s2 p2 b1 b2=>ci.bE _ _ c1 b1 fun s c2=>ci.bE _ 2 c2 (by decide) fun s c3=>Gn.of
 ·exact Gn.bind (Xx (by omega)) fun s p1 a1 a2=>ci.bE 10 5 a1 (by decide) fun s c1=>Gn.bind (t1 (by omega)) fun s2 p2 b1 b2=>ci.bE _ _ c1 b1 fun s c2=>ci.bE _ 2 c2 (by decide) fun s c3=>Gn.bind (t0 (by omega)) fun s3 p3 d1 d2=>ci.bE _ _ c3 d1 fun s c4=>ci.bE _ 3 c4 (by decide) fun s c5=>Gn.of
 ·exact Gn.bind (Xx (by omega)) fun s p1 a1 a2=>ci.bE 10 5 a1 (by decide) fun s c1=>Gn.bind (t1 (by omega)) fun s2 p2 b1 b2=>ci.bE _ _ c1 b1 fun s c2=>ci.bE _ 3 c2 (by decide) fun s c3=>Gn.of
 ·simp only[e]
  refine ci.bif (fun _=>?_) fun _=>Gn.of (by decide)
  exact Gn.bind (one (pL (by decide)) (by omega)) fun s p1 a1 a2=>Gn.of (s:=s)
end Go.Fx.R5
namespace Go.Fx.R5
open Go Go.Fx
def Gl(lo L M p:Nat)(r:ab×Int×Int×Unit):Prop:=∃(s:ab) (p':Nat) (l:Int),r=(s,(p':Int),l,())∧lo≤s.length∧s.length≤L∧p'≤p+M
theorem Gl.of{lo L M p p':Nat}{s:ab}{l:Int}(h0:lo≤s.length:=by omega)(h1:s.length≤L:=by omega)(h2:p'≤p+M:=by omega):ci (Gl lo L M p) (some (s,(p':Int),l,())):=⟨_,rfl,s,p',l,rfl,h0,h1,h2⟩
theorem Gl.bind{β:Type}{S:β→Prop}{lo L M p:Nat}{x:Option (ab×Int×Int×Unit)}{f:ab×Int×Int×Unit→Option β}(h:ci (Gl lo L M p) x)(g:∀(s:ab) (p':Nat) (l:Int),lo≤s.length→s.length≤L→p'≤p+M→ci S (f (s,(p':Int),l,()))):ci S (x.bind f):=by obtain⟨_,rfl,s,p',l,rfl,h0,h1,h2⟩:=h;exact g s p' l h0 h1 h2
abbrev LFn:=XS→XS→XS→Int→XI→Int→Int→Option (ab×Int×Int×Unit)
abbrev BFn:=XS→XS→XS→Int→XI→Int→Int→Int→Option (ab×Int×Int×Unit)
def Si(B L M:Nat)(d:Int)(f:LFn):Prop:=∀ hG fU gK less b (p:Nat),Wz hG fU gK→By b→p≤B→ci (Gl 0 L M p) (f hG fU gK less b (p:Int) d)
def Vw(B L M:Nat)(d:Int)(f:BFn):Prop:=∀ hG fU gK less b (p n:Nat),Wz hG fU gK→By b→p≤B→n≤2→ci (Gl 2 L M p) (f hG fU gK less b (p:Int) d (n:Int))
theorem Rv{rl:LFn}{rb:BFn}{k B B2 L M:Nat}{d:Int}(hk:30≤k)(hL:L≤1000000)(hM:M≤1000000)(hB:B2+2 * M+300≤B)(hB2:B≤200000000)(h:0<d→Vw B L M (bC (d - 1)) rb):Si B2 (2 * L+700) (2 * M+300) d (pX rl rb k):=fun hG fU gK less b p hw hb hp=>by
 have Xx:∀{p:Nat},p≤700000000→ci (Gn 4 1 p) (bK b (p:Int) gK):=fun hp=>wP hb hw.o;have c1:∀{less:Int} {p:Nat},p≤210000000→ci (Gn 210 67 p) (fV k hG fU gK less b (p:Int) 1):=fun hp=>ab2 (by omega) _ _ _ _ _ _ hw hb (by omega)
 have dec:∀{n:Nat},n<60→ci (fun r:ab×Unit=>r.1.length≤2) (ny k (n:Int)):=fun hn=>MI (by omega) hn
 have w1:∀{n:Nat},n<60→bC (1+(n:Int))=((n+1:Nat):Int):=fun hn=>by rw[bF (by omega) (by omega)];omega
 unfold pX;refine ci.pick hb 22 rfl fun v hv=>ci.bif (fun _=>Gl.of (by omega) (by simp only[List.length];omega) (by omega)) fun _=>ci.afh (fun c=>c=false→0<d∨11≤v) (fun c hc=>ci.bif (fun _=>?_) fun hcf=>?_) fun jx hj=>?_
 ·exact Gn.bind (Xx (by omega)) fun s p1 a1 a2=>ci.bE 4 3 a1 (by decide) fun s e1=>Gn.bind (acM (by omega) _ _ _ _ _ _ hw hb (by omega)) fun s2 p2 b1 b2=>ci.bE _ _ e1 b1 fun s e2=>ci.bE _ 2 e2 (by decide) fun s e3=>Gl.of
 ·have hdv:=hc hcf
  refine ci.bif (fun e=>?_) fun _=>ci.bif (fun e=>?_) fun _=>ci.bif (fun e=>?_) fun _=>ci.bif (fun e=>?_) fun _=>ci.bif (fun e=>?_) fun _=>ci.bif (fun e=>?_) fun _=>?_
  ·have e:=a_a.1 e
   have h:=h (by dsimp only at e;omega)
   refine Gn.bind (c1 (by omega)) fun s p1 a1 a2=>ci.bE 3 _ (by decide) a1 fun s e1=>ci.bE _ 1 e1 (by decide) fun s e2=>ci.pick hb 2 rfl fun v2 F6=>?_
   simp only[w1 (show v2<60 by omega)]
   refine Gl.bind (h _ _ _ _ _ _ _ hw hb (by omega) (by omega)) fun s p2 l b0 b1 b2=>ci.bE _ _ e2 b1 fun s e3=>ci.bE _ 6 e3 (by decide) fun s e4=>ci.pick hb 2 rfl fun v3 hv3=>?_
   exact Gl.bind (h _ _ _ _ _ _ _ hw hb (by omega) (by omega)) fun s p3 l d0 d1 d2=>ci.bE _ _ e4 d1 fun s e5=>ci.bE _ 1 e5 (by decide) fun s e6=>Gl.of
  ·have e:=a_a.1 e
   have h:=h (by dsimp only at e;omega)
   refine Gn.bind (aeu (by omega) _ _ _ _ _ _ hw hb (by omega)) fun s p1 a1 a2=>ci.bE 3 _ (by decide) a1 fun s e1=>ci.bE _ 1 e1 (by decide) fun s e2=>ci.pick hb 2 rfl fun v2 F6=>?_
   simp only[w1 (show v2<60 by omega)]
   exact Gl.bind (h _ _ _ _ _ _ _ hw hb (by omega) (by omega)) fun s p2 l b0 b1 b2=>ci.bE _ _ e2 b1 fun s e3=>ci.bE _ 1 e3 (by decide) fun s e4=>Gl.of
  ·have e:=a_a.1 e
   have h:=h (by dsimp only at e;omega)
   refine Gn.bind (Xx (by omega)) fun so p1 a1 a2=>ci.bE 6 4 (by decide) a1 fun s e1=>ci.bE _ 3 e1 (by decide) fun s e2=>ci.pick hb 14 rfl fun v2 F6=>ci.bind (dec (n:=v2) (by omega)) fun r hr=>
    ci.bE _ 2 e2 hr fun s e3=>ci.bE _ 1 e3 (by decide) fun s e4=>ci.pick hb 2 rfl fun v3 hv3=>Gl.bind (h _ _ _ _ _ _ _ hw hb (by omega) (by omega)) fun sb p2 l b0 b1 b2=>?_
   have qa:sub sb 0 2=some (sb.take 2):=by
    have:=wS (l:=sb) (m:=0) (n:=2) (by omega) b0
    simpa using this
   simp only[go_sem,qa];refine ci.bE _ 2 e4 (by simp;omega) fun s e5=>ci.bE _ 4 e5 a1 fun s e6=>ci.bE _ 3 e6 (by decide) fun s e7=>ci.bE _ 4 e7 a1 fun s e8=>ci.bE _ 3 e8 (by decide) fun s e9=>ci.pick hb 3 rfl fun v4 hv4=>?_
   simp only[w1 (show v4<60 by omega)]
   exact ci.bind (dec (n:=v4+1) (by omega)) fun r hr=>ci.bE _ 2 e9 hr fun s e10=>ci.bE _ 4 e10 (by decide) fun s e11=>Gl.of
  ·have e:=a_a.1 e
   have h:=h (by dsimp only at e;omega)
   unfold uH;simp only[Q9];refine ci.pick hb 3 rfl fun v2 F6=>ci.bind (dec (n:=v2) (by omega)) fun r hr=>ci.bE 8 2 (by decide) hr fun s e1=>ci.bE _ 4 e1 (by decide) fun s e2=>Gn.bind (wP hb (n:=1) (pL (by decide))) fun s2 p1 a1 a2=>
    ci.bE _ 1 e2 a1 fun s e3=>ci.bE _ 1 e3 (by decide) fun s e4=>ci.pick hb 2 rfl fun v3 hv3=>?_
   simp only[w1 (show v3<60 by omega)]
   exact Gl.bind (h _ _ _ _ _ _ _ hw hb (by omega) (by omega)) fun sb p2 l b0 b1 b2=>ci.bE _ _ e4 b1 fun s e5=>ci.bE _ 1 e5 (by decide) fun s e6=>Gl.of (s:=s)
  ·have e:=a_a.1 e
   have h:=h (by dsimp only at e;omega)
   refine Gn.bind (c1 (by omega)) fun s p1 a1 a2=>ci.bE 6 _ (by decide) a1 fun s e1=>ci.bE _ 1 e1 (by decide) fun s e2=>ci.pick hb 2 rfl fun v2 F6=>?_
   simp only[w1 (show v2<60 by omega)]
   exact Gl.bind (h _ _ _ _ _ _ _ hw hb (by omega) (by omega)) fun s p2 l b0 b1 b2=>ci.bE _ _ e2 b1 fun s e3=>ci.bE _ 1 e3 (by decide) fun s e4=>Gl.of
  ·exact Gn.bind (c1 (by omega)) fun s p1 a1 a2=>ci.bE 7 _ (by decide) a1 fun s e1=>ci.bE _ 2 e1 (by decide) fun s e2=>Gl.of
  ·exact Gn.bind (aan (by omega) hw hb (by omega)) fun s p1 a1 a2=>Gl.of (s:=s)
 ·refine ci.bif (fun _=>hj _ (by simp)) fun _=>?_
  show ci _ (bif decide (d≤0) then jx (decide ((v:Int)<11)) else jx false)
  exact ci.bif (fun _=>hj _ (fun e=>.inr (by have:=cGa e;omega))) fun e=>hj _ (fun _=>.inl (by have:=cGa e;omega))
theorem Su{rl:LFn}{rb:BFn}{k B B2 L M:Nat}{d:Int}(hk:30≤k)(hL:L≤1000000)(hM:M≤1000000)(hB:B2+2 * M≤B)(hB2:B≤200000000)(h:Si B L M d rl):Vw B2 (2 * L+3) (2 * M) d (o9 rl rb k):=fun hG fU gK less b p n hw hb hp hn=>by
 have loop:∀(m j k' p:Nat) (less:Int) (out:ab),m+j=n→m<k'→2≤out.length→out.length+m * L≤2 * L+2→p+m * M≤B→m≤2→ci (fun r:Int×Int×ab×Unit=>∃(p':Nat) (l:Int) (s:ab),r=((p':Int),l,s,())∧2≤s.length∧s.length≤2 * L+2∧p'≤p+m * M)
   (lT rl rb k k' b hG fU gK d (n:Int) (p:Int) less out (j:Int)):=by
  intro m;induction m with
  |zero=>
   intro j k' p less out hj PI ho hl hpB _;obtain⟨k',rfl⟩:∃ i,k' = i+1:=⟨k' - 1,by omega⟩
   have h2:¬ j<n:=by omega
   simp only[go_sem,lT,Q5,h2];exact⟨_,rfl,p,less,out,rfl,ho,by omega,by omega⟩
  |succ m ih=>
   intro j k' p less out hj PI ho hl hpB hm;obtain⟨k',rfl⟩:∃ i,k' = i+1:=⟨k' - 1,by omega⟩
   have h2:j<n:=by omega
   rw[Nat.succ_mul] at hl hpB;simp only[go_sem,lT,Q5,h2,ag (show j<_ by omega)]
   refine Gl.bind (h _ _ _ _ _ _ hw hb (by omega)) fun s p1 l a0 a1 a2=>?_
   rw[oO (show out.length+s.length≤4294967296 by omega)]
   refine(ih (j+1) k' p1 l (out++s) (by omega) (by omega) (by simp;omega) (by simp;omega) (by omega) (by omega)).mono fun r ⟨p',l,s,e,x,y,z⟩=>⟨p',l,s,e,x,y,?_⟩
   rw[Nat.succ_mul];omega
 unfold o9;have hn2:n * L≤2 * L:=bna _ hn;have hn3:n * M≤2 * M:=bna _ hn;refine ci.bind (loop n 0 k p less [123,10] (by omega) (by omega) (by decide) (by simp only[List.length];omega) (by omega) hn) fun r ⟨p',l,s,e,x,y,z⟩=>?_
 subst e;rw[oO (show s.length+([125]:ab).length≤4294967296 by simp;omega)]
 exact Gl.of (s:=s++[125]) (by simp;omega) (by simp;omega) (by omega)
theorem MY(k:Nat):mO (k+1)=pX (mO k) (o8 k) k:=rfl
theorem PC(k:Nat):o8 (k+1)=o9 (mO k) (o8 k) k:=rfl
theorem afp{k:Nat}(hk:40≤k):Si 150000000 14730 6300 2 (mO k):=by
 obtain⟨k,rfl⟩:∃ j,k=j+5:=⟨k - 5,by omega⟩
 have l0:Si 190000000 700 300 0 (mO (k+1)):=by rw[MY];exact Rv (B:=200000000) (L:=0) (M:=0) (by omega) (by omega) (by omega) (by omega) (by omega) (fun h=>absurd h (by decide))
 have b0:Vw 180000000 1403 600 0 (o8 (k+2)):=by rw[PC];exact Su (L:=700) (M:=300) (by omega) (by omega) (by omega) (by omega) (by omega) l0
 have l1:Si 170000000 3506 1500 1 (mO (k+3)):=by rw[MY];exact Rv (L:=1403) (M:=600) (by omega) (by omega) (by omega) (by omega) (by omega) (fun _=>b0)
 have b1:Vw 160000000 7015 3000 1 (o8 (k+4)):=by rw[PC];exact Su (L:=3506) (M:=1500) (by omega) (by omega) (by omega) (by omega) (by omega) l1
 rw[MY];exact Rv (L:=7015) (M:=3000) (by omega) (by omega) (by omega) (by omega) (by omega) (fun _=>b1)
theorem QG{k:Nat}(hk:41≤k){hG fU gK:XS}{less:Int}{b:XI}{p n:Nat}(hw:Wz hG fU gK)(hb:By b)(hp:p≤100000000:=by omega)(hn:1≤n:=by omega)(hn5:n≤5:=by omega):ci (Gl 0 147300 63001 p) (p8 k hG fU gK less b (p:Int) (n:Int)):=by
 have loop:∀(m k' p:Nat) (less:Int) (out:ab),m<k'→out.length+m * 14730≤147300→p+m * 6300≤150000000→m≤10→ci (fun r:Int×Int×ab×Unit=>∃(p':Nat) (l:Int) (s:ab),r=((p':Int),l,s,())∧s.length≤147300∧p'≤p+m * 6300)
   (mV k k' b hG fU gK (p:Int) less out (m:Int)):=by
  intro m;induction m with
  |zero=>
   intro k' p less out PI hl hp _;obtain⟨k',rfl⟩:∃ i,k' = i+1:=⟨k' - 1,by omega⟩
   simp only[mV];exact⟨_,rfl,p,less,out,rfl,by omega,by omega⟩
  |succ m ih=>
   intro k' p less out PI hl hp hm;obtain⟨k',rfl⟩:∃ i,k' = i+1:=⟨k' - 1,by omega⟩
   have h2:((m+1:Nat):Int) > 0:=by omega
   have h3:bC (((m+1:Nat):Int) - 1)=(m:Int):=by rw[bF (by omega) (by omega)];omega
   simp only[go_sem,mV,h2,h3];refine Gl.bind (afp (by omega) _ _ _ _ _ _ hw hb (by omega)) fun s p1 l a0 a1 a2=>?_
   rw[oO (show out.length+s.length≤4294967296 by omega)]
   exact(ih k' p1 l (out++s) (by omega) (by simp;omega) (by omega) (by omega)).mono fun r ⟨p',l,s,e,x,y⟩=>⟨p',l,s,e,x,by omega⟩
 have w2:bC (2 * (n:Int))=((2 * n:Nat):Int):=by rw[bF (by omega) (by omega)];omega
 unfold p8;refine ci.pick hb (2 * n) w2 fun v hv=>?_;have w3:bC (1+(v:Int))=((v+1:Nat):Int):=by rw[bF (by omega) (by omega)];omega
 simp only[w3];refine ci.bind (loop (v+1) k (p+1) less [] (by omega) (by simp only[List.length];omega) (by omega) (by omega)) fun r ⟨p',l,s,e,x,y⟩=>?_
 subst e;exact Gl.of (s:=s)
theorem XV{k:Nat}(hk:41≤k){b:XI}{p:Nat}(hb:By b)(hp:p≤1000):ci (Gn 450000 300000 p) (vT k b (p:Int)):=by
 have hw:Wz [[120],[121],[103]] [] [[120],[103]]:=⟨pL (by decide),pL (by decide),pL (by decide)⟩
 have hw2:Wz [[120],[121],[122],[103],[110],[105]] [[112],[113]] [[120],[121],[122],[103],[110]]:=⟨pL (by decide),pL (by decide),pL (by decide)⟩
 unfold vT;refine ci.pick hb 16 rfl fun v hv=>ci.pick hb 5 rfl fun v2 F6=>?_;have w3:bC (1+(v2:Int))=((v2+1:Nat):Int):=by rw[bF (by omega) (by omega)];omega
 simp only[w3];refine ci.bind (MI (k:=k) (n:=v2+1)) fun r hr=>ci.bE 20 2 (by decide) hr fun s e1=>ci.bE _ 17 e1 (by decide) fun s1 e2=>Gl.bind (QG (n:=1) hk hw hb) fun s p1 l a0 a1 a2=>
  ci.bE 22 _ (by decide) a1 fun s e3=>ci.bE _ 12 e3 (by decide) fun s2 e4=>Gl.bind (QG (n:=1) hk hw hb) fun s p2 l b0 b1 b2=>ci.bE 22 _ (by decide) b1 fun s e5=>ci.bE _ 12 e5 (by decide) fun s3 e6=>
  ci.pick hb 14 rfl fun v3 hv3=>Gl.bind (QG (n:=5) hk hw2 hb) fun s p3 l c0 c1 c2=>ci.bE 42 _ (by decide) c1 fun s e7=>ci.bE _ 2 e7 (by decide) fun s4 e8=>ci.pick hb 4 rfl fun v4 hv4=>ci.bif (fun _=>?_) fun _=>?_
 ·exact ci.bE _ _ e2 e8 fun s f1=>ci.bE _ _ f1 e6 fun s f2=>ci.bE _ _ f2 e4 fun s f3=>Gn.of
 ·exact ci.bE _ _ e2 e4 fun s f1=>ci.bE _ _ f1 e6 fun s f2=>ci.bE _ _ f2 e8 fun s f3=>Gn.of
theorem ci.Zi{β:Type}{S:β→Prop}{l:XS}{v:Nat}(n:Nat)(hl:(l.all fun x=>decide (x.length≤n))=true)(hv:v<l.length){f:ab→Option β}(g:∀ x:ab,x.length≤n→ci S (f x)):ci S ((Go.Fx.bL l (v:Int)).bind fun _=>(Go.Fx.bL l ((v:Int).toNat:Int)).bind f):=by rw[aDa,cF hv];exact g _ (pL hl _ (aQa hv))
theorem WV{b:XI}{p:Nat}(hb:By b)(hp:p≤900000000):ci (Gn 20 2 p) (wA b (p:Int)):=by
 unfold wA;refine ci.pick hb 8 rfl fun v hv=>ci.bif (fun _=>?_) fun _=>ci.bif (fun _=>?_) fun _=>ci.bif (fun _=>?_) fun _=>?_
 ·exact ci.pick hb 17 rfl fun v2 F6=>ci.Zi 20 (by decide) (by simpa using F6) fun x hx=>Gn.of hx
 ·exact ci.pick hb 5 rfl fun v2 F6=>ci.Zi 20 (by decide) (by simpa using F6) fun x hx=>Gn.of hx
 ·exact ci.pick hb 4 rfl fun v2 F6=>ci.Zi 20 (by decide) (by simpa using F6) fun x hx=>Gn.of hx
 ·refine ci.bind (P:=fun r:XS×Unit=>Ws 20 r.1∧1≤r.1.length) ⟨_,rfl,pL (by decide),by decide⟩ fun r ⟨h1,h2⟩=>ci.pick hb r.1.length rfl fun v2 F6=>?_
  rw[cF F6];exact Gn.of (h1 _ (aQa F6)) (by omega)
theorem adP{b:XI}{p:Nat}(hb:By b)(hp:p≤900000000):ci (Gn 20 2 p) (Cp b (p:Int)):=by unfold Cp;exact ci.pick hb 15 rfl fun v2 F6=>ci.Zi 20 (by decide) (by simpa using F6) fun x hx=>Gn.of hx
theorem abl{b:XI}{p:Nat}(hb:By b)(hp:p≤900000000):ci (Gn 200 2 p) (Cs b (p:Int)):=by unfold Cs;exact ci.pick hb 30 rfl fun v2 F6=>ci.Zi 200 (by decide) (by simpa using F6) fun x hx=>Gn.of hx
theorem aaM{b:XI}{p:Nat}{s:ab}(hb:By b)(hp:p≤800000000)(hs:s.length≤500000):ci (Gn 1000100 10 p) (Ac b (p:Int) s):=by
 unfold Ac;refine ci.bif (fun _=>Gn.of) fun h0=>?_;have h0:=Q6.1 h0;have t6:1≤s.length:=by omega
 refine ci.pick hb 256 rfl fun v hv=>ci.pick hb 256 rfl fun v2 F6=>ci.bif (fun h=>absurd (b8a h) h0) fun _=>ci.pick hb 6 rfl fun v3 hv3=>?_;have e1:bC ((v:Int) * 256)=(v:Int) * 256:=bF (by omega) (by omega)
 have e2:bC ((v:Int) * 256+(v2:Int))=(v:Int) * 256+(v2:Int):=bF (by omega) (by omega)
 obtain⟨i,i1,i2⟩:=Oa (x:=(v:Int) * 256+(v2:Int)) (by omega) t6
 have e3:bC ((i:Int)+1)=((i+1:Nat):Int):=ag (by omega)
 have s1:sub s 0 (i:Int)=some (s.take i):=by
  have:=wS (l:=s) (m:=0) (n:=i) (by omega) (by omega)
  simpa using this
 have s2:sub s ((i+1:Nat):Int) (s.length:Int)=some (s.drop (i+1)):=by rw[wS (by omega) (axa _),cva]
 have s3:sub s (i:Int) (s.length:Int)=some (s.drop i):=by rw[wS (by omega) (axa _),cva]
 simp only[go_sem,e1,e2,i2,e3,s1,s2,s3];have t1:(s.take i).length≤500000:=by simp;omega
 have t2:(s.drop (i+1)).length≤500000:=by simp;omega
 have t3:(s.drop i).length≤500000:=by simp;omega
 refine ci.bif (fun _=>?_) fun _=>ci.bif (fun _=>?_) fun _=>ci.bif (fun _=>?_) fun _=>ci.bif (fun _=>?_) fun _=>ci.bif (fun _=>?_) fun _=>?_
 ·exact ci.bE _ _ t1 t2 fun s f1=>Gn.of
 ·exact Gn.of
 ·exact ci.bE _ 1 t1 (by decide) fun s f1=>Gn.bind (WV hb (by omega)) fun s2 p1 a1 a2=>ci.bE _ _ f1 a1 fun s f2=>ci.bE _ 1 f2 (by decide) fun s f3=>ci.bE _ _ f3 t3 fun s f4=>Gn.of
 ·refine ci.pick hb 20 rfl fun v4 hv4=>?_
  rw[cF (show v4<_ by simpa using hv4),bFa]
  exact ci.bE _ 1 t1 (by simp) fun s f1=>ci.bE _ _ f1 t2 fun s f2=>Gn.of
 ·exact Gn.bind (WV hb (by omega)) fun s2 p1 a1 a2=>ci.bE _ _ hs a1 fun s f2=>Gn.of
 ·exact Gn.bind (adP hb (by omega)) fun s2 p1 a1 a2=>ci.bE _ _ t1 a1 fun s f2=>ci.bE _ _ f2 t3 fun s f3=>Gn.of
theorem abn{code:XI}(h:∀ x∈code,0≤x∧x≤255):ci (fun r:XI×Int×Unit=>By r.1∧r.2.1=((0:Nat):Int)) (Ab code):=by
 simp only[Ab,aa];refine ci.bif (fun h2=>?_) fun h2=>ci.of ⟨⟨h,by have:=cGa h2;show code.length≤2000;omega⟩,rfl⟩
 have h2:=b8a h2;have:=wS (l:=code) (m:=0) (n:=2000) (by omega) (by omega)
 rw[show sub code 0 2000=some (code.take 2000) by simpa using this,bFa]
 exact ci.of ⟨⟨fun x hx=>h x (List.mem_of_mem_take hx),by simp;omega⟩,rfl⟩
theorem WQ{code:XI}(h:∀ x∈code,0≤x∧x≤255){k:Nat}(hk:41≤k):∃ s,km k code=some (s,()):=by
 have:ci (fun _:ab×Unit=>True) (km k code):=by
  unfold km;refine ci.bind (abn h) fun r ⟨hb,hr⟩=>?_;rw[hr];refine ci.pick hb 14 rfl fun v hv=>ci.bif (fun _=>?_) fun _=>?_
  ·exact Gn.bind (abl hb (by omega)) fun s p1 a1 a2=>ci.of trivial
  ·exact Gn.bind (XV hk hb (by omega)) fun s p1 a1 a2=>ci.bif (fun _=>Gn.bind (aaM hb (by omega) (s:=s) (by omega)) fun s p1 a1 a2=>ci.of trivial) fun _=>ci.of trivial
 obtain⟨⟨s,u⟩,e,_⟩:=this;exact⟨s,e⟩
end Go.Fx.R5
namespace Go.Fx.R5
open Go Go.Fx
theorem Ql(a:XI)(hl:a.length≤100000){k:Nat}(hk:100001≤k):vO k a a=some (true,()):=by
 have key:∀(m s k':Nat),m+s=a.length→m<k'→kU k k' a a (s:Int)=some (.inl ()):=by
  intro m;induction m with
  |zero=>
   intro s k' h PI;obtain⟨k',rfl⟩:∃ j,k' = j+1:=⟨k' - 1,by omega⟩
   have h2:¬ s<a.length:=by omega
   simp only[go_sem,kU,Q5,h2]
  |succ m ih=>
   intro s k' h PI;obtain⟨k',rfl⟩:∃ j,k' = j+1:=⟨k' - 1,by omega⟩
   have bf:s<a.length:=by omega
   simp only[go_sem,kU,Q5,bf,cF bf,ag (show s<_ by omega),ih (s+1) k' (by omega) (by omega)]
 have e:kU k k a a 0=_:=key a.length 0 k rfl (by omega)
 simp only[go_sem,vO,e]
theorem M3{l:XI}{v:Int}(hv:v∈l)(hl:l.length≤100000){k:Nat}(hk:100001≤k):wq k l v=some (true,()):=by
 have key:∀(m s k':Nat),m+s=l.length→m<k'→v∈l.drop s→tU k k' l v (s:Int)=some (.inr (true,())):=by
  intro m;induction m with
  |zero=>
   intro s k' h PI hd;rw[cqa (by omega)] at hd
   cases hd
  |succ m ih=>
   intro s k' h PI hd;obtain⟨k',rfl⟩:∃ j,k' = j+1:=⟨k' - 1,by omega⟩
   have bf:s<l.length:=by omega
   rw[aLa bf] at hd;simp only[go_sem,tU,Q5,bf,cF bf];cases he:(l[s]==v) with
   |true=>rfl
   |false=>
    rcases ala.1 hd with e|hd
    ·rw[e,beq_self_eq_true] at he;cases he
    ·rw[aoa,ag (show s<_ by omega)]
     exact ih (s+1) k' (by omega) (by omega) hd
 have e:tU k k l v 0=_:=key l.length 0 k rfl (by omega) hv
 simp only[go_sem,wq,e]
theorem VC{α:Type}{l m r:List α}(h:Go.Fx.bE l m=some r):r=l++m:=by
 unfold Go.Fx.bE at h;revert h;cases decide (l.length+m.length≤4294967296) with
 |false=>intro h;cases h
 |true=>intro h;exact(bva h).symm
theorem aeI(q:Nat)(A:AS)(hA:A.length≤1000000):∀(k s:Nat) (l l':XI),eI q k A l (s:Int)=some (l',())→(∀ y∈l,y∈l')∧∀ x∈A.drop s,x.2∈l'∧bC (x.2 - 1)∈l'
 |0,s,l,l',h=>by cases h
 |k+1,s,l,l',h=>by
  by_cases bf:s<A.length
  ·simp only[go_sem,eI,Q5,bf,cF bf,ag (show s<_ by omega)] at h
   obtain⟨m,hm,h⟩:=ata.1 h;obtain⟨h1,h2⟩:=aeI q A hA k (s+1) m l' h;have hm:=VC hm;subst hm;refine⟨fun y hy=>h1 y (by simp[hy]),fun x hx=>?_⟩
   rw[aLa bf] at hx;rcases ala.1 hx with rfl|hx
   ·exact⟨h1 _ (by simp),h1 _ (by simp)⟩
   ·exact h2 x hx
  ·simp only[go_sem,eI,Q5,bf,Ob,aia,a7a] at h
   subst h;rw[cqa (by omega)]
   exact⟨fun y hy=>hy,fun x hx=>by cases hx⟩
theorem adf(q:Nat)(ns:List eu)(hA:ns.length≤1000000):∀(k s:Nat) (l l':XI),dU q k ns l (s:Int)=some (l',())→
  (∀ y∈l,y∈l')∧∀ x∈ns.drop s,(x.1==24)=true→x.2.2.1∈l'∧bC (x.2.2.1+1)∈l'∧bC (0 - x.2.2.1)∈l'
 |0,s,l,l',h=>by cases h
 |k+1,s,l,l',h=>by
  by_cases bf:s<ns.length
  ·simp only[go_sem,dU,aa,Q5,bf,cF bf,ag (show s<_ by omega)] at h
   cases h24:(ns[s].1==24) with
   |false=>
    rw[h24] at h;obtain⟨h1,h2⟩:=adf q ns hA k (s+1) l l' h;refine⟨h1,fun x hx hx2=>?_⟩;rw[aLa bf] at hx;rcases ala.1 hx with rfl|hx
    ·rw[h24] at hx2;cases hx2
    ·exact h2 x hx hx2
   |true=>
    rw[h24,aja] at h;obtain⟨m,hm,h⟩:=ata.1 h;obtain⟨h1,h2⟩:=adf q ns hA k (s+1) m l' h;have hm:=VC hm;subst hm;refine⟨fun y hy=>h1 y (by simp[hy]),fun x hx hx2=>?_⟩
    rw[aLa bf] at hx;rcases ala.1 hx with rfl|hx
    ·exact⟨h1 _ (by simp),h1 _ (by simp),h1 _ (by simp)⟩
    ·exact h2 x hx hx2
  ·simp only[go_sem,dU,Q5,bf,Ob,aia,a7a] at h
   subst h;rw[cqa (by omega)]
   exact⟨fun y hy=>hy,fun x hx=>by cases hx⟩
theorem afm{l:XI}(hl:l.length≤100000){k:Nat}(hk:100001≤k)(A:AS)(hA:A.length≤1000)(h:∀ x∈A,x.2∈l∧bC (x.2 - 1)∈l):∀(m s k':Nat),m+s=A.length→m<k'→ij k k' A l (s:Int)=some (.inl (l,()))
 |0,s,k' + 1,hs,_=>by
  have h2:¬ s<A.length:=by omega
  simp only[go_sem,ij,Q5,h2]
 |m+1,s,k' + 1,hs,PI=>by
  have bf:s<A.length:=by omega
  obtain⟨h1,h2⟩:=h _ (aQa bf);simp only[go_sem,ij,aa,Q5,bf,cF bf,M3 h1 hl hk,M3 h2 hl hk,ag (show s<_ by omega),afm hl hk A hA h m (s+1) k' (by omega) (by omega)]
theorem adA{l:XI}(hl:l.length≤100000){k:Nat}(hk:100001≤k)(ns:List eu)(hA:ns.length≤10000)(h:∀ x∈ns,(x.1==24)=true→x.2.2.1∈l∧bC (x.2.2.1+1)∈l∧bC (0 - x.2.2.1)∈l):∀(m s k':Nat),m+s=ns.length→m<k'→gf k k' ns l (s:Int)=some (.inl ())
 |0,s,k' + 1,hs,_=>by
  have h2:¬ s<ns.length:=by omega
  simp only[go_sem,gf,Q5,h2]
 |m+1,s,k' + 1,hs,PI=>by
  have bf:s<ns.length:=by omega
  have h:=h _ (aQa bf);cases h24:(ns[s].1==24) with
  |false=>simp only[go_sem,gf,aa,Q5,bf,cF bf,h24,ag (show s<_ by omega),adA hl hk ns hA ‹_› m (s+1) k' (by omega) (by omega)]
  |true=>obtain⟨h1,h2,h3⟩:=h h24;simp only[go_sem,gf,aa,Q5,bf,cF bf,h24,M3 h1 hl hk,M3 h2 hl hk,M3 h3 hl hk,ag (show s<_ by omega),adA hl hk ns hA ‹_› m (s+1) k' (by omega) (by omega)]
theorem Im(code:XI)(hc:∀ x∈code,0≤x∧x≤255)(hd:∀ k1 k2 s1 s2,km k1 code=some (s1,())→km k2 code=some (s2,())→s1=s2):∃ k,nq k code=some (true,()):=by
 by_cases hb:(code.length:Int) > 1048576
 ·exact⟨0,by simp only[go_sem,nq,hb]⟩
 obtain⟨k0,ce,h0⟩:∃ k0 ce,∀ k,k0≤k→km k code=some (ce,()):=by
  obtain⟨s,e⟩:=WQ hc (axa 41);exact⟨41,s,fun k hk=>by
   obtain⟨s2,e2⟩:=WQ hc hk;rw[e2,hd _ _ _ _ e2 e]⟩
 rcases Xr ce with ⟨c,p,hc,he⟩|⟨ns,t,D,hT,hp,he⟩
 ·refine Ev.vJ ((he.and (⟨k0+100001,fun k hk=>hk⟩:Ev fun k=>k0+100001≤k)).mono fun k e=>?_)
  obtain⟨⟨e1,e2⟩,hk⟩:=e;simp only[go_sem,nq,hb,og,h0 k (by omega),rF,aa,rG,e1,a1a.2 hc,ro,e2,Ql [] (by simp) (show 100001≤k by omega)]
  rfl
 ·refine Ev.vJ ((he.and (⟨k0+100001,fun k hk=>hk⟩:Ev fun k=>k0+100001≤k)).mono fun k e=>?_)
  obtain⟨⟨⟨e0,e1⟩,⟨ki,pl,O,En,H,E,la,out,d,w1⟩,O',En',H',E',d',w2⟩,hk⟩:=e;obtain⟨l,w3,w4⟩:=Vk t.1 ns hp.iK.a hT.len (show 2000≤k by omega)
  have w5:=w3;simp only[mh] at w5;obtain⟨⟨l1,u⟩,w6,w5⟩:=ata.1 w5;obtain⟨⟨l2,u⟩,w7,w5⟩:=ata.1 w5;simp only[Ob,aia,a7a] at w5;subst w5;have hA:=hp.iK.a;have hn:=hT.len;obtain⟨_,a2⟩:=aeI k t.1 (by omega) k 0 [] l1 w6
  obtain⟨b1,b2⟩:=adf k ns (by omega) k 0 l1 l2 w7
  have r1:=afm (l:=l2) (by omega) (show 100001≤k by omega) t.1 (by omega) (fun x hx=>⟨b1 _ (a2 x hx).1,b1 _ (a2 x hx).2⟩) t.1.length 0 k rfl (by omega)
  have r2:=adA (l:=l2) (by omega) (show 100001≤k by omega) ns (by omega) (fun x hx=>b2 x hx) ns.length 0 k rfl (by omega)
  have r1:ij k k t.1 l2 0=_:=r1;have r2:gf k k ns l2 0=_:=r2;simp only[go_sem,nq,hb,og,h0 k (by omega),rF,aa,w2,w3,ro,w1,Vl,Ql l2 (by omega) (show 100001≤k by omega),e0,e1,r1,r2]
end Go.Fx.R5
