/- Proved here: laws.FnExactEngineSteps returns true at every input (the tied card), no condition beyond the card. -/
import Derived.Test.YtooajghcoijkaaaGreatDoorQa
set_option linter.unusedVariables false
set_option linter.unusedSimpArgs false
set_option linter.unusedSectionVars false
set_option maxRecDepth 100000
namespace Go.Fx.R5
open Go Go.Fx
section
variable {t:xX} {fn:ao} {ns:List eg} {P:Int} {Is Rs:XS} {B:Int}
structure HF(t:xX)(fn:ao)(ns:List eg)(P:Int)(Is Rs:XS)(B:Int)(i:Nat)(K:XI):Prop where
 v:∀ j∈K,0≤j∧j < (ns.length:Int)
 l:K.length≤5000
 n:∀ j∈K,j < (i:Int)∧NB t fn ns P Is Rs B j.toNat
theorem Gg{i:Nat}{x:eg}(hx:ns[i]? = some x){l:XS}{c p:Int}(hp:c=0→p=0)
  (he:Ev fun k=>∀ D,Jg l D→Qi l c p (aR (bF k) (ci k) (bS k) k k ns t.1 t.2.1 t.2.2 fn P Is Rs B x.2.2.2.2 (x.2.2.2.2.length:Int) 0 0 D 0)):
  Ev fun k=>∀ D,Jg l D→Yv l c p (bF k ns t.1 t.2.1 t.2.2 fn P Is Rs B D (i:Int)):=
 Ev.succ (he.mono fun k e D hr=>by
  obtain⟨bm,e1,e2⟩:=e D hr;refine⟨bm,?_,e2⟩;rw [TZ];simp only [go_sem,kc,bh hx,e1];by_cases h0:c=0
  ·simp only [if_pos h0];rw [h0,hp h0]
  ·simp only [if_neg h0])
theorem Fc{c a:Int}(h:c≠0):J2 c a=a:=if_neg h
theorem Xm(ht:iy t){i:Nat}{x:eg}(hx:ns[i]? = some x)(h9:x.1≠9)(Cz:x.1≠22)(IS:x.1≠12)(Ek:x.1≠16)(IH:HF t fn ns P Is Rs B i x.2.2.2.2):NB t fn ns P Is Rs B i:=by
 intro l hli;have jo:=UA (fn:=fn) ht (l:=l) (by omega) hx
 have kN:=Fq (fn:=fn) ht l x;simp only [if_neg h9] at kN;have g9:=beq_eq_false_iff_ne.2 h9;have g22:=beq_eq_false_iff_ne.2 Cz;have g12:=beq_eq_false_iff_ne.2 IS;have g16:=beq_eq_false_iff_ne.2 Ek;by_cases h0:oq t fn l x=0
 ·obtain⟨c,p,hc,he⟩:=zT (nm:=x.2.2.2.1) g16 IH.v (by have:=IH.l;omega) hli x.2.2.2.2.length 0 rfl (fun j hj=>IH.n j (by simpa using hj))
  refine⟨c,p,fun hz=>⟨(hc hz).1,F0.mk i x hx (by simpa using (hc hz).2) (fun h=>absurd h Cz) (fun h=>absurd h IS)⟩,?_⟩
  have heS:=(he.mono fun _ _ e=>e.1).jI;have heI:=Gg hx (fun hz=>(hc hz).1) (he.mono fun _ _ e=>e.2).jI;refine Ev.succ ((jo.and (kN.and (heS.and heI))).mono fun k e=>?_);obtain⟨e1,e2,⟨bl,e3,e4,e5⟩,e6⟩:=e;refine⟨⟨bl,?_,by omega,e5⟩,fun D hr=>?_⟩
  ·rw [nF]
   rw [h0] at e1;simp only [go_sem,cF,bh hx,g9,g22,g12,g16,e1,aa,show J2 0 x.2.1=0 from rfl,show bH _ _ _ k k x.1 x.2.2.2.1 x.2.2.2.2 t.1 t.2.1 t.2.2 ns fn l 0 0 0=_ from e3]
  ·obtain⟨bm,e7,e8⟩:=e6 D hr
   refine⟨bm,?_,e8⟩;have e2:=e2 D hr;rw [h0] at e2;rw [kb];simp only [go_sem,aZ,bh hx,aa,g9,g22,g12,g16,e2,e7]
 ·refine⟨oq t fn l x,x.2.1,fun hz=>absurd hz h0,Ev.succ ((jo.and (kN.and (⟨5002,fun k hk=>hk⟩:Ev fun k=>5002≤k))).mono fun k e=>?_)⟩
  obtain⟨e1,e2,hk⟩:=e;have y0:=IH.l;obtain⟨j,rfl⟩:∃ j,k=j + 1:=⟨k - 1,by omega⟩
  refine⟨⟨l,?_,by omega,fun _=>rfl⟩,fun D hr=>⟨D,?_,fun _=>hr⟩⟩
  ·rw [nF (j + 1)]
   rw [Fc h0] at e1;have ef:=IR (t:=t) (fn:=fn) (ns:=ns) (p:=x.2.1) h0 g16 (nm:=x.2.2.2.1) IH.v (by omega) j x.2.2.2.2.length 0 (j + 1) l rfl (by omega)
   simp only [go_sem,cF,bh hx,g9,g22,g12,g16,e1,aa];rw [show bH _ _ _ (j + 1) (j + 1) x.1 x.2.2.2.1 x.2.2.2.2 t.1 t.2.1 t.2.2 ns fn l (oq t fn l x) x.2.1 0=_ from ef]
   simp only [go_sem]
  ·have e2:=e2 D hr
   rw [kb (j + 1)];simp only [go_sem,aZ,bh hx,aa,g9,e2,bne_iff_ne.2 h0]
theorem Fw{K:XI}{n:Nat}{j:Int}(hv:∀ j∈K,0≤j∧j < (ns.length:Int))(h:K[n]? = some j):∃ y,bK K (n:Int)=some j∧bK ns j=some y∧ns[j.toNat]? = some y∧kd ns j=y.1∧((j.toNat:Nat):Int)=j:=by have hj:=hv j (List.mem_of_getElem? h);obtain⟨y,e1,e2,e3⟩:=uf hj.1 hj.2;exact⟨y,bh h,e3,e1,e2,Int.toNat_of_nonneg hj.1⟩
theorem ab9(ht:iy t){c p:Int}(hc:c≠0){x:eg}{K:XI}(hxK:x.2.2.2.2=K){u:Int}(hu:K[0]? = some u)(hv:∀ j∈K,0≤j∧j < (ns.length:Int))(hl:K.length≤5000)(l:XS):
  Ev fun k=>eE k t.1 t.2.1 t.2.2 ns fn l c p x=some (l,c,p,()):=by
 subst hxK;obtain⟨y,e1,e2,e3,e4,e5⟩:=Fw hv hu;have e1:bK x.2.2.2.2 0=some u:=e1;refine Ev.succ (((UC (fn:=fn) hc ht y.2.2.2.1 y.2.1 5 5 (p:=p)).and ((Tg ht fn y.2.2.2.1).and (⟨5002,fun k hk=>hk⟩:Ev fun k=>5002≤k))).mono fun k e=>?_);obtain⟨w1,w2,hk⟩:=e;obtain⟨j,rfl⟩:∃ j,k=j + 1:=⟨k - 1,by omega⟩
 have vj:0 < x.2.2.2.2.length:=(List.getElem?_eq_some_iff.1 hu).1;have ef:=IR (t:=t) (fn:=fn) (ns:=ns) (p:=p) hc (Kd:=0) rfl (nm:=[]) hv (by omega) j (x.2.2.2.2.length - 1) 1 (j + 1) l (by omega) (by omega)
 rw [←zE (j + 1) 0 rfl []] at ef;have ef:ix (dB (j + 1)) (dx (j + 1)) (eE (j + 1)) (j + 1) (j + 1) x.2.2.2.2 t.1 t.2.1 t.2.2 ns fn l c p 1=_:=ef;rw [Kl (j + 1)];simp only [go_sem,lJ,e1,e2,w1,show cK (j + 1) (t.1,t.2.1,t.2.2) fn y.2.2.2.1=_ from w2,aa,cg,beq_eq_false_iff_ne.2 hc,ef]
 by_cases h5:(nk t fn y.2.2.2.1).1=5
 ·obtain⟨n,f,n1,n2,_⟩:=nk5 h5
  rw [n1];simp only [go_sem,h5,bh n2];cases (f.2.1 != dP ((x.2.2.2.2.length:Int) - 1))<;>rfl
 ·simp only [go_sem,beq_eq_false_iff_ne.2 h5]
theorem Y6(ht:iy t){i:Nat}{x:eg}(hx:ns[i]? = some x)(hn:nK ns i x)(fj:jh ns)(Cz:x.1=22)(IH:HF t fn ns P Is Rs B i x.2.2.2.2):NB t fn ns P Is Rs B i:=by
 intro l hli;have jo:=UA (fn:=fn) ht (l:=l) (by omega) hx
 have kN:=Fq (fn:=fn) ht l x;have dm:=hn.shp;rw [Cz] at dm;obtain⟨u,r,hK⟩:∃ u r,x.2.2.2.2=u :: r:=by
  cases h:x.2.2.2.2 with
  |nil=>rw [h] at dm;simp [bZ] at dm
  |cons u r=>exact⟨u,r,rfl⟩
 have hu:x.2.2.2.2[0]? = some u:=by rw [hK];rfl
 have JI:kd ns u=23:=by rw [hK] at dm;simp [bZ] at dm;exact dm.1
 obtain⟨y,e1,e2,e3,e4,e5⟩:=Fw IH.v hu;have e1:bK x.2.2.2.2 0=some u:=e1;rw [e4] at JI;have hyk:y.2.2.2.2 = []:=by have:=(fj _ _ e3).shp;rw [JI] at this;simpa [bZ] using this
 have hoc:oq t fn l x=F8 t fn l x.2.2.2.1 3 2:=by simp only [oq,Cz,Int.reduceEq,reduceIte,or_true,or_self]
 rw [hoc] at jo;simp only [Cz,show ¬ (22:Int)=9 by decide,if_false,hoc] at kN
 generalize F8 t fn l x.2.2.2.1 3 2=c0 at jo kN;have y0:=IH.l;have aeJ:l.length≤4000:=by omega
 by_cases h0:c0=0
 rotate_left
 ·refine⟨c0,x.2.1,fun hz=>absurd hz h0,Ev.succ ((jo.and (kN.and (ab9 (fn:=fn) ht (p:=x.2.1) h0 rfl hu IH.v IH.l l))).mono fun k e=>?_)⟩
  obtain⟨w1,w2,w3⟩:=e;rw [Fc h0] at w1;refine⟨⟨l,?_,by omega,fun _=>rfl⟩,fun D hr=>⟨D,?_,fun _=>hr⟩⟩
  ·rw [nF];simp only [go_sem,cF,bh hx,Cz,show((22:Int) == 9)=false from rfl,show((22:Int) == 12)=false from rfl,show((22:Int) == 22)=true from rfl,show((22:Int) == 16)=false from rfl,w1,w3]
  ·rw [kb];simp only [go_sem,aZ,bh hx,aa,Cz,show((22:Int) == 9)=false from rfl,show((22:Int) == 12)=false from rfl,show((22:Int) == 22)=true from rfl,show((22:Int) == 16)=false from rfl,w2 D hr,bne_iff_ne.2 h0]
 subst h0;have hW:=C5 (fn:=fn) ht y.2.2.2.1 y.2.1 5 5;have hM:=Dm (fn:=fn) ht y.2.2.2.1 5;have hN:=Tg ht fn y.2.2.2.1;have hNi:=WW ht fn y.2.2.2.1;have vj:0 < x.2.2.2.2.length:=by rw [hK];simp
 by_cases hw:W t fn y.2.2.2.1 5 5=0
 rotate_left
 ·have hn5:¬ (nk t fn y.2.2.2.1).1=5:=fun h=>hw (by simp [W,h])
  have hE:Ev fun k=>eE k t.1 t.2.1 t.2.2 ns fn l 0 0 x=some (l,W t fn y.2.2.2.1 5 5,y.2.1,()):=Ev.succ ((hW.and (hN.and (⟨5002,fun k hk=>hk⟩:Ev fun k=>5002≤k))).mono fun k e=>by
   obtain⟨w1,w2,hk⟩:=e;obtain⟨j,rfl⟩:∃ j,k=j + 1:=⟨k - 1,by omega⟩
   have ef:=IR (t:=t) (fn:=fn) (ns:=ns) (p:=y.2.1) hw (Kd:=0) rfl (nm:=[]) IH.v (by omega) j (x.2.2.2.2.length - 1) 1 (j + 1) l (by omega) (by omega)
   rw [←zE (j + 1) 0 rfl []] at ef;have ef:ix (dB (j + 1)) (dx (j + 1)) (eE (j + 1)) (j + 1) (j + 1) x.2.2.2.2 t.1 t.2.1 t.2.2 ns fn l (W t fn y.2.2.2.1 5 5) y.2.1 1=_:=ef;rw [Fc hw] at w1;rw [Kl (j + 1)];simp only [go_sem,lJ,e1,e2,w1,show cK (j + 1) (t.1,t.2.1,t.2.2) fn y.2.2.2.1=_ from w2,aa,beq_eq_false_iff_ne.2 hn5,ef])
  refine⟨W t fn y.2.2.2.1 5 5,y.2.1,fun hz=>absurd hz hw,Ev.succ ((jo.and (kN.and (hE.and hM))).mono fun k e=>?_)⟩;obtain⟨w1,w2,w3,w4⟩:=e;refine⟨⟨l,?_,by omega,fun _=>rfl⟩,fun D hr=>⟨D,?_,fun _=>hr⟩⟩
  ·rw [nF];simp only [go_sem,cF,bh hx,Cz,show((22:Int) == 9)=false from rfl,show((22:Int) == 12)=false from rfl,show((22:Int) == 22)=true from rfl,show((22:Int) == 16)=false from rfl,w1,show J2 0 x.2.1=0 from rfl,w3]
  ·rw [kb];simp only [go_sem,aZ,kQ,bh hx,aa,Cz,show((22:Int) == 9)=false from rfl,show((22:Int) == 12)=false from rfl,show((22:Int) == 22)=true from rfl,show((22:Int) == 16)=false from rfl,w2 D hr,e1,e2,w4,bne_iff_ne.2 hw]
 have h5:(nk t fn y.2.2.2.1).1=5:=(V0 hw).elim id id;obtain⟨n,f,n1,n2,n3⟩:=nk5 h5;by_cases YS:f.2.1=dP ((x.2.2.2.2.length:Int) - 1)
 rotate_left
 ·have BZ:(f.2.1 != dP ((x.2.2.2.2.length:Int) - 1))=true:=bne_iff_ne.2 YS
  have Nx:(dP ((x.2.2.2.2.length:Int) - 1) != f.2.1)=true:=bne_iff_ne.2 (Ne.symm YS);have hE:Ev fun k=>eE k t.1 t.2.1 t.2.2 ns fn l 0 0 x=some (l,12,y.2.1,()):=Ev.succ ((hW.and (hN.and (⟨5002,fun k hk=>hk⟩:Ev fun k=>5002≤k))).mono fun k e=>by
   obtain⟨w1,w2,hk⟩:=e;obtain⟨j,rfl⟩:∃ j,k=j + 1:=⟨k - 1,by omega⟩
   have ef:=IR (t:=t) (fn:=fn) (ns:=ns) (c:=12) (p:=y.2.1) (by decide) (Kd:=0) rfl (nm:=[]) IH.v (by omega) j (x.2.2.2.2.length - 1) 1 (j + 1) l (by omega) (by omega)
   rw [←zE (j + 1) 0 rfl []] at ef;have ef:ix (dB (j + 1)) (dx (j + 1)) (eE (j + 1)) (j + 1) (j + 1) x.2.2.2.2 t.1 t.2.1 t.2.2 ns fn l 12 y.2.1 1=_:=ef;rw [hw] at w1;rw [Kl (j + 1)];simp only [go_sem,lJ,e1,e2,w1,show J2 0 y.2.1=0 from rfl,show cK (j + 1) (t.1,t.2.1,t.2.2) fn y.2.2.2.1=_ from w2,aa,h5,n1,bh n2,BZ,cg,ef])
  refine⟨12,y.2.1,fun hz=>absurd hz (by decide),Ev.succ ((jo.and (kN.and (hE.and (hM.and hNi)))).mono fun k e=>?_)⟩
  obtain⟨w1,w2,w3,w4,w5⟩:=e;rw [hw] at w4;refine⟨⟨l,?_,by omega,fun _=>rfl⟩,fun D hr=>⟨D,?_,fun _=>hr⟩⟩
  ·rw [nF];simp only [go_sem,cF,bh hx,Cz,show((22:Int) == 9)=false from rfl,show((22:Int) == 12)=false from rfl,show((22:Int) == 22)=true from rfl,show((22:Int) == 16)=false from rfl,w1,show J2 0 x.2.1=0 from rfl,w3]
  ·rw [kb];simp only [go_sem,aZ,kQ,bh hx,aa,Cz,show((22:Int) == 9)=false from rfl,show((22:Int) == 12)=false from rfl,show((22:Int) == 22)=true from rfl,show((22:Int) == 16)=false from rfl,w2 D hr,e1,e2,w4,show fC k (t.1,t.2.1,t.2.2) fn y.2.2.2.1=_ from w5,n1,bh n2,Nx,show((12:Int) != 0)=true from rfl]
 have BZ:(f.2.1 != dP ((x.2.2.2.2.length:Int) - 1))=false:=by rw [YS];simp
 have Nx:(dP ((x.2.2.2.2.length:Int) - 1) != f.2.1)=false:=by rw [YS];simp
 obtain⟨c,p,hc,he⟩:=zT (Kd:=0) rfl (nm:=[]) IH.v (by omega) hli (x.2.2.2.2.length - 1) 1 (by omega) (fun j hj=>IH.n j (List.mem_of_mem_drop hj))
 have hus:=Oq (P:=P) (Is:=Is) (Rs:=Rs) (B:=B) (fn:=fn) ht e3 JI hyk l;rw [e5] at hus;have heS:Ev fun k=>Ss l i c p (ix (dB k) (dx k) (eE k) k k x.2.2.2.2 t.1 t.2.1 t.2.2 ns fn l 0 0 1):=(he.mono fun _ _ e=>e.1).jI.mono fun k e=>by rw [zE k 0 rfl []];exact e
 have heL:Ev fun k=>∀ D,Jg l D→Qi l c p (aR (bF k) (ci k) (bS k) k k ns t.1 t.2.1 t.2.2 fn P Is Rs B x.2.2.2.2 (x.2.2.2.2.length:Int) 0 0 D 0):=
  cm.jI (p2:=fun q k=>∀ D,Jg l D→Qi l c p (aR (bF q) (ci q) (bS q) q k ns t.1 t.2.1 t.2.2 fn P Is Rs B x.2.2.2.2 (x.2.2.2.2.length:Int) 0 0 D 0)) (cm.succ ((hus.tw.and (he.mono fun _ _ e=>e.2)).mono fun q k e D hr=>by
   have:=e.2 D hr;simp only [go_sem,aR,show decide ((0:Int) < (x.2.2.2.2.length:Int))=true from decide_eq_true (by omega),e1,e.1 D hr,show dP (0 + 1)=1 from rfl]
   exact this))
 have heI:=Gg (i:=i) hx (fun hz=>(hc hz).1) heL;have hE:Ev fun k=>Ss l i c p (eE k t.1 t.2.1 t.2.2 ns fn l 0 0 x):=Ev.succ ((hW.and (hN.and heS)).mono fun k e=>by
  obtain⟨w1,w2,bl,w3,w4,w5⟩:=e;rw [hw] at w1;refine⟨bl,?_,w4,w5⟩;rw [Kl];simp only [go_sem,lJ,e1,e2,w1,show J2 0 y.2.1=0 from rfl,show cK k (t.1,t.2.1,t.2.2) fn y.2.2.2.1=_ from w2,aa,h5,n1,bh n2,BZ,w3])
 refine⟨c,p,fun hz=>⟨(hc hz).1,F0.mk i x hx (fun j hj=>?_) (fun _ v hv=>?_) (fun h=>absurd (Cz.symm.trans h) (by decide))⟩,Ev.succ ((jo.and (kN.and (hE.and (hM.and (hNi.and heI))))).mono fun k e=>?_)⟩
 ·rw [hK] at hj
  rcases List.mem_cons.1 hj with rfl | hj
  ·exact F0.mk _ y e3 (by rw [hyk];simp) (fun h=>absurd (JI.symm.trans h) (by decide)) (fun h=>absurd (JI.symm.trans h) (by decide))
  ·exact(hc hz).2 j (by rw [hK];exact hj)
 ·rw [hK] at hv
  simp only [List.head?_cons,Option.some.injEq] at hv;subst hv;simp only [CP,e3];exact h5
 ·obtain⟨w1,w2,⟨bl,w3,w3',aex⟩,w4,w5,w6⟩:=e
  rw [hw] at w4;refine⟨⟨bl,?_,by omega,aex⟩,fun D hr=>?_⟩
  ·rw [nF];simp only [go_sem,cF,bh hx,Cz,show((22:Int) == 9)=false from rfl,show((22:Int) == 12)=false from rfl,show((22:Int) == 22)=true from rfl,show((22:Int) == 16)=false from rfl,w1,show J2 0 x.2.1=0 from rfl,w3]
  ·obtain⟨bm,w7,w8⟩:=w6 D hr
   refine⟨bm,?_,w8⟩;rw [kb];simp only [go_sem,aZ,kQ,bh hx,aa,Cz,show((22:Int) == 9)=false from rfl,show((22:Int) == 12)=false from rfl,show((22:Int) == 22)=true from rfl,show((22:Int) == 16)=false from rfl,w2 D hr,e1,e2,w4,show fC k (t.1,t.2.1,t.2.2) fn y.2.2.2.1=_ from w5,n1,bh n2,Nx,w7]
end
end Go.Fx.R5
namespace Go.Fx.R5
open Go Go.Fx
section
variable {t:xX} {fn:ao} {ns:List eg} {P:Int} {Is Rs:XS} {B:Int}
theorem Y5(ht:iy t){i:Nat}{x:eg}(hx:ns[i]? = some x)(hn:nK ns i x)(fj:jh ns)(IS:x.1=12)(IH:HF t fn ns P Is Rs B i x.2.2.2.2):NB t fn ns P Is Rs B i:=by
 intro l hli;have jo:=UA (fn:=fn) ht (l:=l) (by omega) hx
 have kN:=Fq (fn:=fn) ht l x;have dm:=hn.shp;rw [IS] at dm;obtain⟨u,r,hK⟩:∃ u r,x.2.2.2.2=u :: r:=by
  cases h:x.2.2.2.2 with
  |nil=>rw [h] at dm;simp [bZ] at dm
  |cons u r=>exact⟨u,r,rfl⟩
 have hu:x.2.2.2.2[0]? = some u:=by rw [hK];rfl
 have JI:kd ns u=23:=by
  rw [hK] at dm;cases r with
  |nil=>simp [bZ] at dm
  |cons v r=>cases r with
   |nil=>simp [bZ] at dm;exact dm.1
   |cons w r=>simp [bZ] at dm
 obtain⟨y,e1,e2,e3,e4,e5⟩:=Fw IH.v hu;have e1:bK x.2.2.2.2 0=some u:=e1;rw [e4] at JI;have hyk:y.2.2.2.2 = []:=by have:=(fj _ _ e3).shp;rw [JI] at this;simpa [bZ] using this
 simp only [IS,show ¬ (12:Int)=9 by decide,if_false] at kN
 generalize oq t fn l x=c0 at jo kN;have y0:=IH.l;have vj:0 < x.2.2.2.2.length:=by rw [hK];simp
 have hM:=Dm (fn:=fn) ht y.2.2.2.1 1;have g16:((12:Int) == 16)=false:=rfl;by_cases h0:c0=0
 rotate_left
 ·refine⟨c0,x.2.1,fun hz=>absurd hz h0,Ev.succ ((jo.and (kN.and ((UC (fn:=fn) h0 ht y.2.2.2.1 y.2.1 1 1 (p:=x.2.1)).and (⟨5002,fun k hk=>hk⟩:Ev fun k=>5002≤k)))).mono fun k e=>?_)⟩
  obtain⟨w1,w2,w3,hk⟩:=e;rw [Fc h0] at w1;obtain⟨j,rfl⟩:∃ j,k=j + 1:=⟨k - 1,by omega⟩
  have ef:=IR (t:=t) (fn:=fn) (ns:=ns) (p:=x.2.1) h0 g16 (nm:=x.2.2.2.1) IH.v (by omega) j (x.2.2.2.2.length - 1) 1 (j + 1) l (by omega) (by omega)
  refine⟨⟨l,?_,by omega,fun _=>rfl⟩,fun D hr=>⟨D,?_,fun _=>hr⟩⟩
  ·rw [nF (j + 1)];simp only [go_sem,cF,bh hx,IS,show((12:Int) == 9)=false from rfl,show((12:Int) == 12)=true from rfl,show((12:Int) == 22)=false from rfl,show((12:Int) == 16)=false from rfl,w1,aa,e1,e2,w3]
   rw [show bH _ _ _ (j + 1) (j + 1) 12 x.2.2.2.1 x.2.2.2.2 t.1 t.2.1 t.2.2 ns fn l c0 x.2.1 1=_ from ef]
   simp only [go_sem]
  ·rw [kb (j + 1)];simp only [go_sem,aZ,bh hx,aa,IS,show((12:Int) == 9)=false from rfl,show((12:Int) == 12)=true from rfl,show((12:Int) == 22)=false from rfl,show((12:Int) == 16)=false from rfl,w2 D hr,bne_iff_ne.2 h0]
 subst h0;have hW:=C5 (fn:=fn) ht y.2.2.2.1 y.2.1 1 1;by_cases hw:W t fn y.2.2.2.1 1 1=0
 rotate_left
 ·refine⟨W t fn y.2.2.2.1 1 1,y.2.1,fun hz=>absurd hz hw,Ev.succ ((jo.and (kN.and (hW.and (hM.and (⟨5002,fun k hk=>hk⟩:Ev fun k=>5002≤k))))).mono fun k e=>?_)⟩
  obtain⟨w1,w2,w3,w4,hk⟩:=e;rw [Fc hw] at w3;obtain⟨j,rfl⟩:∃ j,k=j + 1:=⟨k - 1,by omega⟩
  have ef:=IR (t:=t) (fn:=fn) (ns:=ns) (p:=y.2.1) hw g16 (nm:=x.2.2.2.1) IH.v (by omega) j (x.2.2.2.2.length - 1) 1 (j + 1) l (by omega) (by omega)
  refine⟨⟨l,?_,by omega,fun _=>rfl⟩,fun D hr=>⟨D,?_,fun _=>hr⟩⟩
  ·rw [nF (j + 1)];simp only [go_sem,cF,bh hx,IS,show((12:Int) == 9)=false from rfl,show((12:Int) == 12)=true from rfl,show((12:Int) == 22)=false from rfl,show((12:Int) == 16)=false from rfl,w1,show J2 0 x.2.1=0 from rfl,aa,e1,e2,w3]
   rw [show bH _ _ _ (j + 1) (j + 1) 12 x.2.2.2.1 x.2.2.2.2 t.1 t.2.1 t.2.2 ns fn l (W t fn y.2.2.2.1 1 1) y.2.1 1=_ from ef]
   simp only [go_sem]
  ·rw [kb (j + 1)];simp only [go_sem,aZ,bh hx,aa,IS,show((12:Int) == 9)=false from rfl,show((12:Int) == 12)=true from rfl,show((12:Int) == 22)=false from rfl,show((12:Int) == 16)=false from rfl,w2 D hr,e1,e2,w4,bne_iff_ne.2 hw]
 obtain⟨c,p,hc,he⟩:=zT (Kd:=12) rfl (nm:=x.2.2.2.1) IH.v (by omega) hli (x.2.2.2.2.length - 1) 1 (by omega) (fun j hj=>IH.n j (List.mem_of_mem_drop hj))
 have hus:=Oq (P:=P) (Is:=Is) (Rs:=Rs) (B:=B) (fn:=fn) ht e3 JI hyk l;rw [e5] at hus;have heS:=(he.mono fun _ _ e=>e.1).jI;have heL:Ev fun k=>∀ D,Jg l D→Qi l c p (aR (bF k) (ci k) (bS k) k k ns t.1 t.2.1 t.2.2 fn P Is Rs B x.2.2.2.2 (x.2.2.2.2.length:Int) 0 0 D 0):=
  cm.jI (p2:=fun q k=>∀ D,Jg l D→Qi l c p (aR (bF q) (ci q) (bS q) q k ns t.1 t.2.1 t.2.2 fn P Is Rs B x.2.2.2.2 (x.2.2.2.2.length:Int) 0 0 D 0)) (cm.succ ((hus.tw.and (he.mono fun _ _ e=>e.2)).mono fun q k e D hr=>by
   have:=e.2 D hr;simp only [go_sem,aR,show decide ((0:Int) < (x.2.2.2.2.length:Int))=true from decide_eq_true (by omega),e1,e.1 D hr,show dP (0 + 1)=1 from rfl]
   exact this))
 have heI:=Gg (i:=i) hx (fun hz=>(hc hz).1) heL;refine⟨c,p,fun hz=>⟨(hc hz).1,F0.mk i x hx (fun j hj=>?_) (fun h=>absurd (IS.symm.trans h) (by decide)) (fun _ v hv=>?_)⟩,Ev.succ ((jo.and (kN.and (hW.and (hM.and (heS.and heI))))).mono fun k e=>?_)⟩
 ·rw [hK] at hj
  rcases List.mem_cons.1 hj with rfl | hj
  ·exact F0.mk _ y e3 (by rw [hyk];simp) (fun h=>absurd (JI.symm.trans h) (by decide)) (fun h=>absurd (JI.symm.trans h) (by decide))
  ·exact(hc hz).2 j (by rw [hK];exact hj)
 ·rw [hK] at hv
  simp only [List.head?_cons,Option.some.injEq] at hv;subst hv;simp only [CP,e3];exact(V0 hw).elim id id
 ·obtain⟨w1,w2,w3,w4,⟨bl,w5,w5',aey⟩,w6⟩:=e
  rw [hw] at w4;rw [hw] at w3;refine⟨⟨bl,?_,by omega,aey⟩,fun D hr=>?_⟩
  ·rw [nF];simp only [go_sem,cF,bh hx,IS,show((12:Int) == 9)=false from rfl,show((12:Int) == 12)=true from rfl,show((12:Int) == 22)=false from rfl,show((12:Int) == 16)=false from rfl,w1,show J2 0 x.2.1=0 from rfl,show J2 0 y.2.1=0 from rfl,aa,e1,e2,w3]
   rw [show bH _ _ _ k k 12 x.2.2.2.1 x.2.2.2.2 t.1 t.2.1 t.2.2 ns fn l 0 0 1=_ from w5]
   simp only [go_sem]
  ·obtain⟨bm,w7,w8⟩:=w6 D hr
   refine⟨bm,?_,w8⟩;rw [kb];simp only [go_sem,aZ,bh hx,aa,IS,show((12:Int) == 9)=false from rfl,show((12:Int) == 12)=true from rfl,show((12:Int) == 22)=false from rfl,show((12:Int) == 16)=false from rfl,w2 D hr,e1,e2,w4,w7]
theorem abn(ht:iy t){i:Nat}{x:eg}(hx:ns[i]? = some x)(hn:nK ns i x)(fj:jh ns)(h9:x.1=9)(IH:HF t fn ns P Is Rs B i x.2.2.2.2):NB t fn ns P Is Rs B i:=by
 intro l hli;have dm:=hn.shp;rw [h9] at dm;obtain⟨u,hK⟩:∃ u,x.2.2.2.2 = [u]:=by
  rcases h:x.2.2.2.2 with _ |⟨u,_ |⟨v,r⟩⟩
  ·rw [h] at dm;simp [bZ] at dm
  ·exact⟨u,rfl⟩
  ·rw [h] at dm;simp [bZ] at dm
 have hu:x.2.2.2.2[0]? = some u:=by rw [hK];rfl
 obtain⟨y,e1,e2,e3,e4,e5⟩:=Fw IH.v hu;have e1:bK x.2.2.2.2 0=some u:=e1;have hni:=IH.n u (by rw [hK];simp)
 have hN:=Tg ht fn x.2.2.2.1;have hNi:=WW ht fn x.2.2.2.1;by_cases h4:(nk t fn x.2.2.2.1).1=4
 ·
  have bJ:y.1=25∨y.1=29→F0 ns t fn u.toNat:=fun h=>by
   have hy:=(fj _ _ e3).shp;have hyk:y.2.2.2.2 = []:=by rcases h with h | h<;>(rw [h] at hy;simpa [bZ] using hy)
   exact F0.mk _ y e3 (by rw [hyk];simp) (fun h'=>by rcases h with h | h<;>exact absurd (h.symm.trans h') (by decide)) (fun h'=>by rcases h with h | h<;>exact absurd (h.symm.trans h') (by decide))
  have chk:y.1=25∨y.1=29→F0 ns t fn i:=fun h=>F0.mk i x hx (fun j hj=>by rw [hK] at hj;rw [List.mem_singleton.1 hj];exact bJ h) (fun h'=>absurd (h9.symm.trans h') (by decide)) (fun h'=>absurd (h9.symm.trans h') (by decide))
  have hW:=C5 (fn:=fn) ht y.2.2.2.1 y.2.1 4 4;have hM:=Dm (fn:=fn) ht y.2.2.2.1 4;have aaI:∀ c p:Int,(c=0→p=0∧F0 ns t fn i)→(Ev fun k=>dx k t.1 t.2.1 t.2.2 ns fn l 0 0 x=some (l,c,p,()))→(Ev fun k=>jt k ns t.1 t.2.1 t.2.2 fn x=some ((c,p),()))→
    ∃ c p,(c=0→p=0∧F0 ns t fn i)∧Ev fun k=>Ss l (i + 1) c p (dB k t.1 t.2.1 t.2.2 ns fn l 0 0 (i:Int))∧∀ D,Jg l D→Yv l c p (ci k ns t.1 t.2.1 t.2.2 fn P Is Rs B D (i:Int)):=fun c p hc hS hI=>by
   refine⟨c,p,hc,Ev.succ ((hS.and (hI.and hNi)).mono fun k e=>?_)⟩;obtain⟨w1,w2,w3⟩:=e;refine⟨⟨l,?_,by omega,fun _=>rfl⟩,fun D hr=>⟨D,?_,fun _=>hr⟩⟩
   ·rw [nF];simp only [go_sem,cF,bh hx,h9,w1]
   ·rw [kb];simp only [go_sem,aZ,gz,bh hx,aa,h9,show fC k (t.1,t.2.1,t.2.2) fn x.2.2.2.1=_ from w3,h4,w2]
  by_cases y29:y.1=29
  ·refine aaI 0 0 (fun _=>⟨rfl,chk (.inr y29)⟩) (Ev.succ (hN.mono fun k e=>?_)) (Ev.of fun k=>?_)
   ·rw [Dy];simp only [go_sem,hJ,show cK k (t.1,t.2.1,t.2.2) fn x.2.2.2.1=_ from e,e1,e2,h4,aa,y29,show((29:Int) == 25)=false from rfl,show((29:Int) != 29)=false from rfl]
   ·simp only [go_sem,jt,e1,e2,y29]
  ·by_cases y25:y.1=25
   ·refine aaI (W t fn y.2.2.2.1 4 4) (J2 (W t fn y.2.2.2.1 4 4) y.2.1) (fun hz=>⟨by simp [J2,hz],chk (.inl y25)⟩) (Ev.succ ((hN.and hW).mono fun k e=>?_)) (hM.mono fun k e=>?_)
    ·rw [Dy];simp only [go_sem,hJ,show cK k (t.1,t.2.1,t.2.2) fn x.2.2.2.1=_ from e.1,e1,e2,h4,aa,y25,e.2]
    ·simp only [go_sem,jt,e1,e2,y25,show((25:Int) == 29)=false from rfl,e]
     by_cases hw:W t fn y.2.2.2.1 4 4=0
     ·simp [hw,J2]
     ·simp [hw,J2,bne_iff_ne.2 hw]
   ·refine aaI 11 x.2.1 (fun hz=>absurd hz (by decide)) (Ev.succ (hN.mono fun k e=>?_)) (Ev.of fun k=>?_)
    ·rw [Dy];simp only [go_sem,hJ,show cK k (t.1,t.2.1,t.2.2) fn x.2.2.2.1=_ from e,e1,e2,h4,aa,beq_eq_false_iff_ne.2 y25,bne_iff_ne.2 y29,cg]
    ·simp only [go_sem,jt,e1,e2,beq_eq_false_iff_ne.2 y29,beq_eq_false_iff_ne.2 y25]
 ·
  have g4:((nk t fn x.2.2.2.1).1 == 4)=false:=beq_eq_false_iff_ne.2 h4;have Ie:=aal (fn:=fn) ht (l:=l) (by omega) x.2.2.2.1 x.2.1
  have kN:=Fq (fn:=fn) ht l x;simp only [h9,if_true] at kN;generalize F8 t fn l x.2.2.2.1 3 2=c0 at Ie kN;have g9:((9:Int) == 9)=true:=rfl;by_cases h0:c0=0
  rotate_left
  ·have hS:Ev fun k=>dx k t.1 t.2.1 t.2.2 ns fn l 0 0 x=some (l,c0,x.2.1,()):=Ev.succ ((hN.and (Ie.and (⟨1,fun k hk=>hk⟩:Ev fun k=>1≤k))).mono fun k e=>by
    obtain⟨w1,w2,hk⟩:=e;rw [Fc h0] at w2;obtain⟨j,rfl⟩:∃ j,k=j + 1:=⟨k - 1,by omega⟩
    have en:=Gu (t:=t) (fn:=fn) (p:=x.2.1) h0 e3 j l;rw [e5] at en;rw [Dy (j + 1)];simp only [go_sem,hJ,show cK (j + 1) (t.1,t.2.1,t.2.2) fn x.2.2.2.1=_ from w1,e1,e2,g4,w2,aa,cg,beq_eq_false_iff_ne.2 h0,en]
    cases (y.1 == 29)<;>rfl)
   refine⟨c0,x.2.1,fun hz=>absurd hz h0,Ev.succ ((hS.and (kN.and hNi)).mono fun k e=>?_)⟩;obtain⟨w1,w2,w3⟩:=e;refine⟨⟨l,?_,by omega,fun _=>rfl⟩,fun D hr=>⟨D,?_,fun _=>hr⟩⟩
   ·rw [nF];simp only [go_sem,cF,bh hx,h9,g9,w1]
   ·rw [kb];simp only [go_sem,aZ,gz,bh hx,aa,h9,g9,show fC k (t.1,t.2.1,t.2.2) fn x.2.2.2.1=_ from w3,g4,w2 D hr,bne_iff_ne.2 h0]
  subst h0;by_cases y29:y.1=29
  ·have hS:Ev fun k=>dx k t.1 t.2.1 t.2.2 ns fn l 0 0 x=some (l,11,y.2.1,()):=Ev.succ ((hN.and (Ie.and (⟨1,fun k hk=>hk⟩:Ev fun k=>1≤k))).mono fun k e=>by
    obtain⟨w1,w2,hk⟩:=e;obtain⟨j,rfl⟩:∃ j,k=j + 1:=⟨k - 1,by omega⟩
    have en:=Gu (t:=t) (fn:=fn) (c:=11) (p:=y.2.1) (by decide) e3 j l
    rw [e5] at en;rw [Dy (j + 1)];simp only [go_sem,hJ,show cK (j + 1) (t.1,t.2.1,t.2.2) fn x.2.2.2.1=_ from w1,e1,e2,g4,w2,show J2 0 x.2.1=0 from rfl,aa,cg,y29,en])
   refine⟨11,y.2.1,fun hz=>absurd hz (by decide),Ev.succ ((hS.and (kN.and hNi)).mono fun k e=>?_)⟩
   obtain⟨w1,w2,w3⟩:=e;refine⟨⟨l,?_,by omega,fun _=>rfl⟩,fun D hr=>⟨D,?_,fun _=>hr⟩⟩
   ·rw [nF];simp only [go_sem,cF,bh hx,h9,g9,w1]
   ·rw [kb];simp only [go_sem,aZ,gz,bh hx,aa,h9,g9,show fC k (t.1,t.2.1,t.2.2) fn x.2.2.2.1=_ from w3,g4,w2 D hr,e1,e2,y29]
  have g29:=beq_eq_false_iff_ne.2 y29;have y0:=IH.l;obtain⟨c,p,hc,he⟩:=hni.2 l (by omega)
  rw [e5] at he;have hS:Ev fun k=>Ss l (u.toNat + 1) c p (dx k t.1 t.2.1 t.2.2 ns fn l 0 0 x):=Ev.succ ((hN.and (Ie.and he)).mono fun k e=>by
   obtain⟨w1,w2,⟨bl,w3,w4,w5⟩,_⟩:=e;refine⟨bl,?_,w4,w5⟩;rw [Dy];simp only [go_sem,hJ,show cK k (t.1,t.2.1,t.2.2) fn x.2.2.2.1=_ from w1,e1,e2,g4,w2,show J2 0 x.2.1=0 from rfl,aa,g29,w3])
  obtain⟨c2,p2,wr,he2⟩:=zT (Kd:=0) rfl (nm:=[]) IH.v (by omega) hli x.2.2.2.2.length 0 rfl (fun j hj=>IH.n j (by simpa using hj))
  have heL:Ev fun k=>∀ D,Jg l D→Qi l c p (aR (bF k) (ci k) (bS k) k k ns t.1 t.2.1 t.2.2 fn P Is Rs B x.2.2.2.2 (x.2.2.2.2.length:Int) 0 0 D 0):=
   cm.jI (p2:=fun q k=>∀ D,Jg l D→Qi l c p (aR (bF q) (ci q) (bS q) q k ns t.1 t.2.1 t.2.2 fn P Is Rs B x.2.2.2.2 (x.2.2.2.2.length:Int) 0 0 D 0)) (cm.succ (cm.succ (he.tw.mono fun q k e D hr=>by
    obtain⟨bm,w1,w2⟩:=e.2 D hr;refine⟨bm,?_,w2⟩;rw [hK,aR];simp only [go_sem,List.length_singleton,show decide ((0:Int) < ((1:Nat):Int))=true from rfl,show bK [u] 0=some u from rfl,w1]
    by_cases hz:c=0
    ·rw [aR]
     simp only [go_sem,hz,show dP (0 + 1)=1 from rfl,show decide ((1:Int) < ((1:Nat):Int))=false from rfl,if_true]
    ·simp only [go_sem,bne_iff_ne.2 hz,if_neg hz])))
  have heI:=Gg (i:=i) hx (fun hz=>(hc hz).1) heL;refine⟨c,p,fun hz=>⟨(hc hz).1,F0.mk i x hx (fun j hj=>by rw [hK] at hj;rw [List.mem_singleton.1 hj];exact(hc hz).2) (fun h'=>absurd (h9.symm.trans h') (by decide)) (fun h'=>absurd (h9.symm.trans h') (by decide))⟩,Ev.succ ((hS.and (kN.and (hNi.and heI))).mono fun k e=>?_)⟩
  obtain⟨⟨bl,w1,w1',aew⟩,w2,w3,w4⟩:=e;have bq:=hni.1;refine⟨⟨bl,?_,by omega,aew⟩,fun D hr=>?_⟩
  ·rw [nF];simp only [go_sem,cF,bh hx,h9,g9,w1]
  ·obtain⟨bm,w5,w6⟩:=w4 D hr
   refine⟨bm,?_,w6⟩;rw [kb];simp only [go_sem,aZ,gz,bh hx,aa,h9,g9,show fC k (t.1,t.2.1,t.2.2) fn x.2.2.2.1=_ from w3,g4,w2 D hr,e1,e2,g29,w5]
end
end Go.Fx.R5
namespace Go.Fx.R5
open Go Go.Fx
section
variable {t:xX} {fn:ao} {ns:List eg} {P:Int} {Is Rs:XS} {B:Int}
theorem YM{rn ra rc}(q k:Nat)(nm:ao)(a b c:Int)(A:AS)(G:XS)(F:FS)(bu:XS)(cd p:Int):bH rn ra rc q (k + 4) 16 nm [a,b,c] A G F ns fn bu cd p 0 =
  (rn A G F ns fn bu cd p a).bind fun r=>(rn A G F ns fn r.1 r.2.1 r.2.2.1 b).bind fun r2=>(lM r2.1 [nm]).bind fun l=>(rn A G F ns fn l r2.2.1 r2.2.2.1 c).bind fun r3=>some (r3.1,r3.2.1,r3.2.2.1,()):=by
 rw [bH];simp only [go_sem,List.length_cons,List.length_nil,show decide ((0:Int) < ((0 + 1 + 1 + 1:Nat):Int))=true from rfl,show((16:Int) == 16)=true from rfl,show((0:Int) == 2)=false from rfl,aa,show bK [a,b,c] 0=some a from rfl,show dP (0 + 1)=1 from rfl]
 rfl
theorem abm(ht:iy t){i:Nat}{x:eg}(hx:ns[i]? = some x)(hn:nK ns i x)(Ek:x.1=16)(IH:HF t fn ns P Is Rs B i x.2.2.2.2):NB t fn ns P Is Rs B i:=by
 intro l hli;have jo:=UA (fn:=fn) ht (l:=l) (by omega) hx
 have kN:=Fq (fn:=fn) ht l x;have dm:=hn.shp;rw [Ek] at dm;obtain⟨a,b,c,hK⟩:∃ a b c,x.2.2.2.2 = [a,b,c]:=by
  rcases h:x.2.2.2.2 with _ |⟨a,_ |⟨b,_ |⟨c,_ |⟨d,r⟩⟩⟩⟩
  ·rw [h] at dm;simp [bZ] at dm
  ·rw [h] at dm;simp [bZ] at dm
  ·rw [h] at dm;simp [bZ] at dm
  ·exact⟨a,b,c,rfl⟩
  ·rw [h] at dm;simp [bZ] at dm
 obtain⟨ya,ea1,ea2,ea3,ea4,ea5⟩:=Fw IH.v (n:=0) (j:=a) (by rw [hK];rfl)
 obtain⟨yb,eb1,eb2,eb3,eb4,eb5⟩:=Fw IH.v (n:=1) (j:=b) (by rw [hK];rfl)
 obtain⟨yc,ec1,ec2,ec3,ec4,ec5⟩:=Fw IH.v (n:=2) (j:=c) (by rw [hK];rfl)
 have na:=IH.n a (by rw [hK];simp)
 have nb:=IH.n b (by rw [hK];simp)
 have nc:=IH.n c (by rw [hK];simp)
 have hoc:oq t fn l x=F8 t fn l x.2.2.2.1 3 3:=by simp only [oq,Ek,Int.reduceEq,reduceIte,or_self]
 simp only [Ek,show ¬ (16:Int)=9 by decide,if_false] at kN
 have g16:((16:Int) == 16)=true:=rfl;have r0:∀ c0 p0:Int,c0≠0→(Ev fun k=>∃ bl,bH (dB k) (dx k) (eE k) k k 16 x.2.2.2.1 x.2.2.2.2 t.1 t.2.1 t.2.2 ns fn l 0 0 0=some (bl,c0,p0,())∧bl.length≤l.length + i + 1)→oq t fn l x=0→
   (Ev fun k=>∀ D,Jg l D→∃ bm,bS k ns t.1 t.2.1 t.2.2 fn P Is Rs B D x=some ((c0,p0),bm,()))→
   ∃ c p,(c=0→p=0∧F0 ns t fn i)∧Ev fun k=>Ss l (i + 1) c p (dB k t.1 t.2.1 t.2.2 ns fn l 0 0 (i:Int))∧∀ D,Jg l D→Yv l c p (ci k ns t.1 t.2.1 t.2.2 fn P Is Rs B D (i:Int)):=fun c0 p0 hc0 hS ho hI=>by
  rw [ho] at jo kN;refine⟨c0,p0,fun hz=>absurd hz hc0,Ev.succ ((jo.and (kN.and (hS.and hI))).mono fun k e=>?_)⟩;obtain⟨w1,w2,⟨bl,w3,w3'⟩,w4⟩:=e;refine⟨⟨bl,?_,by omega,fun hz=>absurd hz hc0⟩,fun D hr=>?_⟩
  ·rw [nF];simp only [go_sem,cF,bh hx,Ek,show((16:Int) == 9)=false from rfl,show((16:Int) == 12)=false from rfl,show((16:Int) == 22)=false from rfl,show((16:Int) == 16)=true from rfl,w1,show J2 0 x.2.1=0 from rfl,aa]
   rw [show bH _ _ _ k k 16 x.2.2.2.1 x.2.2.2.2 t.1 t.2.1 t.2.2 ns fn l 0 0 0=_ from w3]
   simp only [go_sem,beq_eq_false_iff_ne.2 hc0]
  ·obtain⟨bm,w5⟩:=w4 D hr
   refine⟨bm,?_,fun hz=>absurd hz hc0⟩;rw [kb];simp only [go_sem,aZ,bh hx,aa,Ek,show((16:Int) == 9)=false from rfl,show((16:Int) == 12)=false from rfl,show((16:Int) == 22)=false from rfl,show((16:Int) == 16)=true from rfl,w2 D hr,w5]
 have y0:=IH.l;by_cases h0:oq t fn l x=0
 rotate_left
 ·
  refine⟨oq t fn l x,x.2.1,fun hz=>absurd hz h0,Ev.succ ((jo.and (kN.and (⟨10,fun k hk=>hk⟩:Ev fun k=>10≤k))).mono fun k e=>?_)⟩;obtain⟨w1,w2,hk⟩:=e;rw [Fc h0] at w1;obtain⟨j,rfl⟩:∃ j,k=j + 4:=⟨k - 4,by omega⟩
  have fa:=Gu (t:=t) (fn:=fn) (p:=x.2.1) h0 ea3 (j + 3) l;have fb:=Gu (t:=t) (fn:=fn) (p:=x.2.1) h0 eb3 (j + 3) l;have fc:=Gu (t:=t) (fn:=fn) (p:=x.2.1) h0 ec3 (j + 3) (l ++ [x.2.2.2.1]);rw [ea5] at fa;rw [eb5] at fb;rw [ec5] at fc;have fp:lM l [x.2.2.2.1]=some (l ++ [x.2.2.2.1]):=qJ (by simp;omega)
  refine⟨⟨l ++ [x.2.2.2.1],?_,by simp,fun hz=>absurd hz h0⟩,fun D hr=>⟨D,?_,fun _=>hr⟩⟩
  ·rw [nF (j + 4)];simp only [go_sem,cF,bh hx,Ek,show((16:Int) == 9)=false from rfl,show((16:Int) == 12)=false from rfl,show((16:Int) == 22)=false from rfl,show((16:Int) == 16)=true from rfl,w1,aa,hK]
   rw [YM];simp only [go_sem,show j + 4=j + 3 + 1 from rfl,fa,fb,fp,fc,beq_eq_false_iff_ne.2 h0]
  ·rw [kb (j + 4)];simp only [go_sem,aZ,bh hx,aa,Ek,show((16:Int) == 9)=false from rfl,show((16:Int) == 12)=false from rfl,show((16:Int) == 22)=false from rfl,show((16:Int) == 16)=true from rfl,w2 D hr,bne_iff_ne.2 h0]
 obtain⟨ca,pa,hca,hea⟩:=na.2 l (by omega)
 rw [ea5] at hea;have JF:(⟨10,fun k hk=>hk⟩:Ev fun k=>10≤k)=⟨10,fun k hk=>hk⟩:=rfl;have JF:Ev fun k=>10≤k:=⟨10,fun k hk=>hk⟩;have pV:sub [a,b,c] 0 2=some [a,b]:=rfl;have i2:bK [a,b,c] 2=some c:=rfl;by_cases hza:ca=0
 rotate_left
 ·refine r0 ca pa hza ((hea.and JF).mono fun k e=>?_) h0 (Ev.succ ((hea.and JF).mono fun k e D hr=>?_))
  ·obtain⟨⟨⟨bl,w1,w2,_⟩,_⟩,hk⟩:=e
   obtain⟨j,rfl⟩:∃ j,k=j + 4:=⟨k - 4,by omega⟩
   have fb:=Gu (t:=t) (fn:=fn) (p:=pa) hza eb3 (j + 3) bl;have fc:=Gu (t:=t) (fn:=fn) (p:=pa) hza ec3 (j + 3) (bl ++ [x.2.2.2.1]);rw [eb5] at fb;rw [ec5] at fc;have fp:lM bl [x.2.2.2.1]=some (bl ++ [x.2.2.2.1]):=qJ (by simp;omega)
   have:=na.1;refine⟨bl ++ [x.2.2.2.1],?_,by simp;omega⟩
   rw [hK,YM];rw [show j + 4=j + 3 + 1 from rfl] at w1
   simp only [go_sem,show j + 4=j + 3 + 1 from rfl,w1,fb,fp,fc]
  ·obtain⟨⟨_,w1⟩,hk⟩:=e
   obtain⟨bm,w2,_⟩:=w1 D hr;obtain⟨j,rfl⟩:∃ j,k=j + 1:=⟨k - 1,by omega⟩
   refine⟨bm,?_⟩;rw [Lm (j + 1)];simp only [go_sem,gJ,hK,pV];rw [cC];simp only [go_sem,List.length_cons,List.length_nil,show decide ((0:Int) < ((0 + 1 + 1:Nat):Int))=true from rfl,show bK [a,b] 0=some a from rfl,w2,bne_iff_ne.2 hza]
 subst hza;obtain⟨rfl,adK⟩:=hca rfl;obtain⟨cb,pb,hcb,heb⟩:=nb.2 l (by omega)
 rw [eb5] at heb;by_cases hzb:cb=0
 rotate_left
 ·refine r0 cb pb hzb ((hea.and (heb.and JF)).mono fun k e=>?_) h0 (Ev.succ ((hea.and (heb.and JF)).mono fun k e D hr=>?_))
  ·obtain⟨⟨⟨bl0,w1,_,w1'⟩,_⟩,⟨⟨bl,w2,w3,_⟩,_⟩,hk⟩:=e
   obtain rfl:=w1' rfl;obtain⟨j,rfl⟩:∃ j,k=j + 4:=⟨k - 4,by omega⟩
   have fc:=Gu (t:=t) (fn:=fn) (p:=pb) hzb ec3 (j + 3) (bl ++ [x.2.2.2.1]);rw [ec5] at fc;have fp:lM bl [x.2.2.2.1]=some (bl ++ [x.2.2.2.1]):=qJ (by simp;omega)
   have:=nb.1;refine⟨bl ++ [x.2.2.2.1],?_,by simp;omega⟩
   rw [hK,YM];rw [show j + 4=j + 3 + 1 from rfl] at w1 w2
   simp only [go_sem,show j + 4=j + 3 + 1 from rfl,w1,w2,fp,fc]
  ·obtain⟨⟨_,w1⟩,⟨_,w3⟩,hk⟩:=e
   obtain⟨bm0,w2,w2'⟩:=w1 D hr;obtain⟨bm,w4,_⟩:=w3 bm0 (w2' rfl);obtain⟨j,rfl⟩:∃ j,k=j + 2:=⟨k - 2,by omega⟩
   refine⟨bm,?_⟩;rw [Lm (j + 2)];simp only [go_sem,gJ,hK,pV];rw [cC];simp only [go_sem,List.length_cons,List.length_nil,show decide ((0:Int) < ((0 + 1 + 1:Nat):Int))=true from rfl,show bK [a,b] 0=some a from rfl,w2,show dP (0 + 1)=1 from rfl]
   rw [cC];simp only [go_sem,List.length_cons,List.length_nil,show decide ((1:Int) < ((0 + 1 + 1:Nat):Int))=true from rfl,show bK [a,b] 1=some b from rfl,w4,bne_iff_ne.2 hzb]
 subst hzb;obtain⟨rfl,adL⟩:=hcb rfl;have O5:x.2.2.2.1∉l:=fun hm=>by
  rw [hoc] at h0;unfold F8 at h0;by_cases hw:W t fn x.2.2.2.1 3 3=0
  ·simp [hw,hm] at h0
  ·simp [hw] at h0
 have Li:∀{D:AS},Jg l D→Jg (l ++ [x.2.2.2.1]) (qu D x.2.2.2.1 1):=fun hr s=>by
  rw [Dq,List.mem_append,List.mem_singleton];by_cases e:x.2.2.2.1=s
  ·simp [e]
  ·simp [e,hr s,Ne.symm e]
 have acI:∀{D:AS},Jg (l ++ [x.2.2.2.1]) D→Jg l (qu D x.2.2.2.1 0):=fun hr s=>by
  rw [Dq];by_cases e:x.2.2.2.1=s
  ·subst e;simp [O5]
  ·have:=hr s
   rw [List.mem_append,List.mem_singleton] at this;simp [e,this,Ne.symm e]
 obtain⟨cc,pc,hcc,hec⟩:=nc.2 (l ++ [x.2.2.2.1]) (by have:=nc.1;simp;omega)
 rw [ec5] at hec;have hlp:lM l [x.2.2.2.1]=some (l ++ [x.2.2.2.1]):=qJ (by simp;omega)
 have hS:Ev fun k=>∃ bl,bH (dB k) (dx k) (eE k) k k 16 x.2.2.2.1 x.2.2.2.2 t.1 t.2.1 t.2.2 ns fn l 0 0 0=some (bl,cc,pc,())∧bl.length≤l.length + i + 1∧(cc=0→bl=l ++ [x.2.2.2.1]):=(hea.and (heb.and (hec.and JF))).mono fun k e=>by
  obtain⟨⟨⟨bl0,w1,_,w1'⟩,_⟩,⟨⟨bl1,w2,_,w2'⟩,_⟩,⟨⟨bl,w3,w4,w5⟩,_⟩,hk⟩:=e;obtain rfl:=w1' rfl;obtain rfl:=w2' rfl;obtain⟨j,rfl⟩:∃ j,k=j + 4:=⟨k - 4,by omega⟩
  have:=nc.1;refine⟨bl,?_,by simp at w4;omega,w5⟩
  rw [hK,YM];simp only [go_sem,w1,w2,hlp,w3]
 have hI:Ev fun k=>∀ D,Jg l D→∃ bm,bS k ns t.1 t.2.1 t.2.2 fn P Is Rs B D x=some ((cc,pc),bm,())∧(cc=0→Jg l bm):=Ev.succ ((hea.and (heb.and (hec.and JF))).mono fun k e D hr=>by
  obtain⟨⟨_,w1⟩,⟨_,w3⟩,⟨_,w5⟩,hk⟩:=e;obtain⟨bm0,w2,w2'⟩:=w1 D hr;obtain⟨bm1,w4,w4'⟩:=w3 bm0 (w2' rfl);obtain⟨bm2,w6,w6'⟩:=w5 (qu bm1 x.2.2.2.1 1) (Li (w4' rfl));obtain⟨j,rfl⟩:∃ j,k=j + 3:=⟨k - 3,by omega⟩
  refine⟨qu bm2 x.2.2.2.1 0,?_,fun hz=>acI (w6' hz)⟩;rw [Lm (j + 3)];simp only [go_sem,gJ,hK,pV];rw [cC];simp only [go_sem,List.length_cons,List.length_nil,show decide ((0:Int) < ((0 + 1 + 1:Nat):Int))=true from rfl,show bK [a,b] 0=some a from rfl,w2,show dP (0 + 1)=1 from rfl]
  rw [cC];simp only [go_sem,List.length_cons,List.length_nil,show decide ((1:Int) < ((0 + 1 + 1:Nat):Int))=true from rfl,show bK [a,b] 1=some b from rfl,w4,show dP (1 + 1)=2 from rfl]
  rw [cC];simp only [go_sem,List.length_cons,List.length_nil,show decide ((2:Int) < ((0 + 1 + 1:Nat):Int))=false from rfl,i2,w6])
 by_cases hzc:cc=0
 rotate_left
 ·exact r0 cc pc hzc (hS.mono fun k e=>by obtain⟨bl,w1,w2,_⟩:=e;exact⟨bl,w1,w2⟩) h0 (hI.mono fun k e D hr=>by obtain⟨bm,w1,_⟩:=e D hr;exact⟨bm,w1⟩)
 subst hzc;obtain⟨rfl,adM⟩:=hcc rfl;rw [h0] at jo kN;refine⟨0,0,fun _=>⟨rfl,F0.mk i x hx (fun j hj=>?_) (fun h=>absurd (Ek.symm.trans h) (by decide)) (fun h=>absurd (Ek.symm.trans h) (by decide))⟩,Ev.succ ((jo.and (kN.and (hS.and hI))).mono fun k e=>?_)⟩
 ·rw [hK] at hj
  simp only [List.mem_cons,List.not_mem_nil,or_false] at hj;rcases hj with rfl | rfl | rfl
  ·exact adK
  ·exact adL
  ·exact adM
 ·obtain⟨w1,w2,⟨bl,w3,_,w4⟩,w5⟩:=e
  obtain rfl:=w4 rfl;refine⟨⟨l,?_,by omega,fun _=>rfl⟩,fun D hr=>?_⟩
  ·have hs:sub (l ++ [x.2.2.2.1]) 0 (dP (((l ++ [x.2.2.2.1]).length:Int) - 1))=some l:=by
    have:=FN (l:=l ++ [x.2.2.2.1]) (m:=0) (n:=l.length) (by omega) (by simp)
    rw [List.length_append,List.length_singleton,eK (by omega) (by omega),show((l.length + 1:Nat):Int) - 1=(l.length:Int) by omega]
    rw [show(0:Int)=((0:Nat):Int) from rfl,this];simp
   rw [nF];simp only [go_sem,cF,bh hx,Ek,show((16:Int) == 9)=false from rfl,show((16:Int) == 12)=false from rfl,show((16:Int) == 22)=false from rfl,show((16:Int) == 16)=true from rfl,w1,show J2 0 x.2.1=0 from rfl,aa]
   rw [show bH _ _ _ k k 16 x.2.2.2.1 x.2.2.2.2 t.1 t.2.1 t.2.2 ns fn l 0 0 0=_ from w3]
   simp only [go_sem,hs]
  ·obtain⟨bm,w6,w7⟩:=w5 D hr
   refine⟨bm,?_,w7⟩;rw [kb];simp only [go_sem,aZ,bh hx,aa,Ek,show((16:Int) == 9)=false from rfl,show((16:Int) == 12)=false from rfl,show((16:Int) == 22)=false from rfl,show((16:Int) == 16)=true from rfl,w2 D hr,w6]
theorem Vl(ht:iy t)(fj:jh ns):∀ n i,i < n→i < ns.length→NB t fn ns P Is Rs B i:=by
 intro n;induction n with
 |zero=>intro i h;omega
 |succ n ih=>
  intro i hi hl;have hx:ns[i]? = some ns[i]:=by simp [hl]
  have hn:=fj i _ hx;have IH:HF t fn ns P Is Rs B i ns[i].2.2.2.2:=⟨fun j hj=>by have:=hn.cA j hj;omega,hn.nm.2,fun j hj=>by
   have:=hn.cA j hj;exact⟨this.2,ih j.toNat (by omega) (by omega)⟩⟩
  by_cases h9:ns[i].1=9
  ·exact abn ht hx hn fj h9 IH
  by_cases Cz:ns[i].1=22
  ·exact Y6 ht hx hn fj Cz IH
  by_cases IS:ns[i].1=12
  ·exact Y5 ht hx hn fj IS IH
  by_cases Ek:ns[i].1=16
  ·exact abm ht hx hn Ek IH
  exact Xm ht hx h9 Cz IS Ek IH
end
end Go.Fx.R5
namespace Go.Fx.R5
open Go Go.Fx
section
variable {t:xX} {ns:List eg} {D:AS}
theorem US(ht:iy t)(fj:jh ns)(hl:ns.length≤3900){fn:ao}{P:Int}{Is Rs:XS}{b:Int}(h0:0≤b)(h1:b < ns.length)(h8:kd ns b=8):∃ c p,(c=0→p=0∧F0 ns t fn b.toNat)∧Ev fun k=>
  (∃ bl,dB k t.1 t.2.1 t.2.2 ns fn [] 0 0 b=some (bl,c,p,()))∧∃ bm,bF k ns t.1 t.2.1 t.2.2 fn P Is Rs b ([]:AS) b=some ((c,p),bm,()):=by
 obtain⟨x,e1,e2,e3⟩:=uf h0 h1;have hb:((b.toNat:Nat):Int)=b:=Int.toNat_of_nonneg h0;rw [e2] at h8;obtain⟨c,p,hc,he⟩:=Vl (fn:=fn) (P:=P) (Is:=Is) (Rs:=Rs) (B:=b) ht fj (b.toNat + 1) b.toNat (by omega) (by omega) [] (by simp;omega)
 rw [hb] at he;have Li:Jg [] ([]:AS):=fun s=>by simp [p7]
 have kN:=Fq (fn:=fn) ht [] x;simp only [h8,oq,Int.reduceEq,reduceIte,or_self] at kN;refine⟨c,p,hc,(he.and (he.Ze.and kN)).mono fun k e=>?_⟩;obtain⟨⟨⟨bl,w1,_⟩,_⟩,⟨_,w2⟩,w3⟩:=e;refine⟨⟨bl,w1⟩,?_⟩;obtain⟨bm,w4,_⟩:=w2 [] Li;rw [kb] at w4;simp only [go_sem,aZ,e3,aa,h8,show((8:Int) == 9)=false from rfl,show((8:Int) == 12)=false from rfl,show((8:Int) == 22)=false from rfl,show((8:Int) == 16)=false from rfl,w3 [] Li] at w4
 cases hbw:bF k ns t.1 t.2.1 t.2.2 fn P Is Rs b ([]:AS) b with
 |none=>rw [hbw] at w4;cases w4
 |some r=>obtain⟨⟨c',p'⟩,bm',u⟩:=r;rw [hbw] at w4;simp only [go_sem,Option.some.injEq,Prod.mk.injEq] at w4;exact⟨bm',by rw [w4.1.1,w4.1.2]⟩
theorem K3(hp:P1 ns t D)(fj:jh ns)(hl:ns.length≤3900):∀ m i,m + i=t.2.2.length→
  (∃(c p:Int),c≠0∧cm fun q k=>eR q k ns 0 0 t.1 t.2.1 t.2.2 (i:Int)=some (.inr (c,p,()))∧fk q k t.2.2 ns t.2.2 (t.2.2.length:Int) t.1 t.2.1 0 0 (i:Int)=some (.inr (c,p,())))∨
  ((∀ x∈t.2.2.drop i,F0 ns t x.1 x.2.2.2.2.toNat)∧cm fun q k=>eR q k ns 0 0 t.1 t.2.1 t.2.2 (i:Int)=some (.inl (0,0,t.1,t.2.1,t.2.2,()))∧
   fk q k t.2.2 ns t.2.2 (t.2.2.length:Int) t.1 t.2.1 0 0 (i:Int)=some (.inl (t.1,t.2.1,0,0,())))
 |0,i,h=>by
  have h2:¬ i < t.2.2.length:=by omega
  have e:t.2.2.drop i = []:=by simp;omega
  refine .inr ⟨by rw [e];simp,cm.succ (cm.of fun q k=>⟨?_,?_⟩)⟩
  ·simp only [go_sem,eR,Int.ofNat_lt,h2]
  ·simp only [go_sem,fk,Int.ofNat_lt,h2]
 |m + 1,i,h=>by
  have bq:i < t.2.2.length:=by omega
  have hf6:=hp.ir.f;have hb:=hp.bd _ (List.getElem_mem bq);obtain⟨c,p,hc,he⟩:=US (fn:=t.2.2[i].1) (P:=t.2.2[i].2.1) (Is:=t.2.2[i].2.2.1) (Rs:=t.2.2[i].2.2.2.1) hp.ir fj hl hb.1 hb.2.1 hb.2.2.1;by_cases h0:c=0
  ·subst h0
   obtain⟨rfl,Fl⟩:=hc rfl;have s1:∀{q k r},(∃ bl,dB q t.1 t.2.1 t.2.2 ns t.2.2[i].1 [] 0 0 t.2.2[i].2.2.2.2=some (bl,0,0,()))→eR q k ns 0 0 t.1 t.2.1 t.2.2 ((i + 1:Nat):Int)=r→eR q (k + 1) ns 0 0 t.1 t.2.1 t.2.2 (i:Int)=r:=fun⟨bl,a1⟩ a2=>by simp only [go_sem,eR,Int.ofNat_lt,bq,cV bq,a1,ag (show i < _ by omega),a2]
   have s2:∀{q k r},(∃ bm,bF q ns t.1 t.2.1 t.2.2 t.2.2[i].1 t.2.2[i].2.1 t.2.2[i].2.2.1 t.2.2[i].2.2.2.1 t.2.2[i].2.2.2.2 ([]:AS) t.2.2[i].2.2.2.2=some ((0,0),bm,()))→fk q k t.2.2 ns t.2.2 (t.2.2.length:Int) t.1 t.2.1 0 0 ((i + 1:Nat):Int)=r→
     fk q (k + 1) t.2.2 ns t.2.2 (t.2.2.length:Int) t.1 t.2.1 0 0 (i:Int)=r:=fun⟨bm,a1⟩ a2=>by
    simp only [go_sem,fk,Int.ofNat_lt,bq,cV bq,a1,ag (show i < _ by omega),a2]
   rcases K3 hp fj hl m (i + 1) (by omega) with ⟨c,p,g,hh⟩ |⟨g,hh⟩
   ·exact .inl ⟨c,p,g,cm.succ ((he.tw.and hh).mono fun q k e=>⟨s1 e.1.1 e.2.1,s2 e.1.2 e.2.2⟩)⟩
   ·refine .inr ⟨fun x hx=>?_,cm.succ ((he.tw.and hh).mono fun q k e=>⟨s1 e.1.1 e.2.1,s2 e.1.2 e.2.2⟩)⟩
    rw [List.drop_eq_getElem_cons bq] at hx;rcases List.mem_cons.1 hx with rfl | hx
    ·exact Fl
    ·exact g x hx
  ·refine .inl ⟨c,p,h0,cm.succ (he.tw.mono fun q k e=>?_)⟩
   obtain⟨⟨bl,w1⟩,bm,w2⟩:=e;refine⟨?_,?_⟩
   ·simp only [go_sem,eR,Int.ofNat_lt,bq,cV bq,w1,bne_iff_ne.2 h0]
   ·simp only [go_sem,fk,Int.ofNat_lt,bq,cV bq,w2,bne_iff_ne.2 h0]
theorem Tq(hT:VZ ns):(∃(c p:Int),c≠0∧Ev fun k=>iM k ns=some (([],[],[]),(c,p),())∧∀ ck,ik k ck=some (ns,(0,0),())→gG k ck=some (([],[],[]),(c,p),()))∨
  ∃(t:xX) (D:AS),P1 ns t D∧(∀ x∈t.2.2,F0 ns t x.1 x.2.2.2.2.toNat)∧Ev fun k=>iM k ns=some (t,(0,0),())∧∀ ck,ik k ck=some (ns,(0,0),())→gG k ck=some (t,(0,0),()):=by
 obtain⟨fj,jD,ns0,l,hns,hk,hws⟩:=hT;have hks:ju ns l≤ns.length:=by rw [pp (by rw [hns];exact List.prefix_append _ _) hk.v,hns];simp;omega
 have hk:iK D5 ns l:=hk.up (by rw [hns];exact List.prefix_append _ _)
 have Z6:ns[ns.length - 1]? = some (1,0,0,[],l):=by rw [hns];simp
 have y0:l.length≤5000:=(fj _ _ Z6).nm.2;have vj:0 < ns.length:=by rw [hns];simp
 have Fo:bK ns (dP ((ns.length:Int) - 1))=some (1,0,0,[],l):=by
  rw [eK (by omega) (by omega),show(ns.length:Int) - 1=((ns.length - 1:Nat):Int) by omega]
  exact bh Z6
 have h0:P1 ns ([],[],[]) []:=⟨⟨by simp,by simp,by simp,by simp⟩,by simp,by simp,by simp,fun s=>by simp [p7,pd]⟩
 rcases Ni fj (by omega) hk y0 hks l.length 0 ([],[],[]) [] rfl h0 (by intro f hf;simp at hf) with ⟨c,p,hc,he⟩ |⟨t1,D1,hp1,hf1,J4,he1⟩
 ·refine .inl ⟨c,p,hc,he.jI.mono fun k e=>?_⟩
  have w1:de k k ns l 0 0 [] [] [] 0=_:=e.1;have w2:dF k k ns l (l.length:Int) [] [] [] 0 0 [] 0=_:=e.2;refine⟨by simp only [go_sem,iM,Fo,w2],fun ck hp=>by simp only [go_sem,gG,hp,Fo,w1]⟩
 ·have he1:=he1.jI
  rcases SR fj (by omega) hk y0 l.length 0 0 t1 rfl hp1 (by simp only [List.length_nil] at J4;omega) (fun n x _ hx=>hf1 x (List.mem_of_getElem? hx)) with ⟨c,p,hc,he⟩ |⟨F2,FQ,he2⟩
  ·refine .inl ⟨c,p,hc,(he1.and he.jI).mono fun k e=>?_⟩
   obtain⟨⟨w1,w2⟩,w3,w4⟩:=e;have w1:de k k ns l 0 0 [] [] [] 0=_:=w1;have w2:dF k k ns l (l.length:Int) [] [] [] 0 0 [] 0=_:=w2;have w3:cR k k ns l 0 0 t1.1 t1.2.1 t1.2.2 0 0=_:=w3;have w4:dj k k ns l (l.length:Int) t1.2.2 0 0 D1 0 0=_:=w4;refine⟨by simp only [go_sem,iM,Fo,w2,w4],fun ck hp=>by simp only [go_sem,gG,hp,Fo,w1,w3]⟩
  ·have he2:=he2.jI
   have hf6:=FQ.ir.f;have hM:=abc (t1.1,t1.2.1,F2) (by omega)
   have hS:=PK (t1.1,t1.2.1,F2) [109,97,105,110] (by omega)
   by_cases WG:0≤nj (fun x:ao×Int×XS×XS×Int=>x.1 == ([109,97,105,110]:ao)) F2 0∧∀ n x,nj (fun x:ao×Int×XS×XS×Int=>x.1 == ([109,97,105,110]:ao)) F2 0=(n:Nat)→F2[n]? = some x→x.2.1=0
   ·obtain⟨n,x,n1,n2,_⟩:=G8 WG.1
    have hz:=WG.2 n x n1 n2;have b1:decide ((n:Int) < 0)=false:=decide_eq_false (by omega)
    have b2:decide (x.2.1 > 0)=false:=by rw [hz];rfl
    have b3:(x.2.1 != 0)=false:=by rw [hz];rfl
    rcases K3 FQ fj (by omega) F2.length 0 rfl with ⟨c,p,hc,he⟩ |⟨Fl,he⟩
    ·refine .inl ⟨c,p,hc,(he1.and (he2.and ((hM.and hS).and he.jI))).mono fun k e=>?_⟩
     obtain⟨⟨w1,w2⟩,⟨w3,w4⟩,⟨w5,w6⟩,w7,w8⟩:=e;have w1:de k k ns l 0 0 [] [] [] 0=_:=w1;have w2:dF k k ns l (l.length:Int) [] [] [] 0 0 [] 0=_:=w2;have w3:cR k k ns l 0 0 t1.1 t1.2.1 t1.2.2 0 0=_:=w3;have w4:dj k k ns l (l.length:Int) t1.2.2 0 0 D1 0 0=_:=w4;have w7:eR k k ns 0 0 t1.1 t1.2.1 F2 0=_:=w7;have w8:fk k k F2 ns F2 (F2.length:Int) t1.1 t1.2.1 0 0 0=_:=w8;refine⟨?_,fun ck hp=>?_⟩
     ·simp only [go_sem,iM,Fo,w2,w4,w5,aa,n1,b1,bh n2,Int.toNat_natCast,b2,w8]
     ·simp only [go_sem,gG,hp,Fo,w1,w3,w6,aa,n1,b1,bh n2,Int.toNat_natCast,b3,w7]
    ·refine .inr ⟨(t1.1,t1.2.1,F2),D1,FQ,fun y hy=>Fl y (by simpa using hy),(he1.and (he2.and ((hM.and hS).and he.jI))).mono fun k e=>?_⟩
     obtain⟨⟨w1,w2⟩,⟨w3,w4⟩,⟨w5,w6⟩,w7,w8⟩:=e;have w1:de k k ns l 0 0 [] [] [] 0=_:=w1;have w2:dF k k ns l (l.length:Int) [] [] [] 0 0 [] 0=_:=w2;have w3:cR k k ns l 0 0 t1.1 t1.2.1 t1.2.2 0 0=_:=w3;have w4:dj k k ns l (l.length:Int) t1.2.2 0 0 D1 0 0=_:=w4;have w7:eR k k ns 0 0 t1.1 t1.2.1 F2 0=_:=w7;have w8:fk k k F2 ns F2 (F2.length:Int) t1.1 t1.2.1 0 0 0=_:=w8;refine⟨?_,fun ck hp=>?_⟩
     ·simp only [go_sem,iM,Fo,w2,w4,w5,aa,n1,b1,bh n2,Int.toNat_natCast,b2,w8]
     ·simp only [go_sem,gG,hp,Fo,w1,w3,w6,aa,n1,b1,bh n2,Int.toNat_natCast,b3,w7]
   ·refine .inl ⟨13,0,by decide,(he1.and (he2.and (hM.and hS))).mono fun k e=>?_⟩
    obtain⟨⟨w1,w2⟩,⟨w3,w4⟩,w5,w6⟩:=e;have w1:de k k ns l 0 0 [] [] [] 0=_:=w1;have w2:dF k k ns l (l.length:Int) [] [] [] 0 0 [] 0=_:=w2;have w3:cR k k ns l 0 0 t1.1 t1.2.1 t1.2.2 0 0=_:=w3;have w4:dj k k ns l (l.length:Int) t1.2.2 0 0 D1 0 0=_:=w4;by_cases JF:0≤nj (fun x:ao×Int×XS×XS×Int=>x.1 == ([109,97,105,110]:ao)) F2 0
    ·obtain⟨n,x,n1,n2,_⟩:=G8 JF
     have hx:=FQ.ir.i x (List.mem_of_getElem? n2);have hz:x.2.1≠0:=fun hz=>WG ⟨JF,fun n' x' a1 a2=>by
      have:n' = n:=by omega
      subst this;rw [n2] at a2;cases a2;exact hz⟩
     have b1:decide ((n:Int) < 0)=false:=decide_eq_false (by omega)
     have b2:decide (x.2.1 > 0)=true:=decide_eq_true (by omega)
     have b3:(x.2.1 != 0)=true:=bne_iff_ne.2 hz;refine⟨?_,fun ck hp=>?_⟩
     ·simp only [go_sem,iM,Fo,w2,w4,w5,aa,n1,b1,bh n2,Int.toNat_natCast,b2]
     ·simp only [go_sem,gG,hp,Fo,w1,w3,w6,aa,n1,b1,bh n2,Int.toNat_natCast,b3]
    ·have n1:=(Up JF).1
     refine⟨?_,fun ck hp=>?_⟩
     ·simp only [go_sem,iM,Fo,w2,w4,w5,aa,n1,show decide ((-1:Int) < 0)=true from rfl]
     ·simp only [go_sem,gG,hp,Fo,w1,w3,w6,aa,n1,show decide ((-1:Int) < 0)=true from rfl]
end
end Go.Fx.R5
namespace Go.Fx.R5
open Go Go.Fx
abbrev ES:=XE
abbrev SPS:=XQ
structure FG(nf M:Nat)(O:XI)(H:XB)(E:ES):Prop where
 oh:H.length=O.length
 ow:∀ x∈O,0≤x∧x < (nf:Int)
 ed:∀ e∈E,0≤e.1∧e.1 < (O.length:Int)∧(e.2.2.1=5→0≤e.2.2.2.2∧e.2.2.2.2 < (M:Int))
structure Qh(nf M:Nat)(O:XI)(E:ES)(w:Nat)(O':XI)(H':XB)(E':ES):Prop where
 fg:FG nf M O' H' E'
 lo:O.length≤O'.length
 hi:O'.length≤O.length + 5 * w
 eh:E'.length≤E.length + 5 * w
section
variable {nf M:Nat} {O:XI} {H:XB} {E:ES}
theorem FG.nV(h:FG nf M O H E){fn:Int}(h0:0≤fn)(h1:fn < nf)(b:Bool):FG nf M (O ++ [fn]) (H ++ [b]) E:=
 ⟨by simp [h.oh],fun x hx=>by
  rcases List.mem_append.1 hx with hx | hx
  ·exact h.ow x hx
  ·rw [List.mem_singleton.1 hx];exact⟨h0,h1⟩,fun e he=>by
  have:=h.ed e he;exact⟨this.1,by simp;omega,this.2.2⟩⟩
theorem FG.xZ(h:FG nf M O H E){f t k n a:Int}(h0:0≤f)(h1:f < O.length)(h5:k=5→0≤a∧a < (M:Int)):FG nf M O H (E ++ [(f,t,k,n,a)]):=
 ⟨h.oh,h.ow,fun e he=>by
  rcases List.mem_append.1 he with he | he
  ·exact h.ed e he
  ·rw [List.mem_singleton.1 he];exact⟨h0,h1,h5⟩⟩
theorem Qh.refl(h:FG nf M O H E):Qh nf M O E 0 O H E:=⟨h,by omega,by omega,by omega⟩
theorem yp{α:Type}{l:List α}{x:α}(h:l.length≤2000000):lM l [x]=some (l ++ [x]):=qJ (by simp;omega)
theorem pG(h:FG nf M O H E)(hl:O.length≤2000000)(fn:Int)(b:Bool):dh fn O H b=some ((O.length:Int),O ++ [fn],H ++ [b],()):=by
 simp only [go_sem,dh,yp hl,yp (show H.length≤2000000 by rw [h.oh];exact hl)]
 rw [List.length_append,List.length_singleton,eK (by omega) (by omega)]
 simp
theorem rT(hl:E.length≤2000000)(f t k n a:Int):dr E f t k n a=some (E ++ [(f,t,k,n,a)],()):=by simp only [go_sem,dr,yp hl]
theorem qA(h:FG nf M O H E)(hl:O.length≤2000000)(fn:Int)(b:Bool):fW fn O H b=some ((O.length:Int),O ++ [fn],H ++ [b],()):=pG h hl fn b
theorem tn(hl:E.length≤2000000)(f t k n a:Int):fe E f t k n a=some (E ++ [(f,t,k,n,a)],()):=rT hl f t k n a
end
section
variable {nf M:Nat} {ns:List eg} {A:AS} {G:XS} {Fs:FS}
def CFI(nf M:Nat)(ns:List eg)(A:AS)(G:XS)(Fs:FS)(i:Nat):Prop:=Ev fun k=>∀(fn:Int) (O:XI) (H:XB) (E:ES) (En:XI) (la:SPS) (ki pl:XI) (p y z:Int),FG nf M O H E→0≤fn→fn < nf→0≤p→p < O.length→O.length + 5 * wt ns (i:Int)≤1000000→E.length + 5 * wt ns (i:Int)≤1000000→
 ∃ O' H' E',io k fn O En H E la ns A G Fs ki pl [] [] [] [] [] [] [] (i:Int) p y z=some (O',H',E',())∧Qh nf M O E (wt ns (i:Int)) O' H' E'
theorem YB(fj:jh ns):∀ n i,i < n→i < ns.length→(∀ x,ns[i]? = some x→sw x.1=true)→CFI nf M ns A G Fs i:=by
 intro n;induction n with
 |zero=>intro i h;omega
 |succ n ih=>
  intro i hi hl hcd;have hx:ns[i]? = some ns[i]:=by simp [hl]
  have hn:=fj i _ hx;have hcd:=hcd _ hx;have hw:=Mi hx hn.cA;have ze:bK ns (i:Int)=some ns[i]:=bh hx;generalize ns[i]=x at *;have Ii:∀ j∈x.2.2.2.2,sw (kd ns j)=true→CFI nf M ns A G Fs j.toNat∧((j.toNat:Nat):Int)=j:=fun j hj hc=>by
   have hj2:=hn.cA j hj;obtain⟨y,e1,e2,e3⟩:=uf (ns:=ns) hj2.1 (by omega)
   exact⟨ih j.toNat (by omega) (by omega) fun y' Eo=>by rw [e1] at Eo;cases Eo;rw [←e2];exact hc,Int.toNat_of_nonneg hj2.1⟩
  have dm:=hn.shp;by_cases h33:x.1=33
  ·rw [h33] at dm
   obtain⟨a,hK⟩:∃ a,x.2.2.2.2 = [a]:=by
    rcases h:x.2.2.2.2 with _ |⟨a,_ |⟨b,r⟩⟩
    ·rw [h] at dm;simp [bZ] at dm
    ·exact⟨a,rfl⟩
    ·rw [h] at dm;simp [bZ] at dm
   rw [hK] at dm;obtain⟨ca,ea⟩:=Ii a (by rw [hK];simp) (by simpa [bZ] using dm)
   unfold CFI at ca;rw [ea] at ca;rw [hK,oC] at hw;refine Ev.succ (ca.mono fun k e fn O H E En la ki pl p y z hg f0 f1 p0 p1 hO hE=>?_);obtain⟨O',H',E',w1,w2⟩:=e fn O H E En la ki pl p z y hg f0 f1 p0 p1 (by omega) (by omega)
   refine⟨O',H',E',?_,⟨w2.fg,w2.lo,by have:=w2.hi;omega,by have:=w2.eh;omega⟩⟩
   simp only [go_sem,io,ld,ze,h33,hK,show bK [a] 0=some a from rfl,w1]
  by_cases vX:x.1=31∨x.1=32
  ·obtain⟨a,b,hK⟩:∃ a b,x.2.2.2.2 = [a,b]:=by
    rcases h:x.2.2.2.2 with _ |⟨a,_ |⟨b,_ |⟨c,r⟩⟩⟩
    ·rcases vX with vX | vX<;>(rw [h,vX] at dm;simp [bZ] at dm)
    ·rcases vX with vX | vX<;>(rw [h,vX] at dm;simp [bZ] at dm)
    ·exact⟨a,b,rfl⟩
    ·rcases vX with vX | vX<;>(rw [h,vX] at dm;simp [bZ] at dm)
   have hab:sw (kd ns a)=true∧sw (kd ns b)=true:=by rcases vX with vX | vX<;>(rw [hK,vX] at dm;simpa [bZ] using dm)
   obtain⟨ca,ea⟩:=Ii a (by rw [hK];simp) hab.1
   obtain⟨cb,eb⟩:=Ii b (by rw [hK];simp) hab.2
   unfold CFI at ca cb;rw [ea] at ca;rw [eb] at cb;rw [hK,xd] at hw;refine Ev.succ ((ca.and cb).mono fun k e fn O H E En la ki pl p y z hg f0 f1 p0 p1 hO hE=>?_);obtain⟨ca,cb⟩:=e;have hp:=pG hg (show O.length≤2000000 by omega) fn false
   rcases vX with vX | vX
   ·obtain⟨O1,H1,E1,w1,w2⟩:=ca fn (O ++ [fn]) (H ++ [false]) E En la ki pl p (O.length:Int) z (hg.nV f0 f1 _) f0 f1 p0 (by simp;omega) (by simp;omega) (by omega)
    have l1:=w2.lo;have l2:=w2.hi;have l3:=w2.eh;simp only [List.length_append,List.length_cons,List.length_nil] at l1 l2;obtain⟨O2,H2,E2,w3,w4⟩:=cb fn O1 H1 E1 En la ki pl (O.length:Int) y z w2.fg f0 f1 (by omega) (by omega) (by omega) (by omega)
    have k1:=w4.lo;have k2:=w4.hi;have k3:=w4.eh;refine⟨O2,H2,E2,?_,⟨w4.fg,by omega,by omega,by omega⟩⟩
    simp only [go_sem,io,ld,ze,vX,show((31:Int) == 33)=false from rfl,hK,hp,show bK [a,b] 0=some a from rfl,w1,show bK [a,b] 1=some b from rfl,w3]
   ·obtain⟨O1,H1,E1,w1,w2⟩:=ca fn (O ++ [fn]) (H ++ [false]) E En la ki pl p y (O.length:Int) (hg.nV f0 f1 _) f0 f1 p0 (by simp;omega) (by simp;omega) (by omega)
    have l1:=w2.lo;have l2:=w2.hi;have l3:=w2.eh;simp only [List.length_append,List.length_cons,List.length_nil] at l1 l2;obtain⟨O2,H2,E2,w3,w4⟩:=cb fn O1 H1 E1 En la ki pl (O.length:Int) y z w2.fg f0 f1 (by omega) (by omega) (by omega) (by omega)
    have k1:=w4.lo;have k2:=w4.hi;have k3:=w4.eh;refine⟨O2,H2,E2,?_,⟨w4.fg,by omega,by omega,by omega⟩⟩
    simp only [go_sem,io,ld,ze,vX,show((32:Int) == 33)=false from rfl,show((32:Int) == 31)=false from rfl,hK,hp,show bK [a,b] 0=some a from rfl,w1,show bK [a,b] 1=some b from rfl,w3]
  ·simp only [not_or] at vX
   refine Ev.succ (Ev.of fun k fn O H E En la ki pl p y z hg f0 f1 p0 p1 hO hE=>?_);refine⟨O,H,E ++ [(p,y,3,(i:Int),1)] ++ [(p,z,3,(i:Int),0)],?_,⟨(hg.xZ p0 p1 (fun h=>absurd h (by decide))).xZ p0 p1 (fun h=>absurd h (by decide)),by omega,by omega,by simp;omega⟩⟩
   simp only [go_sem,io,ld,ze,beq_eq_false_iff_ne.2 h33,beq_eq_false_iff_ne.2 vX.1,beq_eq_false_iff_ne.2 vX.2,rT (show E.length≤2000000 by omega),rT (show(E ++ [(p,y,3,(i:Int),1)]).length≤2000000 by simp;omega)]
end
section
variable {nf M:Nat} {ns:List eg} {A:AS} {G:XS} {Fs:FS}
def CFS(nf M:Nat)(ns:List eg)(A:AS)(G:XS)(Fs:FS)(i:Nat):Prop:=Ev fun k=>∀(fn:Int) (O:XI) (H:XB) (E:ES) (En:XI) (fr to:XI) (p y z:Int),FG nf M O H E→0≤fn→fn < nf→0≤p→p < O.length→O.length + 5 * wt ns (i:Int)≤1000000→E.length + 5 * wt ns (i:Int)≤1000000→
 ∃ O' H' E',jF k A G Fs ns fn O En H E fr to (i:Int) p y z=some (O',H',E',())∧Qh nf M O E (wt ns (i:Int)) O' H' E'
theorem YC(fj:jh ns):∀ n i,i < n→i < ns.length→(∀ x,ns[i]? = some x→sw x.1=true)→CFS nf M ns A G Fs i:=by
 intro n;induction n with
 |zero=>intro i h;omega
 |succ n ih=>
  intro i hi hl hcd;have hx:ns[i]? = some ns[i]:=by simp [hl]
  have hn:=fj i _ hx;have hcd:=hcd _ hx;have hw:=Mi hx hn.cA;have ze:bK ns (i:Int)=some ns[i]:=bh hx;generalize ns[i]=x at *;have Ii:∀ j∈x.2.2.2.2,sw (kd ns j)=true→CFS nf M ns A G Fs j.toNat∧((j.toNat:Nat):Int)=j:=fun j hj hc=>by
   have hj2:=hn.cA j hj;obtain⟨y,e1,e2,e3⟩:=uf (ns:=ns) hj2.1 (by omega)
   exact⟨ih j.toNat (by omega) (by omega) fun y' Eo=>by rw [e1] at Eo;cases Eo;rw [←e2];exact hc,Int.toNat_of_nonneg hj2.1⟩
  have dm:=hn.shp;by_cases h33:x.1=33
  ·rw [h33] at dm
   obtain⟨a,hK⟩:∃ a,x.2.2.2.2 = [a]:=by
    rcases h:x.2.2.2.2 with _ |⟨a,_ |⟨b,r⟩⟩
    ·rw [h] at dm;simp [bZ] at dm
    ·exact⟨a,rfl⟩
    ·rw [h] at dm;simp [bZ] at dm
   rw [hK] at dm;obtain⟨ca,ea⟩:=Ii a (by rw [hK];simp) (by simpa [bZ] using dm)
   unfold CFS at ca;rw [ea] at ca;rw [hK,oC] at hw;refine Ev.succ (ca.mono fun k e fn O H E En fr to p y z hg f0 f1 p0 p1 hO hE=>?_);obtain⟨O',H',E',w1,w2⟩:=e fn O H E En fr to p z y hg f0 f1 p0 p1 (by omega) (by omega)
   refine⟨O',H',E',?_,⟨w2.fg,w2.lo,by have:=w2.hi;omega,by have:=w2.eh;omega⟩⟩
   simp only [go_sem,jF,nq,ze,h33,hK,show bK [a] 0=some a from rfl,w1]
  by_cases vX:x.1=31∨x.1=32
  ·obtain⟨a,b,hK⟩:∃ a b,x.2.2.2.2 = [a,b]:=by
    rcases h:x.2.2.2.2 with _ |⟨a,_ |⟨b,_ |⟨c,r⟩⟩⟩
    ·rcases vX with vX | vX<;>(rw [h,vX] at dm;simp [bZ] at dm)
    ·rcases vX with vX | vX<;>(rw [h,vX] at dm;simp [bZ] at dm)
    ·exact⟨a,b,rfl⟩
    ·rcases vX with vX | vX<;>(rw [h,vX] at dm;simp [bZ] at dm)
   have hab:sw (kd ns a)=true∧sw (kd ns b)=true:=by rcases vX with vX | vX<;>(rw [hK,vX] at dm;simpa [bZ] using dm)
   obtain⟨ca,ea⟩:=Ii a (by rw [hK];simp) hab.1
   obtain⟨cb,eb⟩:=Ii b (by rw [hK];simp) hab.2
   unfold CFS at ca cb;rw [ea] at ca;rw [eb] at cb;rw [hK,xd] at hw;refine Ev.succ ((ca.and cb).mono fun k e fn O H E En fr to p y z hg f0 f1 p0 p1 hO hE=>?_);obtain⟨ca,cb⟩:=e;have hp:=qA hg (show O.length≤2000000 by omega) fn false
   rcases vX with vX | vX
   ·obtain⟨O1,H1,E1,w1,w2⟩:=ca fn (O ++ [fn]) (H ++ [false]) E En fr to p (O.length:Int) z (hg.nV f0 f1 _) f0 f1 p0 (by simp;omega) (by simp;omega) (by omega)
    have l1:=w2.lo;have l2:=w2.hi;have l3:=w2.eh;simp only [List.length_append,List.length_cons,List.length_nil] at l1 l2;obtain⟨O2,H2,E2,w3,w4⟩:=cb fn O1 H1 E1 En fr to (O.length:Int) y z w2.fg f0 f1 (by omega) (by omega) (by omega) (by omega)
    have k1:=w4.lo;have k2:=w4.hi;have k3:=w4.eh;refine⟨O2,H2,E2,?_,⟨w4.fg,by omega,by omega,by omega⟩⟩
    simp only [go_sem,jF,nq,ze,vX,show((31:Int) == 33)=false from rfl,hK,hp,show bK [a,b] 0=some a from rfl,w1,show bK [a,b] 1=some b from rfl,w3]
   ·obtain⟨O1,H1,E1,w1,w2⟩:=ca fn (O ++ [fn]) (H ++ [false]) E En fr to p y (O.length:Int) (hg.nV f0 f1 _) f0 f1 p0 (by simp;omega) (by simp;omega) (by omega)
    have l1:=w2.lo;have l2:=w2.hi;have l3:=w2.eh;simp only [List.length_append,List.length_cons,List.length_nil] at l1 l2;obtain⟨O2,H2,E2,w3,w4⟩:=cb fn O1 H1 E1 En fr to (O.length:Int) y z w2.fg f0 f1 (by omega) (by omega) (by omega) (by omega)
    have k1:=w4.lo;have k2:=w4.hi;have k3:=w4.eh;refine⟨O2,H2,E2,?_,⟨w4.fg,by omega,by omega,by omega⟩⟩
    simp only [go_sem,jF,nq,ze,vX,show((32:Int) == 33)=false from rfl,show((32:Int) == 31)=false from rfl,hK,hp,show bK [a,b] 0=some a from rfl,w1,show bK [a,b] 1=some b from rfl,w3]
  ·simp only [not_or] at vX
   refine Ev.succ (Ev.of fun k fn O H E En fr to p y z hg f0 f1 p0 p1 hO hE=>?_);refine⟨O,H,E ++ [(p,y,3,(i:Int),1)] ++ [(p,z,3,(i:Int),0)],?_,⟨(hg.xZ p0 p1 (fun h=>absurd h (by decide))).xZ p0 p1 (fun h=>absurd h (by decide)),by omega,by omega,by simp;omega⟩⟩
   simp only [go_sem,jF,nq,ze,beq_eq_false_iff_ne.2 h33,beq_eq_false_iff_ne.2 vX.1,beq_eq_false_iff_ne.2 vX.2,tn (show E.length≤2000000 by omega),tn (show(E ++ [(p,y,3,(i:Int),1)]).length≤2000000 by simp;omega)]
end
end Go.Fx.R5
namespace Go.Fx.R5
open Go Go.Fx
def Sr(ns:List eg)(M:Nat)(pl:XI):Prop:=∀(j:Nat) (x:eg),ns[j]? = some x→x.1=23→∃ v,pl[j]? = some v∧0≤v∧v < (M:Int)
structure ZK(nf M:Nat)(O:XI)(E:ES)(w:Nat)(O':XI)(H':XB)(E':ES):Prop where
 fg:FG nf M O' H' E'
 lo:O.length≤O'.length
 hi:O'.length + 1≤O.length + 5 * w
 eh:E'.length + 1≤E.length + 5 * w
theorem Do(ns:List eg)(a:Int)(l:XI):ju ns (a :: l)=wt ns a + ju ns l:=by simp [ju]
section
variable {nf M:Nat} {ns:List eg} {A:AS} {G:XS} {Fs:FS}
theorem Q0(k:Nat):js (k + 1)=mA (js k) (gk k) k:=rfl
theorem sU(k:Nat):gk (k + 1)=cO (js k) (gk k) k:=rfl
def SFI(nf M:Nat)(ns:List eg)(A:AS)(G:XS)(Fs:FS)(i:Nat):Prop:=Ev fun k=>∀(ki pl:XI),Sr ns M pl→∀(fn:Int) (O:XI) (H:XB) (E:ES) (En:XI) (la:SPS) (p q:Int),FG nf M O H E→0≤fn→fn < nf→0≤p→p < O.length→la.length=ns.length→O.length + 5 * wt ns (i:Int)≤1000000→E.length + 5 * wt ns (i:Int)≤1000000→
 ∃ O' H' E' la',gk k fn O En H E la ns A G Fs ki pl [] [] [] [] [] [] [] (i:Int) p q=some (O',H',E',la',())∧ZK nf M O E (wt ns (i:Int)) O' H' E'∧la'.length=ns.length
def BFI(nf M:Nat)(ns:List eg)(A:AS)(G:XS)(Fs:FS)(i:Nat):Prop:=Ev fun k=>∀(ki pl:XI),Sr ns M pl→∀(fn:Int) (O:XI) (H:XB) (E:ES) (En:XI) (la:SPS) (p q:Int),FG nf M O H E→0≤fn→fn < nf→0≤p→p < O.length→la.length=ns.length→O.length + 5 * wt ns (i:Int)≤1000000→E.length + 5 * wt ns (i:Int)≤1000000→
 ∃ O' H' E' la',js k fn O En H E la ns A G Fs ki pl [] [] [] [] [] [] [] (i:Int) p q=some (O',H',E',la',())∧Qh nf M O E (wt ns (i:Int)) O' H' E'∧la'.length=ns.length
theorem Qo{K:XI}(y0:K.length≤5000)(vj:∀ j∈K,1≤wt ns j)(hK:∀ j∈K,((j.toNat:Nat):Int)=j∧SFI nf M ns A G Fs j.toNat):∀ m s,m + s=K.length→cm fun qq k=>∀(ki pl:XI),Sr ns M pl→∀(fn:Int) (O:XI) (H:XB) (E:ES) (En:XI) (la:SPS) (p q:Int),FG nf M O H E→0≤fn→fn < nf→(s < K.length→0≤p∧p < O.length)→la.length=ns.length→
  O.length + 5 * ju ns (K.drop s)≤1000000→E.length + 5 * ju ns (K.drop s)≤1000000→
  ∃ O' H' E' la',gQ (js qq) (gk qq) qq k ns A G Fs ki pl [] [] [] [] [] [] [] fn En q K K (K.length:Int) O H E la p (s:Int)=some (O',H',E',la',())∧Qh nf M O E (ju ns (K.drop s)) O' H' E'∧la'.length=ns.length
 |0,s,h=>by
  have h2:¬ s < K.length:=by omega
  refine cm.succ (cm.of fun qq k ki pl u7 fn O H E En la p q hg f0 f1 hp J8 hO hE=>⟨O,H,E,la,?_,⟨hg,by omega,by omega,by omega⟩,J8⟩)
  simp only [go_sem,gQ,Int.ofNat_lt,h2]
 |m + 1,s,h=>by
  have bq:s < K.length:=by omega
  have hd:K.drop s=K[s] :: K.drop (s + 1):=List.drop_eq_getElem_cons bq;obtain⟨ej,hj⟩:=hK _ (List.getElem_mem bq);have hks:ju ns (K.drop s)=wt ns K[s] + ju ns (K.drop (s + 1)):=by rw [hd,Do]
  unfold SFI at hj;rw [ej] at hj;refine cm.succ ((hj.tw.and (Qo y0 vj hK m (s + 1) (by omega))).mono fun qq k e ki pl u7 fn O H E En la p q hg f0 f1 hp J8 hO hE=>?_)
  obtain⟨e1,e2⟩:=e;obtain⟨p0,p1⟩:=hp bq;have hw1:dP ((K.length:Int) - 1)=((K.length - 1:Nat):Int):=by rw [eK (by omega) (by omega)];omega
  rw [hks] at hO hE;by_cases hl:s < K.length - 1
  ·have hpt:=pG hg (show O.length≤2000000 by omega) fn false
   have Ap:=hg.nV f0 f1 false;by_cases YO:(O ++ [fn]).length + 5 * wt ns K[s]≤1000000
   ·obtain⟨O1,H1,E1,la1,w1,w2,w3⟩:=e1 ki pl u7 fn (O ++ [fn]) (H ++ [false]) E En la p (O.length:Int) Ap f0 f1 p0 (by simp;omega) J8 YO (by omega)
    have l1:=w2.lo;have l2:=w2.hi;have l3:=w2.eh;simp only [List.length_append,List.length_cons,List.length_nil] at l1 l2;obtain⟨O2,H2,E2,la2,w4,w5,w6⟩:=e2 ki pl u7 fn O1 H1 E1 En la1 (O.length:Int) q w2.fg f0 f1 (fun _=>⟨by omega,by omega⟩) w3 (by omega) (by omega)
    have k1:=w5.lo;have k2:=w5.hi;have k3:=w5.eh;refine⟨O2,H2,E2,la2,?_,⟨w5.fg,by omega,by rw [hks];omega,by rw [hks];omega⟩,w6⟩
    simp only [go_sem,gQ,aa,Int.ofNat_lt,bq,cV bq,hw1,hl,hpt,w1,ag (show s < _ by omega),w4]
   ·exfalso
    simp only [List.length_append,List.length_cons,List.length_nil] at YO;have Lg:s + 1 < K.length:=by omega
    have hd2:K.drop (s + 1)=K[s + 1] :: K.drop (s + 1 + 1):=List.drop_eq_getElem_cons Lg;rw [hd2,Do] at hO;have:=vj K[s + 1] (List.getElem_mem Lg);omega
  ·obtain⟨O1,H1,E1,la1,w1,w2,w3⟩:=e1 ki pl u7 fn O H E En la p q hg f0 f1 p0 p1 J8 (by omega) (by omega)
   have l1:=w2.lo;have l2:=w2.hi;have l3:=w2.eh;obtain⟨O2,H2,E2,la2,w4,w5,w6⟩:=e2 ki pl u7 fn O1 H1 E1 En la1 q q w2.fg f0 f1 (fun hh=>by omega) w3 (by omega) (by omega)
   have k1:=w5.lo;have k2:=w5.hi;have k3:=w5.eh;refine⟨O2,H2,E2,la2,?_,⟨w5.fg,by omega,by rw [hks];omega,by rw [hks];omega⟩,w6⟩
   simp only [go_sem,gQ,aa,Int.ofNat_lt,bq,cV bq,hw1,hl,w1,ag (show s < _ by omega),w4]
theorem aaB{i:Nat}{x:eg}(hx:ns[i]? = some x)(hn:nK ns i x)(hw:wt ns (i:Int)=1 + ju ns x.2.2.2.2)(vj:∀ j∈x.2.2.2.2,1≤wt ns j)(hK:∀ j∈x.2.2.2.2,((j.toNat:Nat):Int)=j∧SFI nf M ns A G Fs j.toNat):BFI nf M ns A G Fs i:=by
 refine Ev.succ ((Qo (by have:=hn.nm.2;omega) vj hK x.2.2.2.2.length 0 rfl).jI.mono fun k e ki pl u7 fn O H E En la p q hg f0 f1 p0 p1 J8 hO hE=>?_)
 rw [List.drop_zero] at e;by_cases h0:x.2.2.2.2.length=0
 ·refine⟨O,H,E ++ [(p,q,1,-1,0)],la,?_,⟨hg.xZ p0 p1 (fun h=>absurd h (by decide)),by omega,by omega,by simp;omega⟩,J8⟩
  simp only [go_sem,Q0,mA,bh hx,h0,show(((0:Nat):Int) == 0)=true from rfl,rT (show E.length≤2000000 by omega)]
 ·obtain⟨O',H',E',la',w1,w2,w3⟩:=e ki pl u7 fn O H E En la p q hg f0 f1 (fun _=>⟨p0,p1⟩) J8 (by omega) (by omega)
  refine⟨O',H',E',la',?_,⟨w2.fg,w2.lo,by have:=w2.hi;omega,by have:=w2.eh;omega⟩,w3⟩
  have w1:gQ (js k) (gk k) k k ns A G Fs ki pl [] [] [] [] [] [] [] fn En q x.2.2.2.2 x.2.2.2.2 (x.2.2.2.2.length:Int) O H E la p 0=_:=w1;simp only [go_sem,Q0,mA,bh hx,show((x.2.2.2.2.length:Int) == 0)=false from beq_eq_false_iff_ne.2 (by omega),w1]
theorem abC(fj:jh ns){i:Nat}{x:eg}(hx:ns[i]? = some x)(hn:nK ns i x)(hw:wt ns (i:Int)=1 + ju ns x.2.2.2.2)(IH:∀ j∈x.2.2.2.2,((j.toNat:Nat):Int)=j∧(kd ns j=8→BFI nf M ns A G Fs j.toNat)):SFI nf M ns A G Fs i:=by
 have dm:=hn.shp;have ze:bK ns (i:Int)=some x:=bh hx;have D0:i < ns.length:=(List.getElem?_eq_some_iff.1 hx).1;have MJ:∀(la:SPS) (v:Int×Int×Int×Int),la.length=ns.length→∃ y,bK la (i:Int)=some y∧(la.set i v).length=ns.length:=fun la v J8=>⟨la[i]'(by omega),cV (by omega),by simp [J8]⟩
 have Lr:∀ j∈x.2.2.2.2,sw (kd ns j)=true→((j.toNat:Nat):Int)=j∧CFI nf M ns A G Fs j.toNat:=fun j hj hc=>by
  have hj2:=hn.cA j hj;obtain⟨y,e1,e2,e3⟩:=uf (ns:=ns) hj2.1 (by omega)
  exact⟨Int.toNat_of_nonneg hj2.1,YB fj (j.toNat + 1) j.toNat (by omega) (by omega) fun y' Eo=>by rw [e1] at Eo;cases Eo;rw [←e2];exact hc⟩
 by_cases h14:x.1=14
 ·rw [h14] at dm
  have hb:∃ a b r,x.2.2.2.2=a :: b :: r∧sw (kd ns a)=true∧kd ns b=8∧(r = []∨∃ c,r = [c]∧kd ns c=8):=by
   rcases h:x.2.2.2.2 with _ |⟨a,_ |⟨b,_ |⟨c,_ |⟨d,r⟩⟩⟩⟩
   ·rw [h] at dm;simp [bZ] at dm
   ·rw [h] at dm;simp [bZ] at dm
   ·rw [h] at dm;simp [bZ] at dm;exact⟨a,b,[],rfl,dm.1,dm.2,.inl rfl⟩
   ·rw [h] at dm;simp [bZ] at dm;exact⟨a,b,[c],rfl,dm.1.1,dm.1.2,.inr ⟨c,rfl,dm.2⟩⟩
   ·rw [h] at dm;simp [bZ] at dm
  obtain⟨a,b,r,hK,ha,hb,hr⟩:=hb;obtain⟨ea,ca⟩:=Lr a (by rw [hK];simp) ha
  obtain⟨eb,cb⟩:=IH b (by rw [hK];simp)
  have cb:=cb hb;unfold CFI at ca;unfold BFI at cb;rw [ea] at ca;rw [eb] at cb;rcases hr with rfl |⟨c,rfl,hc8⟩
  ·rw [hK,xd] at hw
   refine Ev.succ ((ca.and cb).mono fun k e ki pl u7 fn O H E En la p q hg f0 f1 p0 p1 J8 hO hE=>?_);obtain⟨ca,cb⟩:=e;have hp:=pG hg (show O.length≤2000000 by omega) fn false
   obtain⟨O1,H1,E1,w1,w2⟩:=ca fn (O ++ [fn]) (H ++ [false]) E En la ki pl p (O.length:Int) q (hg.nV f0 f1 _) f0 f1 p0 (by simp;omega) (by simp;omega) (by omega)
   have l1:=w2.lo;have l2:=w2.hi;have l3:=w2.eh;simp only [List.length_append,List.length_cons,List.length_nil] at l1 l2;obtain⟨O2,H2,E2,la2,w3,w4,w5⟩:=cb ki pl u7 fn O1 H1 E1 En la (O.length:Int) q w2.fg f0 f1 (by omega) (by omega) J8 (by omega) (by omega)
   have k1:=w4.lo;have k2:=w4.hi;have k3:=w4.eh;obtain⟨y,y1,y2⟩:=MJ la2 (p,q,(O.length:Int),q) w5;refine⟨O2,H2,E2,la2.set i (p,q,(O.length:Int),q),?_,⟨w4.fg,by omega,by omega,by omega⟩,y2⟩
   simp only [go_sem,sU,cO,aa,ze,h14,hp,hK,List.length_cons,List.length_nil,show(((0 + 1 + 1:Nat):Int) == 3)=false from rfl,show bK [a,b] 0=some a from rfl,w1,show bK [a,b] 1=some b from rfl,w3,Int.toNat_natCast,y1]
  ·obtain⟨ec,cc⟩:=IH c (by rw [hK];simp)
   have cc:=cc hc8;unfold BFI at cc;rw [ec] at cc;rw [hK,NG] at hw;refine Ev.succ ((ca.and (cb.and cc)).mono fun k e ki pl u7 fn O H E En la p q hg f0 f1 p0 p1 J8 hO hE=>?_);obtain⟨ca,cb,cc⟩:=e;have hp:=pG hg (show O.length≤2000000 by omega) fn false
   have Ap:=hg.nV f0 f1 false;have FQ:=pG Ap (show(O ++ [fn]).length≤2000000 by simp;omega) fn false
   have J6:=Ap.nV f0 f1 false;obtain⟨O1,H1,E1,w1,w2⟩:=ca fn (O ++ [fn] ++ [fn]) (H ++ [false] ++ [false]) E En la ki pl p (O.length:Int) ((O ++ [fn]).length:Int) J6 f0 f1 p0 (by simp;omega) (by simp;omega) (by omega)
   have l1:=w2.lo;have l2:=w2.hi;have l3:=w2.eh;simp only [List.length_append,List.length_cons,List.length_nil] at l1 l2;obtain⟨O2,H2,E2,la2,w3,w4,w5⟩:=cb ki pl u7 fn O1 H1 E1 En la (O.length:Int) q w2.fg f0 f1 (by omega) (by omega) J8 (by omega) (by omega)
   have k1:=w4.lo;have k2:=w4.hi;have k3:=w4.eh;obtain⟨O3,H3,E3,la3,w6,w7,w8⟩:=cc ki pl u7 fn O2 H2 E2 En la2 ((O ++ [fn]).length:Int) q w4.fg f0 f1 (by omega) (by simp;omega) w5 (by omega) (by omega)
   have j1:=w7.lo;have j2:=w7.hi;have j3:=w7.eh;obtain⟨y,y1,y2⟩:=MJ la3 (p,q,(O.length:Int),((O ++ [fn]).length:Int)) w8;refine⟨O3,H3,E3,la3.set i (p,q,(O.length:Int),((O ++ [fn]).length:Int)),?_,⟨w7.fg,by omega,by omega,by omega⟩,y2⟩
   simp only [go_sem,sU,cO,aa,ze,h14,hp,FQ,hK,show((([a,b,c]:XI).length:Int) == 3)=true from rfl,show bK [a,b,c] 0=some a from rfl,w1,show bK [a,b,c] 1=some b from rfl,w3,show bK [a,b,c] 2=some c from rfl,w6,Int.toNat_natCast,y1]
 by_cases h15:x.1=15
 ·rw [h15] at dm
  obtain⟨a,b,hK,ha,hb⟩:∃ a b,x.2.2.2.2 = [a,b]∧sw (kd ns a)=true∧kd ns b=8:=by
   rcases h:x.2.2.2.2 with _ |⟨a,_ |⟨b,_ |⟨c,r⟩⟩⟩
   ·rw [h] at dm;simp [bZ] at dm
   ·rw [h] at dm;simp [bZ] at dm
   ·rw [h] at dm;simp [bZ] at dm;exact⟨a,b,rfl,dm.1,dm.2⟩
   ·rw [h] at dm;simp [bZ] at dm
  obtain⟨ea,ca⟩:=Lr a (by rw [hK];simp) ha
  obtain⟨eb,cb⟩:=IH b (by rw [hK];simp)
  have cb:=cb hb;unfold CFI at ca;unfold BFI at cb;rw [ea] at ca;rw [eb] at cb;rw [hK,xd] at hw;refine Ev.succ ((ca.and cb).mono fun k e ki pl u7 fn O H E En la p q hg f0 f1 p0 p1 J8 hO hE=>?_);obtain⟨ca,cb⟩:=e;have hp:=pG hg (show O.length≤2000000 by omega) fn true
  have Ap:=hg.nV f0 f1 true;have FQ:=pG Ap (show(O ++ [fn]).length≤2000000 by simp;omega) fn false
  have J6:=(Ap.nV f0 f1 false).xZ (f:=p) (t:=(O.length:Int)) (k:=1) (n:=-1) (a:=0) p0 (by simp<;>omega) (fun h=>absurd h (by decide))
  obtain⟨O1,H1,E1,w1,w2⟩:=ca fn (O ++ [fn] ++ [fn]) (H ++ [true] ++ [false]) (E ++ [(p,(O.length:Int),1,-1,0)]) En la ki pl (O.length:Int) ((O ++ [fn]).length:Int) q J6 f0 f1 (by omega) (by simp;omega) (by simp;omega) (by simp;omega)
  have l1:=w2.lo;have l2:=w2.hi;have l3:=w2.eh;simp only [List.length_append,List.length_cons,List.length_nil] at l1 l2 l3;obtain⟨O2,H2,E2,la2,w3,w4,w5⟩:=cb ki pl u7 fn O1 H1 E1 En la ((O ++ [fn]).length:Int) (O.length:Int) w2.fg f0 f1 (by omega) (by simp;omega) J8 (by omega) (by omega)
  have k1:=w4.lo;have k2:=w4.hi;have k3:=w4.eh;obtain⟨y,y1,y2⟩:=MJ la2 (p,q,((O ++ [fn]).length:Int),q) w5;refine⟨O2,H2,E2,la2.set i (p,q,((O ++ [fn]).length:Int),q),?_,⟨w4.fg,by omega,by omega,by omega⟩,y2⟩
  simp only [go_sem,sU,cO,aa,ze,h15,show((15:Int) == 14)=false from rfl,hp,FQ,rT (show E.length≤2000000 by omega),hK,show bK [a,b] 0=some a from rfl,w1,show bK [a,b] 1=some b from rfl,w3,Int.toNat_natCast,y1]
 by_cases Ek:x.1=16
 ·rw [Ek] at dm
  obtain⟨a,b,c,hK,hb⟩:∃ a b c,x.2.2.2.2 = [a,b,c]∧kd ns c=8:=by
   rcases h:x.2.2.2.2 with _ |⟨a,_ |⟨b,_ |⟨c,_ |⟨d,r⟩⟩⟩⟩
   ·rw [h] at dm;simp [bZ] at dm
   ·rw [h] at dm;simp [bZ] at dm
   ·rw [h] at dm;simp [bZ] at dm
   ·rw [h] at dm;simp [bZ] at dm;exact⟨a,b,c,rfl,dm.2⟩
   ·rw [h] at dm;simp [bZ] at dm
  obtain⟨ec,cc⟩:=IH c (by rw [hK];simp)
  have cc:=cc hb;unfold BFI at cc;rw [ec] at cc;rw [hK,NG] at hw;refine Ev.succ (cc.mono fun k cc ki pl u7 fn O H E En la p q hg f0 f1 p0 p1 J8 hO hE=>?_);have hp:=pG hg (show O.length≤2000000 by omega) fn true
  have Ap:=hg.nV f0 f1 true;have FQ:=pG Ap (show(O ++ [fn]).length≤2000000 by simp;omega) fn false
  have J6:=Ap.nV f0 f1 false;have hg3:=J6.xZ (f:=p) (t:=(O.length:Int)) (k:=8) (n:=(i:Int)) (a:=0) p0 (by simp<;>omega) (fun h=>absurd h (by decide))
  have hg4:=hg3.xZ (f:=(O.length:Int)) (t:=((O ++ [fn]).length:Int)) (k:=9) (n:=(i:Int)) (a:=1) (by omega) (by simp<;>omega) (fun h=>absurd h (by decide))
  have hg5:=hg4.xZ (f:=(O.length:Int)) (t:=q) (k:=9) (n:=(i:Int)) (a:=0) (by omega) (by simp<;>omega) (fun h=>absurd h (by decide))
  have hp3:=pG hg5 (show(O ++ [fn] ++ [fn]).length≤2000000 by simp;omega) fn false
  have hg6:=hg5.nV f0 f1 false;obtain⟨O2,H2,E2,la2,w3,w4,w5⟩:=cc ki pl u7 fn _ _ _ En la ((O ++ [fn]).length:Int) ((O ++ [fn] ++ [fn]).length:Int) hg6 f0 f1 (by simp<;>omega) (by simp<;>omega) J8 (by simp<;>omega) (by simp<;>omega)
  have k1:=w4.lo;have k2:=w4.hi;have k3:=w4.eh;simp only [List.length_append,List.length_cons,List.length_nil] at k1 k2 k3;obtain⟨y,y1,y2⟩:=MJ la2 (p,q,((O ++ [fn]).length:Int),q) w5;refine⟨O2,H2,E2 ++ [(((O ++ [fn] ++ [fn]).length:Int),(O.length:Int),10,(i:Int),0)],la2.set i (p,q,((O ++ [fn]).length:Int),q),?_,⟨w4.fg.xZ (by omega) (by simp;omega) (fun h=>absurd h (by decide)),by omega,by omega,by simp;omega⟩,y2⟩
  simp only [go_sem,sU,cO,aa,ze,Ek,show((16:Int) == 14)=false from rfl,show((16:Int) == 15)=false from rfl,hp,FQ,rT (show E.length≤2000000 by omega),rT (show(E ++ [(p,(O.length:Int),8,(i:Int),0)]).length≤2000000 by simp;omega),rT (show(E ++ [(p,(O.length:Int),8,(i:Int),0)] ++ [((O.length:Int),((O ++ [fn]).length:Int),9,(i:Int),1)]).length≤2000000 by simp;omega),hp3,hK,show bK [a,b,c] 2=some c from rfl,w3,rT (show E2.length≤2000000 by omega),Int.toNat_natCast,y1]
 by_cases h19:x.1=19
 ·rw [h19] at dm
  obtain⟨a,hK,ha⟩:∃ a,x.2.2.2.2 = [a]∧sw (kd ns a)=true:=by
   rcases h:x.2.2.2.2 with _ |⟨a,_ |⟨b,r⟩⟩
   ·rw [h] at dm;simp [bZ] at dm
   ·rw [h] at dm;simp [bZ] at dm;exact⟨a,rfl,dm⟩
   ·rw [h] at dm;simp [bZ] at dm
  obtain⟨ea,ca⟩:=Lr a (by rw [hK];simp) ha
  unfold CFI at ca;rw [ea] at ca;rw [hK,oC] at hw;refine Ev.succ (ca.mono fun k ca ki pl u7 fn O H E En la p q hg f0 f1 p0 p1 J8 hO hE=>?_);have hp:=pG hg (show O.length≤2000000 by omega) fn false
  obtain⟨O1,H1,E1,w1,w2⟩:=ca fn (O ++ [fn]) (H ++ [false]) E En la ki pl p q (O.length:Int) (hg.nV f0 f1 _) f0 f1 p0 (by simp;omega) (by simp;omega) (by omega)
  have l1:=w2.lo;have l2:=w2.hi;have l3:=w2.eh;simp only [List.length_append,List.length_cons,List.length_nil] at l1 l2;obtain⟨y,y1,y2⟩:=MJ la (p,q,q,(O.length:Int)) J8;refine⟨O1,H1,E1 ++ [((O.length:Int),(O.length:Int),4,(i:Int),0)],la.set i (p,q,q,(O.length:Int)),?_,⟨w2.fg.xZ (by omega) (by omega) (fun h=>absurd h (by decide)),by omega,by omega,by simp;omega⟩,y2⟩
  simp only [go_sem,sU,cO,aa,ze,h19,show((19:Int) == 14)=false from rfl,show((19:Int) == 15)=false from rfl,show((19:Int) == 16)=false from rfl,hp,hK,show bK [a] 0=some a from rfl,w1,rT (show E1.length≤2000000 by omega),Int.toNat_natCast,y1]
 have one:∀(mk:XI→Int→Int→Int×Int×Int×Int×Int),(∀ pl p q,Sr ns M pl→(mk pl p q).1=p∧((mk pl p q).2.2.1=5→0≤(mk pl p q).2.2.2.2∧(mk pl p q).2.2.2.2 < (M:Int)))→
   (∀ k ki pl fn O H E En la p q y,Sr ns M pl→E.length≤2000000→bK la (i:Int)=some y→gk (k + 1) fn O En H E la ns A G Fs ki pl [] [] [] [] [] [] [] (i:Int) p q=some (O,H,E ++ [mk pl p q],la.set i (p,q,0,0),()))→SFI nf M ns A G Fs i:=fun mk h1 h2=>
  Ev.succ (Ev.of fun k ki pl u7 fn O H E En la p q hg f0 f1 p0 p1 J8 hO hE=>by
   obtain⟨y,y1,y2⟩:=MJ la (p,q,0,0) J8;obtain⟨g1,g2⟩:=h1 pl p q u7;refine⟨O,H,E ++ [mk pl p q],_,h2 k ki pl fn O H E En la p q y u7 (by omega) y1,⟨?_,by omega,by omega,by simp;omega⟩,y2⟩
   have:=hg.xZ (f:=(mk pl p q).1) (t:=(mk pl p q).2.1) (k:=(mk pl p q).2.2.1) (n:=(mk pl p q).2.2.2.1) (a:=(mk pl p q).2.2.2.2) (by rw [g1];exact p0) (by rw [g1];exact p1) g2
   exact this)
 have n14:=beq_eq_false_iff_ne.2 h14;have n15:=beq_eq_false_iff_ne.2 h15;have n16:=beq_eq_false_iff_ne.2 Ek;have n19:=beq_eq_false_iff_ne.2 h19;by_cases h21:x.1=21
 ·refine one (fun _ p q=>(p,p,6,(i:Int),0)) (fun pl p q _=>⟨rfl,fun h=>by simp at h⟩) (fun k ki pl fn O H E En la p q y _ hE hy=>?_)
  simp only [go_sem,sU,cO,aa,ze,h21,show((21:Int) == 14)=false from rfl,show((21:Int) == 15)=false from rfl,show((21:Int) == 16)=false from rfl,show((21:Int) == 19)=false from rfl,rT hE,Int.toNat_natCast,hy]
 have n21:=beq_eq_false_iff_ne.2 h21;by_cases h20:x.1=20
 ·refine one (fun _ p q=>(p,p,7,(i:Int),0)) (fun pl p q _=>⟨rfl,fun h=>by simp at h⟩) (fun k ki pl fn O H E En la p q y _ hE hy=>?_)
  simp only [go_sem,sU,cO,aa,ze,h20,show((20:Int) == 14)=false from rfl,show((20:Int) == 15)=false from rfl,show((20:Int) == 16)=false from rfl,show((20:Int) == 19)=false from rfl,show((20:Int) == 21)=false from rfl,rT hE,Int.toNat_natCast,hy]
 have n20:=beq_eq_false_iff_ne.2 h20;by_cases Cz:x.1=22
 ·rw [Cz] at dm
  obtain⟨u,r,hK,hu⟩:∃ u r,x.2.2.2.2=u :: r∧kd ns u=23:=by
   cases h:x.2.2.2.2 with
   |nil=>rw [h] at dm;simp [bZ] at dm
   |cons u r=>rw [h] at dm;simp [bZ] at dm;exact⟨u,r,rfl,dm.1⟩
  have hu2:=hn.cA u (by rw [hK];simp)
  obtain⟨y,e1,e2,e3⟩:=uf (ns:=ns) hu2.1 (by omega)
  refine one (fun pl p q=>(p,q,5,(i:Int),(pl[u.toNat]?).getD 0)) (fun pl p q u7=>?_) (fun k ki pl fn O H E En la p q y' u7 hE hy=>?_)
  ·obtain⟨v,v1,v2,v3⟩:=u7 u.toNat y e1 (by rw [←e2];exact hu)
   refine⟨rfl,fun _=>?_⟩;simp only [v1,Option.getD_some];exact⟨v2,v3⟩
  obtain⟨v,v1,v2,v3⟩:=u7 u.toNat y e1 (by rw [←e2];exact hu)
  have iu:bK pl u=some v:=by rw [←Int.toNat_of_nonneg hu2.1];exact bh v1
  have iu2:bK pl ((u.toNat:Nat):Int)=some v:=bh v1;simp only [v1,Option.getD_some];simp only [go_sem,sU,cO,aa,ze,Cz,show((22:Int) == 14)=false from rfl,show((22:Int) == 15)=false from rfl,show((22:Int) == 16)=false from rfl,show((22:Int) == 19)=false from rfl,show((22:Int) == 21)=false from rfl,show((22:Int) == 20)=false from rfl,hK,show bK (u :: r) 0=some u from rfl,iu,iu2,rT hE,Int.toNat_natCast,hy]
 have n22:=beq_eq_false_iff_ne.2 Cz;refine one (fun _ p q=>(p,q,2,(i:Int),0)) (fun pl p q _=>⟨rfl,fun h=>by simp at h⟩) (fun k ki pl fn O H E En la p q y _ hE hy=>?_)
 simp only [go_sem,sU,cO,aa,ze,n14,n15,n16,n19,n21,n20,n22,rT hE,Int.toNat_natCast,hy]
theorem U5(fj:jh ns):∀ n i,i < n→i < ns.length→(kd ns (i:Int)=8→BFI nf M ns A G Fs i)∧SFI nf M ns A G Fs i:=by
 intro n;induction n with
 |zero=>intro i h;omega
 |succ n ih=>
  intro i hi hl;have hx:ns[i]? = some ns[i]:=by simp [hl]
  have hn:=fj i _ hx;have hw:=Mi hx hn.cA;have Ii:∀ j∈ns[i].2.2.2.2,((j.toNat:Nat):Int)=j∧j.toNat < n∧j.toNat < ns.length:=fun j hj=>by have:=hn.cA j hj;exact⟨Int.toNat_of_nonneg this.1,by omega,by omega⟩
  refine⟨fun h8=>aaB hx hn hw (fun j hj=>?_) fun j hj=>⟨(Ii j hj).1,(ih j.toNat (Ii j hj).2.1 (Ii j hj).2.2).2⟩,abC fj hx hn hw fun j hj=>⟨(Ii j hj).1,fun h8=>(ih j.toNat (Ii j hj).2.1 (Ii j hj).2.2).1 (by rw [(Ii j hj).1];exact h8)⟩⟩
  have hj:=hn.cA j hj;obtain⟨y,e1,e2,e3⟩:=uf (ns:=ns) hj.1 (by omega)
  have:=Mi e1 (fj _ _ e1).cA;rw [Int.toNat_of_nonneg hj.1] at this;omega
end
end Go.Fx.R5
namespace Go.Fx.R5
open Go Go.Fx
section
variable {nf M:Nat} {ns:List eg} {A:AS} {G:XS} {Fs:FS}
theorem R3(k:Nat):iS (k + 1)=ov (iS k) (jG k) (mi k) k:=rfl
theorem tq(k:Nat):jG (k + 1)=fP (iS k) (jG k) (mi k) k:=rfl
theorem R4(k:Nat):mi (k + 1)=pr (iS k) (jG k) (mi k) k:=rfl
def SFS(nf M:Nat)(ns:List eg)(A:AS)(G:XS)(Fs:FS)(i:Nat):Prop:=Ev fun k=>∀(fn:Int) (O:XI) (H:XB) (E:ES) (En:XI) (fr to:XI) (p q:Int),FG nf M O H E→0≤fn→fn < nf→0≤p→p < O.length→fr.length=ns.length→to.length=ns.length→O.length + 5 * wt ns (i:Int)≤1000000→E.length + 5 * wt ns (i:Int)≤1000000→
 ∃ O' H' E' Ns On,jG k A G Fs ns fn O En H E fr to (i:Int) p q=some (O',H',E',Ns,On,())∧ZK nf M O E (wt ns (i:Int)) O' H' E'∧Ns.length=ns.length∧On.length=ns.length
def BFS(nf M:Nat)(ns:List eg)(A:AS)(G:XS)(Fs:FS)(i:Nat):Prop:=Ev fun k=>∀(fn:Int) (O:XI) (H:XB) (E:ES) (En:XI) (fr to:XI) (p q:Int),FG nf M O H E→0≤fn→fn < nf→0≤p→p < O.length→fr.length=ns.length→to.length=ns.length→O.length + 5 * wt ns (i:Int)≤1000000→E.length + 5 * wt ns (i:Int)≤1000000→
 ∃ O' H' E' Ns On,iS k A G Fs ns fn O En H E fr to (i:Int) p q=some (O',H',E',Ns,On,())∧Qh nf M O E (wt ns (i:Int)) O' H' E'∧Ns.length=ns.length∧On.length=ns.length
theorem Qp{K:XI}(y0:K.length≤5000)(vj:∀ j∈K,1≤wt ns j)(hK:∀ j∈K,((j.toNat:Nat):Int)=j∧SFS nf M ns A G Fs j.toNat):∀ m s,m + s=K.length→cm fun qq k=>∀(fn:Int) (O:XI) (H:XB) (E:ES) (En:XI) (fr to:XI) (p q:Int),FG nf M O H E→0≤fn→fn < nf→(s < K.length→0≤p∧p < O.length)→fr.length=ns.length→to.length=ns.length→
  O.length + 5 * ju ns (K.drop s)≤1000000→E.length + 5 * ju ns (K.drop s)≤1000000→
  ∃ O' H' E' Ns On,hU (iS qq) (jG qq) (mi qq) qq k A G Fs ns fn En q K O H E fr to p (s:Int)=some (O',H',E',Ns,On,())∧Qh nf M O E (ju ns (K.drop s)) O' H' E'∧Ns.length=ns.length∧On.length=ns.length
 |0,s,h=>by
  have h2:¬ s < K.length:=by omega
  refine cm.succ (cm.of fun qq k fn O H E En fr to p q hg f0 f1 hp su Hu hO hE=>⟨O,H,E,fr,to,?_,⟨hg,by omega,by omega,by omega⟩,su,Hu⟩)
  simp only [go_sem,hU,Int.ofNat_lt,h2]
 |m + 1,s,h=>by
  have bq:s < K.length:=by omega
  have hd:K.drop s=K[s] :: K.drop (s + 1):=List.drop_eq_getElem_cons bq;obtain⟨ej,hj⟩:=hK _ (List.getElem_mem bq);have hks:ju ns (K.drop s)=wt ns K[s] + ju ns (K.drop (s + 1)):=by rw [hd,Do]
  unfold SFS at hj;rw [ej] at hj;refine cm.succ ((hj.tw.and (Qp y0 vj hK m (s + 1) (by omega))).mono fun qq k e fn O H E En fr to p q hg f0 f1 hp su Hu hO hE=>?_)
  obtain⟨e1,e2⟩:=e;obtain⟨p0,p1⟩:=hp bq;rw [hks] at hO hE;by_cases hl:s + 1 < K.length
  ·have hpt:=qA hg (show O.length≤2000000 by omega) fn false
   have Ap:=hg.nV f0 f1 false;have hd2:K.drop (s + 1)=K[s + 1] :: K.drop (s + 1 + 1):=List.drop_eq_getElem_cons hl;have hk2:1≤ju ns (K.drop (s + 1)):=by rw [hd2,Do];have:=vj K[s + 1] (List.getElem_mem hl);omega
   obtain⟨O1,H1,E1,fr1,to1,w1,w2,w3,w3'⟩:=e1 fn (O ++ [fn]) (H ++ [false]) E En fr to p (O.length:Int) Ap f0 f1 p0 (by simp;omega) su Hu (by simp;omega) (by omega)
   have l1:=w2.lo;have l2:=w2.hi;have l3:=w2.eh;simp only [List.length_append,List.length_cons,List.length_nil] at l1 l2;obtain⟨O2,H2,E2,fr2,BH,w4,w5,w6,w6'⟩:=e2 fn O1 H1 E1 En fr1 to1 (O.length:Int) q w2.fg f0 f1 (fun _=>⟨by omega,by omega⟩) w3 w3' (by omega) (by omega)
   have k1:=w5.lo;have k2:=w5.hi;have k3:=w5.eh;refine⟨O2,H2,E2,fr2,BH,?_,⟨w5.fg,by omega,by rw [hks];omega,by rw [hks];omega⟩,w6,w6'⟩
   simp only [go_sem,hU,aa,Int.ofNat_lt,bq,cV bq,ag (show s < _ by omega),hl,hpt,w1,w4]
  ·obtain⟨O1,H1,E1,fr1,to1,w1,w2,w3,w3'⟩:=e1 fn O H E En fr to p q hg f0 f1 p0 p1 su Hu (by omega) (by omega)
   have l1:=w2.lo;have l2:=w2.hi;have l3:=w2.eh;obtain⟨O2,H2,E2,fr2,BH,w4,w5,w6,w6'⟩:=e2 fn O1 H1 E1 En fr1 to1 q q w2.fg f0 f1 (fun hh=>by omega) w3 w3' (by omega) (by omega)
   have k1:=w5.lo;have k2:=w5.hi;have k3:=w5.eh;refine⟨O2,H2,E2,fr2,BH,?_,⟨w5.fg,by omega,by rw [hks];omega,by rw [hks];omega⟩,w6,w6'⟩
   simp only [go_sem,hU,aa,Int.ofNat_lt,bq,cV bq,ag (show s < _ by omega),hl,w1,w4]
theorem at_len{α:Type}{l:List α}{i n:Nat}(hl:l.length=n)(hi:i < n):∃ y,bK l (i:Int)=some y:=⟨l[i]'(by omega),cV (by omega)⟩
theorem aaC{i:Nat}{x:eg}(hx:ns[i]? = some x)(hn:nK ns i x)(hw:wt ns (i:Int)=1 + ju ns x.2.2.2.2)(vj:∀ j∈x.2.2.2.2,1≤wt ns j)(hK:∀ j∈x.2.2.2.2,((j.toNat:Nat):Int)=j∧SFS nf M ns A G Fs j.toNat):BFS nf M ns A G Fs i:=by
 have D0:i < ns.length:=(List.getElem?_eq_some_iff.1 hx).1;refine Ev.succ ((Qp (by have:=hn.nm.2;omega) vj hK x.2.2.2.2.length 0 rfl).jI.mono fun k e fn O H E En fr to p q hg f0 f1 p0 p1 su Hu hO hE=>?_)
 rw [List.drop_zero] at e;obtain⟨y,hy⟩:=at_len su D0;by_cases h0:x.2.2.2.2.length=0
 ·have YR:x.2.2.2.2 = []:=List.length_eq_zero_iff.1 h0
  have Ap:=hg.xZ (f:=p) (t:=q) (k:=1) (n:=-1) (a:=0) p0 p1 (fun h=>absurd h (by decide))
  rw [YR,yy] at e hw;obtain⟨O',H',E',Ns,On,w1,w2,w3,w3'⟩:=e fn O H (E ++ [(p,q,1,-1,0)]) En (fr.set i p) to p q Ap f0 f1 (fun _=>⟨p0,p1⟩) (by simpa using su) Hu (by omega) (by simp;omega)
  have:=w2.eh;simp only [List.length_append,List.length_cons,List.length_nil] at this;refine⟨O',H',E',Ns,On,?_,⟨w2.fg,w2.lo,by have:=w2.hi;omega,by omega⟩,w3,w3'⟩
  have w1:hU (iS k) (jG k) (mi k) k k A G Fs ns fn En q [] O H (E ++ [(p,q,1,-1,0)]) (fr.set i p) to p 0=_:=w1;simp only [go_sem,R3,ov,aa,bh hx,hy,Int.toNat_natCast,YR,show((([]:XI).length:Int) == 0)=true from rfl,tn (show E.length≤2000000 by omega),w1]
 ·obtain⟨O',H',E',Ns,On,w1,w2,w3,w3'⟩:=e fn O H E En (fr.set i p) to p q hg f0 f1 (fun _=>⟨p0,p1⟩) (by simpa using su) Hu (by omega) (by omega)
  refine⟨O',H',E',Ns,On,?_,⟨w2.fg,w2.lo,by have:=w2.hi;omega,by have:=w2.eh;omega⟩,w3,w3'⟩
  have w1:hU (iS k) (jG k) (mi k) k k A G Fs ns fn En q x.2.2.2.2 O H E (fr.set i p) to p 0=_:=w1;simp only [go_sem,R3,ov,aa,bh hx,hy,Int.toNat_natCast,show((x.2.2.2.2.length:Int) == 0)=false from beq_eq_false_iff_ne.2 (by omega),w1]
end
section
variable {nf:Nat} {ns:List eg} {t:xX} {nmf:ao}
theorem abD(ht:iy t)(fj:jh ns){i:Nat}{x:eg}(Fl:F0 ns t nmf i)(hx:ns[i]? = some x)(hn:nK ns i x)(hw:wt ns (i:Int)=1 + ju ns x.2.2.2.2)(IH:∀ j∈x.2.2.2.2,((j.toNat:Nat):Int)=j∧(kd ns j=8→BFS nf t.2.2.length ns t.1 t.2.1 t.2.2 j.toNat)):SFS nf t.2.2.length ns t.1 t.2.1 t.2.2 i:=by
 have dm:=hn.shp;have ze:bK ns (i:Int)=some x:=bh hx;have D0:i < ns.length:=(List.getElem?_eq_some_iff.1 hx).1;have Lr:∀ j∈x.2.2.2.2,sw (kd ns j)=true→((j.toNat:Nat):Int)=j∧CFS nf t.2.2.length ns t.1 t.2.1 t.2.2 j.toNat:=fun j hj hc=>by
  have hj2:=hn.cA j hj;obtain⟨y,e1,e2,e3⟩:=uf (ns:=ns) hj2.1 (by omega)
  exact⟨Int.toNat_of_nonneg hj2.1,YC fj (j.toNat + 1) j.toNat (by omega) (by omega) fun y' Eo=>by rw [e1] at Eo;cases Eo;rw [←e2];exact hc⟩
 by_cases h14:x.1=14
 ·rw [h14] at dm
  have hb:∃ a b r,x.2.2.2.2=a :: b :: r∧sw (kd ns a)=true∧kd ns b=8∧(r = []∨∃ c,r = [c]∧kd ns c=8):=by
   rcases h:x.2.2.2.2 with _ |⟨a,_ |⟨b,_ |⟨c,_ |⟨d,r⟩⟩⟩⟩
   ·rw [h] at dm;simp [bZ] at dm
   ·rw [h] at dm;simp [bZ] at dm
   ·rw [h] at dm;simp [bZ] at dm;exact⟨a,b,[],rfl,dm.1,dm.2,.inl rfl⟩
   ·rw [h] at dm;simp [bZ] at dm;exact⟨a,b,[c],rfl,dm.1.1,dm.1.2,.inr ⟨c,rfl,dm.2⟩⟩
   ·rw [h] at dm;simp [bZ] at dm
  obtain⟨a,b,r,hK,ha,hb,hr⟩:=hb;obtain⟨ea,ca⟩:=Lr a (by rw [hK];simp) ha
  obtain⟨eb,cb⟩:=IH b (by rw [hK];simp)
  have cb:=cb hb;unfold CFS at ca;unfold BFS at cb;rw [ea] at ca;rw [eb] at cb;rcases hr with rfl |⟨c,rfl,hc8⟩
  ·rw [hK,xd] at hw
   refine Ev.succ ((ca.and cb).mono fun k e fn O H E En fr to p q hg f0 f1 p0 p1 su Hu hO hE=>?_);obtain⟨ca,cb⟩:=e;obtain⟨y1,MG⟩:=at_len su D0;obtain⟨y2,If⟩:=at_len Hu D0;have hp:=qA hg (show O.length≤2000000 by omega) fn false
   obtain⟨O1,H1,E1,w1,w2⟩:=ca fn (O ++ [fn]) (H ++ [false]) E En (fr.set i p) (to.set i q) p (O.length:Int) q (hg.nV f0 f1 _) f0 f1 p0 (by simp;omega) (by simp;omega) (by omega)
   have l1:=w2.lo;have l2:=w2.hi;have l3:=w2.eh;simp only [List.length_append,List.length_cons,List.length_nil] at l1 l2;obtain⟨O2,H2,E2,fr2,BH,w3,w4,w5,w5'⟩:=cb fn O1 H1 E1 En (fr.set i p) (to.set i q) (O.length:Int) q w2.fg f0 f1 (by omega) (by omega) (by simpa using su) (by simpa using Hu) (by omega) (by omega)
   have k1:=w4.lo;have k2:=w4.hi;have k3:=w4.eh;refine⟨O2,H2,E2,fr2,BH,?_,⟨w4.fg,by omega,by omega,by omega⟩,w5,w5'⟩
   simp only [go_sem,tq,fP,aa,ze,MG,If,Int.toNat_natCast,h14,hp,hK,show decide (((([a,b]:XI).length:Int)) > 2)=false from rfl,show bK [a,b] 0=some a from rfl,w1,show bK [a,b] 1=some b from rfl,w3]
  ·obtain⟨ec,cc⟩:=IH c (by rw [hK];simp)
   have cc:=cc hc8;unfold BFS at cc;rw [ec] at cc;rw [hK,NG] at hw;refine Ev.succ ((ca.and (cb.and cc)).mono fun k e fn O H E En fr to p q hg f0 f1 p0 p1 su Hu hO hE=>?_);obtain⟨ca,cb,cc⟩:=e;obtain⟨y1,MG⟩:=at_len su D0;obtain⟨y2,If⟩:=at_len Hu D0;have hp:=qA hg (show O.length≤2000000 by omega) fn false
   have Ap:=hg.nV f0 f1 false;have FQ:=qA Ap (show(O ++ [fn]).length≤2000000 by simp;omega) fn false
   have J6:=Ap.nV f0 f1 false;obtain⟨O1,H1,E1,w1,w2⟩:=ca fn (O ++ [fn] ++ [fn]) (H ++ [false] ++ [false]) E En (fr.set i p) (to.set i q) p (O.length:Int) ((O ++ [fn]).length:Int) J6 f0 f1 p0 (by simp;omega) (by simp;omega) (by omega)
   have l1:=w2.lo;have l2:=w2.hi;have l3:=w2.eh;simp only [List.length_append,List.length_cons,List.length_nil] at l1 l2;obtain⟨O2,H2,E2,fr2,BH,w3,w4,w5,w5'⟩:=cb fn O1 H1 E1 En (fr.set i p) (to.set i q) (O.length:Int) q w2.fg f0 f1 (by omega) (by omega) (by simpa using su) (by simpa using Hu) (by omega) (by omega)
   have k1:=w4.lo;have k2:=w4.hi;have k3:=w4.eh;obtain⟨O3,H3,E3,fr3,to3,w6,w7,w8,w8'⟩:=cc fn O2 H2 E2 En fr2 BH ((O ++ [fn]).length:Int) q w4.fg f0 f1 (by omega) (by simp;omega) w5 w5' (by omega) (by omega)
   have j1:=w7.lo;have j2:=w7.hi;have j3:=w7.eh;refine⟨O3,H3,E3,fr3,to3,?_,⟨w7.fg,by omega,by omega,by omega⟩,w8,w8'⟩
   simp only [go_sem,tq,fP,aa,ze,MG,If,Int.toNat_natCast,h14,hp,FQ,hK,show decide (((([a,b,c]:XI).length:Int)) > 2)=true from rfl,show bK [a,b,c] 0=some a from rfl,w1,show bK [a,b,c] 1=some b from rfl,w3,show bK [a,b,c] 2=some c from rfl,w6]
 by_cases h15:x.1=15
 ·rw [h15] at dm
  obtain⟨a,b,hK,ha,hb⟩:∃ a b,x.2.2.2.2 = [a,b]∧sw (kd ns a)=true∧kd ns b=8:=by
   rcases h:x.2.2.2.2 with _ |⟨a,_ |⟨b,_ |⟨c,r⟩⟩⟩
   ·rw [h] at dm;simp [bZ] at dm
   ·rw [h] at dm;simp [bZ] at dm
   ·rw [h] at dm;simp [bZ] at dm;exact⟨a,b,rfl,dm.1,dm.2⟩
   ·rw [h] at dm;simp [bZ] at dm
  obtain⟨ea,ca⟩:=Lr a (by rw [hK];simp) ha
  obtain⟨eb,cb⟩:=IH b (by rw [hK];simp)
  have cb:=cb hb;unfold CFS at ca;unfold BFS at cb;rw [ea] at ca;rw [eb] at cb;rw [hK,xd] at hw;refine Ev.succ (Ev.succ ((ca.and cb).mono fun k e fn O H E En fr to p q hg f0 f1 p0 p1 su Hu hO hE=>?_));obtain⟨ca,cb⟩:=e;obtain⟨y1,MG⟩:=at_len su D0;obtain⟨y2,If⟩:=at_len Hu D0;have hp:=qA hg (show O.length≤2000000 by omega) fn true
  have Ap:=hg.nV f0 f1 true;have FQ:=qA Ap (show(O ++ [fn]).length≤2000000 by simp;omega) fn false
  have J6:=(Ap.nV f0 f1 false).xZ (f:=p) (t:=(O.length:Int)) (k:=1) (n:=-1) (a:=0) p0 (by simp<;>omega) (fun h=>absurd h (by decide))
  obtain⟨O1,H1,E1,w1,w2⟩:=ca fn (O ++ [fn] ++ [fn]) (H ++ [true] ++ [false]) (E ++ [(p,(O.length:Int),1,-1,0)]) En (fr.set i p) (to.set i q) (O.length:Int) ((O ++ [fn]).length:Int) q J6 f0 f1 (by omega) (by simp;omega) (by simp;omega) (by simp;omega)
  have l1:=w2.lo;have l2:=w2.hi;have l3:=w2.eh;simp only [List.length_append,List.length_cons,List.length_nil] at l1 l2 l3;obtain⟨O2,H2,E2,fr2,BH,w3,w4,w5,w5'⟩:=cb fn O1 H1 E1 En (fr.set i p) (to.set i q) ((O ++ [fn]).length:Int) (O.length:Int) w2.fg f0 f1 (by omega) (by simp;omega) (by simpa using su) (by simpa using Hu) (by omega) (by omega)
  have k1:=w4.lo;have k2:=w4.hi;have k3:=w4.eh;refine⟨O2,H2,E2,fr2,BH,?_,⟨w4.fg,by omega,by omega,by omega⟩,w5,w5'⟩
  simp only [go_sem,tq (k + 1),fP,aa,ze,MG,If,Int.toNat_natCast,h15,show((15:Int) == 14)=false from rfl,R4,pr,hp,FQ,tn (show E.length≤2000000 by omega),hK,show bK [a,b] 0=some a from rfl,w1,show bK [a,b] 1=some b from rfl,w3]
 by_cases Ek:x.1=16
 ·rw [Ek] at dm
  obtain⟨a,b,c,hK,hb⟩:∃ a b c,x.2.2.2.2 = [a,b,c]∧kd ns c=8:=by
   rcases h:x.2.2.2.2 with _ |⟨a,_ |⟨b,_ |⟨c,_ |⟨d,r⟩⟩⟩⟩
   ·rw [h] at dm;simp [bZ] at dm
   ·rw [h] at dm;simp [bZ] at dm
   ·rw [h] at dm;simp [bZ] at dm
   ·rw [h] at dm;simp [bZ] at dm;exact⟨a,b,c,rfl,dm.2⟩
   ·rw [h] at dm;simp [bZ] at dm
  obtain⟨ec,cc⟩:=IH c (by rw [hK];simp)
  have cc:=cc hb;unfold BFS at cc;rw [ec] at cc;rw [hK,NG] at hw;refine Ev.succ (Ev.succ (cc.mono fun k cc fn O H E En fr to p q hg f0 f1 p0 p1 su Hu hO hE=>?_));obtain⟨y1,MG⟩:=at_len su D0;obtain⟨y2,If⟩:=at_len Hu D0;have hp:=qA hg (show O.length≤2000000 by omega) fn true
  have Ap:=hg.nV f0 f1 true;have FQ:=qA Ap (show(O ++ [fn]).length≤2000000 by simp;omega) fn false
  have J6:=Ap.nV f0 f1 false;have hg3:=J6.xZ (f:=p) (t:=(O.length:Int)) (k:=8) (n:=(i:Int)) (a:=0) p0 (by simp<;>omega) (fun h=>absurd h (by decide))
  have hg4:=hg3.xZ (f:=(O.length:Int)) (t:=((O ++ [fn]).length:Int)) (k:=9) (n:=(i:Int)) (a:=1) (by omega) (by simp<;>omega) (fun h=>absurd h (by decide))
  have hg5:=hg4.xZ (f:=(O.length:Int)) (t:=q) (k:=9) (n:=(i:Int)) (a:=0) (by omega) (by simp<;>omega) (fun h=>absurd h (by decide))
  have hp3:=qA hg5 (show(O ++ [fn] ++ [fn]).length≤2000000 by simp;omega) fn false
  have hg6:=hg5.nV f0 f1 false;obtain⟨O2,H2,E2,fr2,BH,w3,w4,w5,w5'⟩:=cc fn _ _ _ En (fr.set i p) (to.set i q) ((O ++ [fn]).length:Int) ((O ++ [fn] ++ [fn]).length:Int) hg6 f0 f1 (by simp<;>omega) (by simp<;>omega) (by simpa using su) (by simpa using Hu) (by simp<;>omega) (by simp<;>omega)
  have k1:=w4.lo;have k2:=w4.hi;have k3:=w4.eh;simp only [List.length_append,List.length_cons,List.length_nil] at k1 k2 k3;refine⟨O2,H2,E2 ++ [(((O ++ [fn] ++ [fn]).length:Int),(O.length:Int),10,(i:Int),0)],fr2,BH,?_,⟨w4.fg.xZ (by omega) (by simp;omega) (fun h=>absurd h (by decide)),by omega,by omega,by simp;omega⟩,w5,w5'⟩
  simp only [go_sem,tq (k + 1),fP,aa,ze,MG,If,Int.toNat_natCast,Ek,show((16:Int) == 14)=false from rfl,show((16:Int) == 15)=false from rfl,R4,pr,hp,FQ,tn (show E.length≤2000000 by omega),tn (show(E ++ [(p,(O.length:Int),8,(i:Int),0)]).length≤2000000 by simp;omega),tn (show(E ++ [(p,(O.length:Int),8,(i:Int),0)] ++ [((O.length:Int),((O ++ [fn]).length:Int),9,(i:Int),1)]).length≤2000000 by simp;omega),hp3,hK,show bK [a,b,c] 2=some c from rfl,w3,tn (show E2.length≤2000000 by omega)]
 by_cases h19:x.1=19
 ·rw [h19] at dm
  obtain⟨a,hK,ha⟩:∃ a,x.2.2.2.2 = [a]∧sw (kd ns a)=true:=by
   rcases h:x.2.2.2.2 with _ |⟨a,_ |⟨b,r⟩⟩
   ·rw [h] at dm;simp [bZ] at dm
   ·rw [h] at dm;simp [bZ] at dm;exact⟨a,rfl,dm⟩
   ·rw [h] at dm;simp [bZ] at dm
  obtain⟨ea,ca⟩:=Lr a (by rw [hK];simp) ha
  unfold CFS at ca;rw [ea] at ca;rw [hK,oC] at hw;refine Ev.succ (ca.mono fun k ca fn O H E En fr to p q hg f0 f1 p0 p1 su Hu hO hE=>?_);obtain⟨y1,MG⟩:=at_len su D0;obtain⟨y2,If⟩:=at_len Hu D0;have hp:=qA hg (show O.length≤2000000 by omega) fn false
  obtain⟨O1,H1,E1,w1,w2⟩:=ca fn (O ++ [fn]) (H ++ [false]) E En (fr.set i p) (to.set i q) p q (O.length:Int) (hg.nV f0 f1 _) f0 f1 p0 (by simp;omega) (by simp;omega) (by omega)
  have l1:=w2.lo;have l2:=w2.hi;have l3:=w2.eh;simp only [List.length_append,List.length_cons,List.length_nil] at l1 l2;refine⟨O1,H1,E1 ++ [((O.length:Int),(O.length:Int),4,(i:Int),0)],fr.set i p,to.set i q,?_,⟨w2.fg.xZ (by omega) (by omega) (fun h=>absurd h (by decide)),by omega,by omega,by simp;omega⟩,by simpa using su,by simpa using Hu⟩
  simp only [go_sem,tq,fP,aa,ze,MG,If,Int.toNat_natCast,h19,show((19:Int) == 14)=false from rfl,show((19:Int) == 15)=false from rfl,show((19:Int) == 16)=false from rfl,hp,hK,show bK [a] 0=some a from rfl,w1,tn (show E1.length≤2000000 by omega)]
 have one:∀(mk:Int→Int→Int×Int×Int×Int×Int),(∀ p q,(mk p q).1=p∧((mk p q).2.2.1=5→0≤(mk p q).2.2.2.2∧(mk p q).2.2.2.2 < (t.2.2.length:Int)))→
   (Ev fun k=>∀ fn O H E En fr to p q y1 y2,E.length≤2000000→bK fr (i:Int)=some y1→bK to (i:Int)=some y2→jG (k + 1) t.1 t.2.1 t.2.2 ns fn O En H E fr to (i:Int) p q=some (O,H,E ++ [mk p q],fr.set i p,to.set i q,()))→SFS nf t.2.2.length ns t.1 t.2.1 t.2.2 i:=fun mk h1 h2=>
  Ev.succ (h2.mono fun k h2 fn O H E En fr to p q hg f0 f1 p0 p1 su Hu hO hE=>by
   obtain⟨y1,MG⟩:=at_len su D0;obtain⟨y2,If⟩:=at_len Hu D0;obtain⟨g1,g2⟩:=h1 p q;refine⟨O,H,E ++ [mk p q],_,_,h2 fn O H E En fr to p q y1 y2 (by omega) MG If,⟨?_,by omega,by omega,by simp;omega⟩,by simpa using su,by simpa using Hu⟩
   exact hg.xZ (f:=(mk p q).1) (t:=(mk p q).2.1) (k:=(mk p q).2.2.1) (n:=(mk p q).2.2.2.1) (a:=(mk p q).2.2.2.2) (by rw [g1];exact p0) (by rw [g1];exact p1) g2)
 by_cases h21:x.1=21
 ·refine one (fun p q=>(p,p,6,(i:Int),0)) (fun p q=>⟨rfl,fun h=>by simp at h⟩) (Ev.of fun k fn O H E En fr to p q y1 y2 hE MG If=>?_)
  simp only [go_sem,tq,fP,aa,ze,MG,If,Int.toNat_natCast,h21,show((21:Int) == 14)=false from rfl,show((21:Int) == 15)=false from rfl,show((21:Int) == 16)=false from rfl,show((21:Int) == 19)=false from rfl,tn hE]
 by_cases h20:x.1=20
 ·refine one (fun p q=>(p,p,7,(i:Int),0)) (fun p q=>⟨rfl,fun h=>by simp at h⟩) (Ev.of fun k fn O H E En fr to p q y1 y2 hE MG If=>?_)
  simp only [go_sem,tq,fP,aa,ze,MG,If,Int.toNat_natCast,h20,show((20:Int) == 14)=false from rfl,show((20:Int) == 15)=false from rfl,show((20:Int) == 16)=false from rfl,show((20:Int) == 19)=false from rfl,show((20:Int) == 21)=false from rfl,tn hE]
 by_cases Cz:x.1=22
 ·rw [Cz] at dm
  obtain⟨u,r,hK,hu⟩:∃ u r,x.2.2.2.2=u :: r∧kd ns u=23:=by
   cases h:x.2.2.2.2 with
   |nil=>rw [h] at dm;simp [bZ] at dm
   |cons u r=>rw [h] at dm;simp [bZ] at dm;exact⟨u,r,rfl,dm.1⟩
  have hu2:=hn.cA u (by rw [hK];simp)
  obtain⟨y,e1,e2,e3⟩:=uf (ns:=ns) hu2.1 (by omega)
  obtain⟨_,x',Dl,hk',hc',ha'⟩:=Fl;rw [hx] at Dl;obtain rfl:=Option.some.inj Dl;have h5:=hc' Cz u (by rw [hK];rfl)
  obtain⟨n,f,n1,n2,n3⟩:=nk5 h5;have WI:CP ns u=y.2.2.2.1:=by simp only [CP,e1]
  rw [WI] at n3;have JF:0≤nj (fun z:ao×Int×XS×XS×Int=>z.1 == y.2.2.2.1) t.2.2 0:=AU.2 ⟨f,List.mem_of_getElem? n2,beq_iff_eq.2 n3⟩;have ad1:=XM JF;have hF:=PK t y.2.2.2.1 (by have:=ht.f;omega)
  refine one (fun p q=>(p,q,5,(i:Int),nj (fun z:ao×Int×XS×XS×Int=>z.1 == y.2.2.2.1) t.2.2 0)) (fun p q=>⟨rfl,fun _=>⟨JF,ad1⟩⟩) (hF.mono fun k e fn O H E En fr to p q y1 y2 hE MG If=>?_);simp only [go_sem,tq,fP,aa,ze,MG,If,Int.toNat_natCast,Cz,show((22:Int) == 14)=false from rfl,show((22:Int) == 15)=false from rfl,show((22:Int) == 16)=false from rfl,show((22:Int) == 19)=false from rfl,show((22:Int) == 21)=false from rfl,show((22:Int) == 20)=false from rfl,hK,show bK (u :: r) 0=some u from rfl,e3,show jZ k (t.1,t.2.1,t.2.2) y.2.2.2.1=_ from e,tn hE]
 refine one (fun p q=>(p,q,2,(i:Int),0)) (fun p q=>⟨rfl,fun h=>by simp at h⟩) (Ev.of fun k fn O H E En fr to p q y1 y2 hE MG If=>?_)
 simp only [go_sem,tq,fP,aa,ze,MG,If,Int.toNat_natCast,beq_eq_false_iff_ne.2 h14,beq_eq_false_iff_ne.2 h15,beq_eq_false_iff_ne.2 Ek,beq_eq_false_iff_ne.2 h19,beq_eq_false_iff_ne.2 h21,beq_eq_false_iff_ne.2 h20,beq_eq_false_iff_ne.2 Cz,tn hE]
theorem U6(ht:iy t)(fj:jh ns):∀ n i,i < n→i < ns.length→F0 ns t nmf i→(kd ns (i:Int)=8→BFS nf t.2.2.length ns t.1 t.2.1 t.2.2 i)∧SFS nf t.2.2.length ns t.1 t.2.1 t.2.2 i:=by
 intro n;induction n with
 |zero=>intro i h;omega
 |succ n ih=>
  intro i hi hl Fl;have hx:ns[i]? = some ns[i]:=by simp [hl]
  have hn:=fj i _ hx;have hw:=Mi hx hn.cA;have hkc:∀ j∈ns[i].2.2.2.2,F0 ns t nmf j.toNat:=by obtain⟨_,x',Dl,hk',_,_⟩:=Fl;rw [hx] at Dl;obtain rfl:=Option.some.inj Dl;exact hk'
  have Ii:∀ j∈ns[i].2.2.2.2,((j.toNat:Nat):Int)=j∧j.toNat < n∧j.toNat < ns.length:=fun j hj=>by have:=hn.cA j hj;exact⟨Int.toNat_of_nonneg this.1,by omega,by omega⟩
  refine⟨fun h8=>aaC hx hn hw (fun j hj=>?_) fun j hj=>⟨(Ii j hj).1,(ih j.toNat (Ii j hj).2.1 (Ii j hj).2.2 (hkc j hj)).2⟩,abD ht fj Fl hx hn hw fun j hj=>⟨(Ii j hj).1,fun h8=>(ih j.toNat (Ii j hj).2.1 (Ii j hj).2.2 (hkc j hj)).1 (by rw [(Ii j hj).1];exact h8)⟩⟩
  have hj:=hn.cA j hj;obtain⟨y,e1,e2,e3⟩:=uf (ns:=ns) hj.1 (by omega)
  have:=Mi e1 (fj _ _ e1).cA;rw [Int.toNat_of_nonneg hj.1] at this;omega
end
end Go.Fx.R5
namespace Go.Fx.R5
open Go Go.Fx
theorem Zu{k:Int}{l:XI}(h:bZ k l=true)(hm:(23:Int)∈l):(k=22∨k=12)∧∃ r,l=23 :: r:=by
 unfold bZ at h;by_cases c1:k=24∨k=25∨k=27∨k=29∨k=23∨k=34∨k=17∨k=20∨k=2∨k=3∨k=5∨k=6∨k=7
 ·rw [if_pos c1] at h
  cases l with
  |nil=>cases hm
  |cons a r=>cases h
 rw [if_neg c1] at h;by_cases c2:k=26∨k=11∨k=13∨k=18∨k=21
 ·rw [if_pos c2] at h
  rcases l with _ |⟨a,_ |⟨b,r⟩⟩
  ·cases hm
  ·obtain rfl:=List.mem_singleton.1 hm;exact absurd h (by decide)
  ·cases h
 rw [if_neg c2] at h;by_cases c3:k=9
 ·rw [if_pos c3] at h
  rcases l with _ |⟨a,_ |⟨b,r⟩⟩
  ·cases hm
  ·obtain rfl:=List.mem_singleton.1 hm;exact absurd h (by decide)
  ·cases h
 rw [if_neg c3] at h;by_cases c4:k=28∨k=30∨k=10
 ·rw [if_pos c4] at h
  rcases l with _ |⟨a,_ |⟨b,_ |⟨c,r⟩⟩⟩
  ·cases hm
  ·cases h
  ·simp only [Bool.and_eq_true] at h
   rcases List.mem_cons.1 hm with rfl | hm
   ·exact absurd h.1 (by decide)
   ·obtain rfl:=List.mem_singleton.1 hm;exact absurd h.2 (by decide)
  ·cases h
 rw [if_neg c4] at h;by_cases c5:k=12
 ·rw [if_pos c5] at h
  rcases l with _ |⟨a,_ |⟨b,_ |⟨c,r⟩⟩⟩
  ·cases hm
  ·cases h
  ·simp only [Bool.and_eq_true,beq_iff_eq] at h
   exact⟨.inr c5,[b],by rw [h.1]⟩
  ·cases h
 rw [if_neg c5] at h;by_cases c6:k=22
 ·rw [if_pos c6] at h
  cases l with
  |nil=>cases hm
  |cons a r=>simp only [Bool.and_eq_true,beq_iff_eq] at h;exact⟨.inl c6,r,by rw [h.1]⟩
 rw [if_neg c6] at h;by_cases c7:k=31∨k=32
 ·rw [if_pos c7] at h
  rcases l with _ |⟨a,_ |⟨b,_ |⟨c,r⟩⟩⟩
  ·cases hm
  ·cases h
  ·simp only [Bool.and_eq_true] at h
   rcases List.mem_cons.1 hm with rfl | hm
   ·exact absurd h.1 (by decide)
   ·obtain rfl:=List.mem_singleton.1 hm;exact absurd h.2 (by decide)
  ·cases h
 rw [if_neg c7] at h;by_cases c8:k=33∨k=19
 ·rw [if_pos c8] at h
  rcases l with _ |⟨a,_ |⟨b,r⟩⟩
  ·cases hm
  ·obtain rfl:=List.mem_singleton.1 hm;exact absurd h (by decide)
  ·cases h
 rw [if_neg c8] at h;by_cases c9:k=14
 ·rw [if_pos c9] at h
  rcases l with _ |⟨a,_ |⟨b,_ |⟨c,_ |⟨d,r⟩⟩⟩⟩
  ·cases hm
  ·cases h
  ·simp only [Bool.and_eq_true] at h
   rcases List.mem_cons.1 hm with rfl | hm
   ·exact absurd h.1 (by decide)
   ·obtain rfl:=List.mem_singleton.1 hm;exact absurd h.2 (by decide)
  ·simp only [Bool.and_eq_true] at h
   rcases List.mem_cons.1 hm with rfl | hm
   ·exact absurd h.1.1 (by decide)
   ·rcases List.mem_cons.1 hm with rfl | hm
    ·exact absurd h.1.2 (by decide)
    ·obtain rfl:=List.mem_singleton.1 hm;exact absurd h.2 (by decide)
  ·cases h
 rw [if_neg c9] at h;by_cases c10:k=15
 ·rw [if_pos c10] at h
  rcases l with _ |⟨a,_ |⟨b,_ |⟨c,r⟩⟩⟩
  ·cases hm
  ·cases h
  ·simp only [Bool.and_eq_true] at h
   rcases List.mem_cons.1 hm with rfl | hm
   ·exact absurd h.1 (by decide)
   ·obtain rfl:=List.mem_singleton.1 hm;exact absurd h.2 (by decide)
  ·cases h
 rw [if_neg c10] at h;by_cases Mr:k=16
 ·rw [if_pos Mr] at h
  rcases l with _ |⟨a,_ |⟨b,_ |⟨c,_ |⟨d,r⟩⟩⟩⟩
  ·cases hm
  ·cases h
  ·cases h
  ·simp only [Bool.and_eq_true] at h
   rcases List.mem_cons.1 hm with rfl | hm
   ·exact absurd h.1.1 (by decide)
   ·rcases List.mem_cons.1 hm with rfl | hm
    ·exact absurd h.1.2 (by decide)
    ·obtain rfl:=List.mem_singleton.1 hm;exact absurd h.2 (by decide)
  ·cases h
 rw [if_neg Mr] at h;by_cases c12:k=8
 ·rw [if_pos c12] at h
  exact absurd (List.all_eq_true.1 h 23 hm) (by decide)
 rw [if_neg c12] at h;by_cases c13:k=4
 ·rw [if_pos c13] at h
  simp only [Bool.and_eq_true,beq_iff_eq] at h;have gU:l≠[]:=List.ne_nil_of_mem hm;have e:=List.dropLast_concat_getLast gU;rw [←e] at hm;rcases List.mem_append.1 hm with hm | hm
  ·exact absurd (List.all_eq_true.1 h.1 23 hm) (by decide)
  ·have h2:=h.2
   rw [List.getLast?_eq_some_getLast gU] at h2;rw [←List.mem_singleton.1 hm] at h2;cases h2
 rw [if_neg c13] at h;by_cases c14:k=1
 ·rw [if_pos c14] at h
  exact absurd (List.all_eq_true.1 h 23 hm) (by decide)
 rw [if_neg c14] at h;cases h
section
variable {ns:List eg} {t:xX}
theorem nk1{fn s:ao}(h:(nk t fn s).1=1):0≤(nk t fn s).2∧(nk t fn s).2 < t.1.length:=by
 have key:(ML t s).1=1→0≤(ML t s).2∧(ML t s).2 < t.1.length:=fun h=>by
  unfold ML at h ⊢;by_cases g1:0≤nj (fun x:ao×Int=>x.1 == s) t.1 0
  ·have:=XM g1
   simp [g1];omega
  ·by_cases g2:0≤nj (fun x=>x == s) t.2.1 0
   ·simp [g1,g2] at h
   ·by_cases g3:0≤nj (fun x:ao×Int×XS×XS×Int=>x.1 == s) t.2.2 0<;>simp [g1,g2,g3] at h
 unfold nk at h ⊢;cases hf:t.2.2.find? (fun x=>x.1 == fn) with
 |none=>simp only [hf] at h ⊢;exact key h
 |some x=>
  simp only [hf] at h ⊢;by_cases g1:0≤nj (fun y=>y == s) x.2.2.1 0
  ·simp [g1] at h
  ·by_cases g2:0≤nj (fun y=>y == s) x.2.2.2.1 0
   ·simp [g1,g2] at h
   ·simp only [go_sem,g1,g2] at h ⊢;exact key h
structure KP(ns:List eg)(ki pl:XI):Prop where
 k:ki.length=ns.length
 p:pl.length=ns.length
 o:Sr ns 6 pl
theorem KP.set{ki pl:XI}(h:KP ns ki pl){i:Nat}{x:eg}(hx:ns[i]? = some x)(a b:Int)(hb:x.1=23→0≤b∧b < 6):KP ns (ki.set i a) (pl.set i b):=by
 refine⟨by simpa using h.k,by simpa using h.p,fun j y hy h23=>?_⟩
 have D0:=(List.getElem?_eq_some_iff.1 hx).1;by_cases e:i=j
 ·subst e
  rw [hx] at hy;cases hy;refine⟨b,?_,(hb h23).1,(hb h23).2⟩;rw [List.getElem?_set_self (by rw [h.p];exact D0)]
 ·obtain⟨v,v1,v2⟩:=h.o j y hy h23
  exact⟨v,by rw [List.getElem?_set_ne e];exact v1,v2⟩
def Bd(ns:List eg)(t:xX)(rec:ao×Int×XS×XS×Int)(i:Nat):Prop:=Ev fun k=>∀ ki pl,KP ns ki pl→
 ∃ ki' pl',gc k ns t.1 t.2.1 t.2.2 ki pl [] [] [] [] [] [] [] rec (i:Int)=some (ki',pl',())∧KP ns ki' pl'
theorem M9{rec:ao×Int×XS×XS×Int}{K:XI}(y0:K.length≤5000)(hK:∀ j∈K,((j.toNat:Nat):Int)=j∧Bd ns t rec j.toNat):∀ m s,m + s=K.length→cm fun q k=>∀ ki pl,KP ns ki pl→
  ∃ ki' pl',gm (gc q) q k rec.1 rec.2.1 rec.2.2.1 rec.2.2.2.1 rec.2.2.2.2 ns t.1 t.2.1 t.2.2 [] [] [] [] [] [] [] K (K.length:Int) ki pl (s:Int)=some (ki',pl',())∧KP ns ki' pl'
 |0,s,h=>by
  have h2:¬ s < K.length:=by omega
  exact cm.succ (cm.of fun q k ki pl hkp=>⟨ki,pl,by simp only [go_sem,gm,Int.ofNat_lt,h2],hkp⟩)
 |m + 1,s,h=>by
  have bq:s < K.length:=by omega
  obtain⟨ej,hj⟩:=hK _ (List.getElem_mem bq);unfold Bd at hj;rw [ej] at hj;refine cm.succ ((hj.tw.and (M9 y0 hK m (s + 1) (by omega))).mono fun q k e ki pl hkp=>?_)
  obtain⟨ki1,pl1,w1,w2⟩:=e.1 ki pl hkp;obtain⟨ki2,pl2,w3,w4⟩:=e.2 ki1 pl1 w2;refine⟨ki2,pl2,?_,w4⟩;simp only [go_sem,gm,Int.ofNat_lt,bq,cV bq,ag (show s < _ by omega)]
  rw [show gc q ns t.1 t.2.1 t.2.2 ki pl [] [] [] [] [] [] [] (rec.1,rec.2.1,rec.2.2.1,rec.2.2.2.1,rec.2.2.2.2) K[s]=_ from w1]
  simp only [go_sem,w3]
theorem V6(ht:iy t)(fj:jh ns)(rec:ao×Int×XS×XS×Int):∀ n i,i < n→i < ns.length→F0 ns t rec.1 i→(∀ x,ns[i]? = some x→x.1=23→0≤(nk t rec.1 x.2.2.2.1).2∧(nk t rec.1 x.2.2.2.1).2 < 6)→Bd ns t rec i:=by
 intro n;induction n with
 |zero=>intro i h;omega
 |succ n ih=>
  intro i hi hl Fl h23;have hx:ns[i]? = some ns[i]:=by simp [hl]
  have hn:=fj i _ hx;have acu:=h23 _ hx;obtain⟨_,x',Dl,hkc,hcc,hca⟩:=Fl;rw [hx] at Dl;obtain rfl:=Option.some.inj Dl;have hf6:=ht.f;have ha4:=ht.a;have Ii:∀ j∈ns[i].2.2.2.2,((j.toNat:Nat):Int)=j∧Bd ns t rec j.toNat:=fun j hj=>by
   have hj2:=hn.cA j hj;refine⟨Int.toNat_of_nonneg hj2.1,ih j.toNat (by omega) (by omega) (hkc j hj) fun y hy h23=>?_⟩
   have hkd:kd ns j=23:=by simp only [kd,hy];exact h23
   have gT:(23:Int)∈ns[i].2.2.2.2.map (kd ns):=by rw [←hkd];exact List.mem_map_of_mem hj
   obtain⟨hk,r,hr⟩:=Zu hn.shp gT;have Lf:ns[i].2.2.2.2.head? = some j∨∃ u,ns[i].2.2.2.2.head? = some u∧kd ns u=23:=by
    cases hK:ns[i].2.2.2.2 with
    |nil=>rw [hK] at hj;cases hj
    |cons u r'=>rw [hK] at hr;simp only [List.map_cons,List.cons.injEq] at hr;exact .inr ⟨u,rfl,hr.1⟩
   have WI:CP ns j=y.2.2.2.1:=by simp only [CP,hy]
   have only:ns[i].2.2.2.2.head? = some j:=by
    rcases Lf with h |⟨u,hu,JI⟩
    ·exact h
    ·cases hK:ns[i].2.2.2.2 with
     |nil=>rw [hK] at hj;cases hj
     |cons u' r'=>
      rw [hK] at hj hu;simp only [List.head?_cons,Option.some.injEq] at hu;subst hu;rcases List.mem_cons.1 hj with rfl | hj
      ·rfl
      ·exfalso
       have hs:=hn.shp;rw [hK] at hs;rcases hk with hk | hk
       ·rw [hk] at hs
        simp only [bZ,List.map_cons] at hs;simp at hs;have:=hs.2 j hj;rw [hkd] at this;simp [zP] at this
       ·rw [hk] at hs
        rcases r' with _ |⟨b,_ |⟨c,r''⟩⟩
        ·cases hj
        ·simp [bZ] at hs
         rw [List.mem_singleton.1 hj] at hkd;rw [hkd] at hs;simp [zP] at hs
        ·simp [bZ] at hs
   rw [←WI];rcases hk with hk | hk
   ·obtain⟨m,f,m1,m2,_⟩:=nk5 (hcc hk j only)
    have:=(List.getElem?_eq_some_iff.1 m2).1;rw [m1];omega
   ·have:=nk1 (hca hk j only)
    omega
  have ze:bK ns (i:Int)=some ns[i]:=bh hx;have hlp:=(M9 (t:=t) (rec:=rec) hn.nm.2 Ii ns[i].2.2.2.2.length 0 rfl).jI;have hnk:=WW ht rec.1 ns[i].2.2.2.1;refine Ev.succ ((hlp.and hnk).mono fun k e ki pl hkp=>?_);obtain⟨e1,e2⟩:=e;cases hnm:(ns[i].2.2.2.1 == ([]:ao)) with
  |true=>obtain⟨ki',pl',w1,w2⟩:=e1 ki pl hkp;refine⟨ki',pl',?_,w2⟩;have w1:gm (gc k) k k rec.1 rec.2.1 rec.2.2.1 rec.2.2.2.1 rec.2.2.2.2 ns t.1 t.2.1 t.2.2 [] [] [] [] [] [] [] ns[i].2.2.2.2 (ns[i].2.2.2.2.length:Int) ki pl 0=_:=w1;simp only [go_sem,gc,n9,aa,ze,hnm,w1]
  |false=>obtain⟨y1,MG⟩:=at_len hkp.k hl;obtain⟨y2,If⟩:=at_len hkp.p hl;obtain⟨ki',pl',w1,w2⟩:=e1 (ki.set i (nk t rec.1 ns[i].2.2.2.1).1) (pl.set i (nk t rec.1 ns[i].2.2.2.1).2) (hkp.set hx _ _ acu);refine⟨ki',pl',?_,w2⟩;have w1:gm (gc k) k k rec.1 rec.2.1 rec.2.2.1 rec.2.2.2.1 rec.2.2.2.2 ns t.1 t.2.1 t.2.2 [] [] [] [] [] [] [] ns[i].2.2.2.2 (ns[i].2.2.2.2.length:Int) (ki.set i (nk t rec.1 ns[i].2.2.2.1).1) (pl.set i (nk t rec.1 ns[i].2.2.2.1).2) 0=_:=w1;simp only [go_sem,gc,n9,aa,ze,hnm,show fC k (t.1,t.2.1,t.2.2) rec.1 ns[i].2.2.2.1=_ from e2,Int.toNat_natCast,MG,If,w1]
end
end Go.Fx.R5
namespace Go.Fx.R5
open Go Go.Fx
section
variable {ns:List eg} {t:xX} {D:AS}
theorem NL(hp:P1 ns t D)(fj:jh ns)(Fl:∀ x∈t.2.2,F0 ns t x.1 x.2.2.2.2.toNat):∀ m s,m + s=t.2.2.length→cm fun q k=>∀ ki pl,KP ns ki pl→
  ∃ ki' pl',oR q k ns t.1 t.2.1 t.2.2 t.2.2 (t.2.2.length:Int) ki pl (s:Int)=some (ki',pl',())∧KP ns ki' pl'
 |0,s,h=>by
  have h2:¬ s < t.2.2.length:=by omega
  exact cm.succ (cm.of fun q k ki pl hkp=>⟨ki,pl,by simp only [go_sem,oR,Int.ofNat_lt,h2],hkp⟩)
 |m + 1,s,h=>by
  have bq:s < t.2.2.length:=by omega
  have hf6:=hp.ir.f;have hb:=hp.bd _ (List.getElem_mem bq);have hc:=Fl _ (List.getElem_mem bq);have hB:=V6 hp.ir fj t.2.2[s] (t.2.2[s].2.2.2.2.toNat + 1) t.2.2[s].2.2.2.2.toNat (by omega) (by omega) hc (fun x hx h23=>by
   have:kd ns t.2.2[s].2.2.2.2=x.1:=by simp only [kd,hx]
   rw [hb.2.2.1] at this;omega)
  unfold Bd at hB;rw [Int.toNat_of_nonneg hb.1] at hB;refine cm.succ ((hB.tw.and (NL hp fj Fl m (s + 1) (by omega))).mono fun q k e ki pl hkp=>?_)
  obtain⟨ki1,pl1,w1,w2⟩:=e.1 ki pl hkp;obtain⟨ki2,pl2,w3,w4⟩:=e.2 ki1 pl1 w2;refine⟨ki2,pl2,?_,w4⟩;simp only [go_sem,oR,Int.ofNat_lt,bq,cV bq,w1,ag (show s < _ by omega),w3]
theorem Rh(hp:P1 ns t D)(fj:jh ns)(hl:ns.length≤1401):∀ m s,m + s=t.2.2.length→cm fun q k=>∀ ki pl,Sr ns 6 pl→∀(fn:Int) (O En:XI) (H:XB) (E:ES) (la:SPS),FG t.2.2.length 6 O H E→En.length=s→O.length≤s * 8000→E.length≤s * 8000→la.length=ns.length→
  ∃ fn' O' En' H' E' la',oS q k ns t.1 t.2.1 t.2.2 ki pl (t.2.2.length:Int) fn O En H E la (s:Int)=some (fn',O',En',H',E',la',())∧FG t.2.2.length 6 O' H' E'∧O'.length≤48000∧E'.length≤48000
 |0,s,h=>by
  have h2:¬ s < t.2.2.length:=by omega
  have hf6:=hp.ir.f;refine cm.succ (cm.of fun q k ki pl _ fn O En H E la hg hEn hO hE J8=>⟨fn,O,En,H,E,la,by simp only [go_sem,oS,Int.ofNat_lt,h2],hg,by omega,by omega⟩)
 |m + 1,s,h=>by
  have bq:s < t.2.2.length:=by omega
  have hf6:=hp.ir.f;have hb:=hp.bd _ (List.getElem_mem bq);have hw:=hb.2.2.2;have hB:=(U5 (nf:=t.2.2.length) (M:=6) (A:=t.1) (G:=t.2.1) (Fs:=t.2.2) fj (t.2.2[s].2.2.2.2.toNat + 1) t.2.2[s].2.2.2.2.toNat (by omega) (by omega)).1 (by rw [Int.toNat_of_nonneg hb.1];exact hb.2.2.1)
  unfold BFI at hB;rw [Int.toNat_of_nonneg hb.1] at hB;refine cm.succ ((hB.tw.and (Rh hp fj hl m (s + 1) (by omega))).mono fun q k e ki pl u7 fn O En H E la hg hEn hO hE J8=>?_)
  have f0:(0:Int)≤(s:Int):=by omega
  have f1:(s:Int) < (t.2.2.length:Nat):=by omega
  have hp1:=pG hg (show O.length≤2000000 by omega) (s:Int) false
  have Ap:=hg.nV f0 f1 false;have FQ:=pG Ap (show(O ++ [(s:Int)]).length≤2000000 by simp;omega) (s:Int) false
  have J6:=Ap.nV f0 f1 false;have hen:lM En [(O.length:Int)]=some (En ++ [(O.length:Int)]):=yp (by omega)
  obtain⟨O1,H1,E1,la1,w1,w2,w3⟩:=e.1 ki pl u7 (s:Int) (O ++ [(s:Int)] ++ [(s:Int)]) (H ++ [false] ++ [false]) E (En ++ [(O.length:Int)]) la (O.length:Int) ((O ++ [(s:Int)]).length:Int) J6 f0 f1 (by omega) (by simp;omega) J8 (by simp;omega) (by omega)
  have l1:=w2.lo;have l2:=w2.hi;have l3:=w2.eh;simp only [List.length_append,List.length_cons,List.length_nil] at l1 l2;have hg3:=w2.fg.xZ (f:=((O ++ [(s:Int)]).length:Int)) (t:=((O ++ [(s:Int)]).length:Int)) (k:=6) (n:=-1) (a:=0) (by omega) (by simp;omega) (fun h=>absurd h (by decide))
  obtain⟨Fb,O2,En2,H2,E2,la2,w4,w5,w6,w7⟩:=e.2 ki pl u7 (s:Int) O1 (En ++ [(O.length:Int)]) H1 (E1 ++ [(((O ++ [(s:Int)]).length:Int),((O ++ [(s:Int)]).length:Int),6,-1,0)]) la1 hg3 (by simp;omega) (by omega) (by simp;omega) w3
  refine⟨Fb,O2,En2,H2,E2,la2,?_,w5,w6,w7⟩;simp only [go_sem,oS,qO,Int.ofNat_lt,bq,hp1,hen,FQ,cV bq,w1,rT (show E1.length≤2000000 by omega),ag (show s < _ by omega),w4]
end
theorem RH{E:ES}{n:Nat}(hE:∀ e∈E,0≤e.1∧e.1 < (n:Int))(hl:E.length≤100000)(q:Nat):∀(m s k:Nat) (out:XL),m + s=E.length→m < k→out.length=n→(∀ l∈out,l.length≤s)→∃ MY,oT q k E (E.length:Int) out (s:Int)=some (MY,())
 |0,s,k + 1,out,h,_,ho,hs=>by
  have h2:¬ s < E.length:=by omega
  exact⟨out,by simp only [go_sem,oT,Int.ofNat_lt,h2]⟩
 |m + 1,s,k + 1,out,h,hk,ho,hs=>by
  have bq:s < E.length:=by omega
  have he:=hE _ (List.getElem_mem bq);have hi:E[s].1.toNat < out.length:=by omega
  have i1:bK out E[s].1=some out[E[s].1.toNat]:=by have:bK out ((E[s].1.toNat:Nat):Int)=some out[E[s].1.toNat]:=cV hi;rwa [Int.toNat_of_nonneg he.1] at this
  have i2:bK out ((E[s].1.toNat:Nat):Int)=some out[E[s].1.toNat]:=cV hi;have hol:=hs _ (List.getElem_mem hi);have ha:lM out[E[s].1.toNat] [(s:Int)]=some (out[E[s].1.toNat] ++ [(s:Int)]):=yp (by omega)
  obtain⟨MY,e⟩:=RH hE hl q m (s + 1) k (out.set E[s].1.toNat (out[E[s].1.toNat] ++ [(s:Int)])) (by omega) (by omega) (by simpa using ho) (fun l hl=>by
   rcases List.mem_or_eq_of_mem_set hl with h | rfl
   ·have:=hs l h;omega
   ·simp;omega)
  refine⟨MY,?_⟩;simp only [go_sem,oT,Int.ofNat_lt,bq,cV bq,i1,i2,ha,Nat.beq_refl,Bool.and_self,ag (show s < _ by omega),e]
theorem UQ{c:XB}(hc:c.length=36){a b:Nat}(ha:a < 6)(hb:b < 6):∃ y,bK c ((a:Int) * 6 + (b:Int) * 1)=some y:=by
 obtain⟨y,hy⟩:=at_len (i:=a * 6 + b * 1) hc (by omega)
 exact⟨y,by rw [←hy];congr 1⟩
theorem fd0{O:XI}{H:XB}{E:ES}{nf:Nat}(hg:FG nf 6 O H E)(hn:nf≤6)(hl:E.length≤100000)(q:Nat):∀(m s k:Nat) (c:XB),m + s=E.length→m < k→c.length=36→∃ c',jr q k O E (E.length:Int) c (s:Int)=some (c',())∧c'.length=36
 |0,s,k + 1,c,h,_,hc=>by
  have h2:¬ s < E.length:=by omega
  exact⟨c,by simp only [go_sem,jr,Int.ofNat_lt,h2],hc⟩
 |m + 1,s,k + 1,c,h,hk,hc=>by
  have bq:s < E.length:=by omega
  have he:=hg.ed _ (List.getElem_mem bq);cases h5:(E[s].2.2.1 == 5) with
  |false=>
   obtain⟨c',e1,e2⟩:=fd0 hg hn hl q m (s + 1) k c (by omega) (by omega) hc
   exact⟨c',by simp only [go_sem,jr,aa,Int.ofNat_lt,bq,cV bq,h5,ag (show s < _ by omega),e1],e2⟩
  |true=>
   have ha:=he.2.2 (beq_iff_eq.1 h5);have hi:E[s].1.toNat < O.length:=by omega
   have i1:bK O E[s].1=some O[E[s].1.toNat]:=by have:bK O ((E[s].1.toNat:Nat):Int)=some O[E[s].1.toNat]:=cV hi;rwa [Int.toNat_of_nonneg he.1] at this
   have ho:=hg.ow _ (List.getElem_mem hi);generalize O[E[s].1.toNat]=o at *;obtain⟨y,hy⟩:=UQ hc (a:=o.toNat) (b:=E[s].2.2.2.2.toNat) (by omega) (by omega)
   obtain⟨c',e1,e2⟩:=fd0 hg hn hl q m (s + 1) k (c.set (o.toNat * 6 + E[s].2.2.2.2.toNat * 1) true) (by omega) (by omega) (by simpa using hc)
   refine⟨c',?_,e2⟩;have b1:decide (0≤o)=true:=decide_eq_true ho.1;have b2:decide (o < 6)=true:=decide_eq_true (by omega)
   have b3:decide (0≤E[s].2.2.2.2)=true:=decide_eq_true ha.1;have b4:decide (E[s].2.2.2.2 < 6)=true:=decide_eq_true ha.2;simp only [go_sem,jr,aa,Int.ofNat_lt,bq,cV bq,h5,i1,b1,b2,b3,b4,Bool.and_self,hy,ag (show s < _ by omega),e1]
theorem fd6{kk i n:Nat}(hk:kk < 6)(hi:i < 6)(hn:n≤6)(q:Nat):∀(m s k:Nat) (c:XB),m + s=n→m < k→c.length=36→∃ c',fQ q k (kk:Int) (i:Int) (n:Int) c (s:Int)=some (c',())∧c'.length=36
 |0,s,k + 1,c,h,_,hc=>by
  have h2:¬ s < n:=by omega
  exact⟨c,by simp only [go_sem,fQ,Int.ofNat_lt,h2],hc⟩
 |m + 1,s,k + 1,c,h,hm,hc=>by
  have bq:s < n:=by omega
  obtain⟨y1,h1⟩:=UQ hc hi hk;obtain⟨y2,h2⟩:=UQ hc hk (show s < 6 by omega)
  obtain⟨y3,h3⟩:=UQ hc hi (show s < 6 by omega)
  obtain⟨c1,e1,e2⟩:=fd6 hk hi hn q m (s + 1) k c (by omega) (by omega) hc
  obtain⟨c2,e3,e4⟩:=fd6 hk hi hn q m (s + 1) k (c.set (i * 6 + s * 1) true) (by omega) (by omega) (by simpa using hc)
  have bi:decide ((0:Int)≤(i:Int))=true:=decide_eq_true (by omega)
  have bi6:decide ((i:Int) < 6)=true:=decide_eq_true (by omega)
  have bk:decide ((0:Int)≤(kk:Int))=true:=decide_eq_true (by omega)
  have bk6:decide ((kk:Int) < 6)=true:=decide_eq_true (by omega)
  have bs:decide ((0:Int)≤(s:Int))=true:=decide_eq_true (by omega)
  have bs6:decide ((s:Int) < 6)=true:=decide_eq_true (by omega)
  have SD:fQ q (k + 1) (kk:Int) (i:Int) (n:Int) c (s:Int)=bif y1 then(bif y2 then fQ q k (kk:Int) (i:Int) (n:Int) (c.set (i * 6 + s * 1) true) ((s + 1:Nat):Int) else fQ q k (kk:Int) (i:Int) (n:Int) c ((s + 1:Nat):Int)) else fQ q k (kk:Int) (i:Int) (n:Int) c ((s + 1:Nat):Int):=by simp only [go_sem,fQ,aa,Int.ofNat_lt,bq,bi,bi6,bk,bk6,bs,bs6,Bool.and_self,Int.toNat_natCast,h1,h2,h3,ag (show s < _ by omega)]
  rw [SD];cases y1 with
  |false=>exact⟨c1,e1,e2⟩
  |true=>cases y2 with
   |false=>exact⟨c1,e1,e2⟩
   |true=>exact⟨c2,e3,e4⟩
theorem fd4{kk n:Nat}(hk:kk < 6)(hn:n≤6)(q:Nat)(hq:7≤q):∀(m s k:Nat) (c:XB),m + s=n→m < k→c.length=36→∃ c',kn q k (n:Int) (kk:Int) (n:Int) c (s:Int)=some (c',())∧c'.length=36
 |0,s,k + 1,c,h,_,hc=>by
  have h2:¬ s < n:=by omega
  exact⟨c,by simp only [go_sem,kn,Int.ofNat_lt,h2],hc⟩
 |m + 1,s,k + 1,c,h,hm,hc=>by
  have bq:s < n:=by omega
  obtain⟨c1,e1,e2⟩:=fd6 hk (show s < 6 by omega) hn q n 0 q c (by omega) (by omega) hc
  obtain⟨c2,e3,e4⟩:=fd4 hk hn q hq m (s + 1) k c1 (by omega) (by omega) e2
  have e1:fQ q q (kk:Int) (s:Int) (n:Int) c 0=some (c1,()):=e1;exact⟨c2,by simp only [go_sem,kn,Int.ofNat_lt,bq,e1,ag (show s < _ by omega),e3],e4⟩
theorem fd2{n:Nat}(hn:n≤6)(q:Nat)(hq:7≤q):∀(m s k:Nat) (c:XB),m + s=n→m < k→c.length=36→∃ c',km q k (n:Int) (n:Int) c (s:Int)=some (c',())∧c'.length=36
 |0,s,k + 1,c,h,_,hc=>by
  have h2:¬ s < n:=by omega
  exact⟨c,by simp only [go_sem,km,Int.ofNat_lt,h2],hc⟩
 |m + 1,s,k + 1,c,h,hm,hc=>by
  have bq:s < n:=by omega
  obtain⟨c1,e1,e2⟩:=fd4 (show s < 6 by omega) hn q hq n 0 q c (by omega) (by omega) hc
  obtain⟨c2,e3,e4⟩:=fd2 hn q hq m (s + 1) k c1 (by omega) (by omega) e2
  have e1:kn q q (n:Int) (s:Int) (n:Int) c 0=some (c1,()):=e1;exact⟨c2,by simp only [go_sem,km,Int.ofNat_lt,bq,e1,ag (show s < _ by omega),e3],e4⟩
theorem aaO{c:XB}(hc:c.length=36){i n:Nat}(hi:i < n)(hn:n≤6)(q:Nat):∀(m s k:Nat) (d:XB),m + s=n→m < k→d.length=n→∃ d',gb q k c (i:Int) (n:Int) d (s:Int)=some (d',())∧d'.length=n
 |0,s,k + 1,d,h,_,hd=>by
  have h2:¬ s < n:=by omega
  exact⟨d,by simp only [go_sem,gb,Int.ofNat_lt,h2],hd⟩
 |m + 1,s,k + 1,d,h,hm,hd=>by
  have bq:s < n:=by omega
  obtain⟨y1,h1⟩:=UQ hc (show s < 6 by omega) (show s < 6 by omega)
  obtain⟨y2,h2⟩:=UQ hc (show s < 6 by omega) (show i < 6 by omega)
  obtain⟨y3,h3⟩:=at_len hd hi;obtain⟨d1,e1,e2⟩:=aaO hc hi hn q m (s + 1) k d (by omega) (by omega) hd
  obtain⟨d2,e3,e4⟩:=aaO hc hi hn q m (s + 1) k (d.set i true) (by omega) (by omega) (by simpa using hd)
  have bi:decide ((0:Int)≤(i:Int))=true:=decide_eq_true (by omega)
  have bi6:decide ((i:Int) < 6)=true:=decide_eq_true (by omega)
  have bs:decide ((0:Int)≤(s:Int))=true:=decide_eq_true (by omega)
  have bs6:decide ((s:Int) < 6)=true:=decide_eq_true (by omega)
  have SD:gb q (k + 1) c (i:Int) (n:Int) d (s:Int)=bif (y1 && ((i:Int) == (s:Int) || y2)) then gb q k c (i:Int) (n:Int) (d.set i true) ((s + 1:Nat):Int) else gb q k c (i:Int) (n:Int) d ((s + 1:Nat):Int):=by
   simp only [go_sem,gb,aa,Int.ofNat_lt,bq,bi,bi6,bs,bs6,Bool.and_self,Int.toNat_natCast,h1,h2,h3,ag (show s < _ by omega)]
   cases y1<;>cases ((i:Int) == (s:Int))<;>rfl
  rw [SD];cases (y1 && ((i:Int) == (s:Int) || y2)) with
  |false=>exact⟨d1,e1,e2⟩
  |true=>exact⟨d2,e3,e4⟩
theorem fd8{c:XB}(hc:c.length=36){n:Nat}(hn:n≤6)(q:Nat)(hq:7≤q):∀(m s k:Nat) (d:XB),m + s=n→m < k→d.length=n→∃ d',ko q k (n:Int) c (n:Int) d (s:Int)=some (d',())∧d'.length=n
 |0,s,k + 1,d,h,_,hd=>by
  have h2:¬ s < n:=by omega
  exact⟨d,by simp only [go_sem,ko,Int.ofNat_lt,h2],hd⟩
 |m + 1,s,k + 1,d,h,hm,hd=>by
  have bq:s < n:=by omega
  obtain⟨d1,e1,e2⟩:=aaO hc bq hn q n 0 q d (by omega) (by omega) hd
  obtain⟨d2,e3,e4⟩:=fd8 hc hn q hq m (s + 1) k d1 (by omega) (by omega) e2
  have e1:gb q q c (s:Int) (n:Int) d 0=some (d1,()):=e1;exact⟨d2,by simp only [go_sem,ko,Int.ofNat_lt,bq,e1,ag (show s < _ by omega),e3],e4⟩
theorem Iq{α:Type}(n:Nat)(x:α)(h:n≤1000000):mkl (n:Int) x=some (List.replicate n x):=by
 have h1:decide ((0:Int)≤(n:Int))=true:=decide_eq_true (by omega)
 have h2:decide ((n:Int)≤4294967296)=true:=decide_eq_true (by omega)
 simp only [go_sem,mkl,h1,h2,Bool.and_self,Int.toNat_natCast]
theorem DD{α:Type}{l:List α}{n:Nat}(h:l.length=n):sub l 0 (n:Int)=some l:=by
 have:=FN (l:=l) (m:=0) (n:=n) (by omega) (by omega)
 rw [show(0:Int)=((0:Nat):Int) from rfl,this,←h,List.take_length];rfl
theorem MB{F:FS}{O:XI}{H:XB}{E:ES}(hg:FG F.length 6 O H E)(hn:F.length≤6)(hl:E.length≤100000){k:Nat}(hk:200000≤k):∃ d,ur k F O E=some (d,()):=by
 obtain⟨c1,e1,e2⟩:=fd0 hg hn hl k E.length 0 k (List.replicate 36 false) (by omega) (by omega) (by simp)
 obtain⟨c2,e3,e4⟩:=fd2 hn k (by omega) F.length 0 k c1 (by omega) (by omega) e2
 obtain⟨d,e5,e6⟩:=fd8 e4 hn k (by omega) F.length 0 k (List.replicate F.length false) (by omega) (by omega) (by simp)
 have e1:jr k k O E (E.length:Int) (List.replicate 36 false) 0=_:=e1;have e3:km k k (F.length:Int) (F.length:Int) c1 0=_:=e3;have e5:ko k k (F.length:Int) c2 (F.length:Int) (List.replicate F.length false) 0=_:=e5;exact⟨d,by simp only [go_sem,ur,e1,e3,Iq F.length false (by omega),DD (List.length_replicate (n:=F.length) (a:=false)),e5]⟩
section
variable {ns:List eg} {t:xX} {D:AS}
theorem Vj(hp:P1 ns t D)(fj:jh ns)(Fl:∀ x∈t.2.2,F0 ns t x.1 x.2.2.2.2.toNat)(hl:ns.length≤1401):Ev fun k=>∀ ck,oX k ck=some (ns,(0,0),())→iM k ns=some (t,(0,0),())→
  ∃ ki pl O En H E la out d,wu k ck=some (.inl (ns,t.1,t.2.1,t.2.2,ki,pl,O,En,H,E,la,out,d,(0,0),())):=by
 have hf6:=hp.ir.f;refine((NL hp fj Fl t.2.2.length 0 rfl).jI.and ((Rh hp fj hl t.2.2.length 0 rfl).jI.and (⟨200000,fun k hk=>hk⟩:Ev fun k=>200000≤k))).mono fun k e ck hT hN=>?_;obtain⟨e1,e2,hk⟩:=e;have h0:KP ns (List.replicate ns.length 0) (List.replicate ns.length 0):=⟨by simp,by simp,fun j x hj _=>⟨0,by
  have:=(List.getElem?_eq_some_iff.1 hj).1;simp [this],by omega,by omega⟩⟩
 obtain⟨ki,pl,w1,w2⟩:=e1 _ _ h0;obtain⟨fn,O,En,H,E,la,w3,w4,w5,w6⟩:=e2 ki pl w2.o 0 [] [] [] [] (List.replicate ns.length (0,0,0,0)) ⟨rfl,by simp,by simp⟩ rfl (by simp) (by simp) (by simp)
 obtain⟨out,w7⟩:=RH (n:=O.length) (fun e he=>⟨(w4.ed e he).1,(w4.ed e he).2.1⟩) (by omega) k E.length 0 k (List.replicate O.length []) (by omega) (by omega) (by simp) (by simp)
 obtain⟨d,w8⟩:=MB w4 hf6 (by omega) hk
 have w1:oR k k ns t.1 t.2.1 t.2.2 t.2.2 (t.2.2.length:Int) (List.replicate ns.length 0) (List.replicate ns.length 0) 0=_:=w1;have w3:oS k k ns t.1 t.2.1 t.2.2 ki pl (t.2.2.length:Int) 0 [] [] [] [] (List.replicate ns.length (0,0,0,0)) 0=_:=w3;have w7:oT k k E (E.length:Int) (List.replicate O.length []) 0=_:=w7;refine⟨ki,pl,O,En,H,E,la,out,d,?_⟩;simp only [go_sem,wu,hT,hN,Iq ns.length (0:Int) (by omega),DD (List.length_replicate (n:=ns.length) (a:=(0:Int))),w1,Iq ns.length ((0,0,0,0):Int×Int×Int×Int) (by omega),DD (List.length_replicate (n:=ns.length) (a:=((0,0,0,0):Int×Int×Int×Int))),w3,Iq O.length ([]:XI) (by omega),DD (List.length_replicate (n:=O.length) (a:=([]:XI))),w7,w8]
end
end Go.Fx.R5
namespace Go.Fx.R5
open Go Go.Fx
theorem abX{ns:List eg}(hl:ns.length≤1000000)(q:Nat):∀(m s k:Nat) (fr to:XI),m + s=ns.length→m < k→fr.length=s→to.length=s→∃ Ns On,nR q k ns fr to (s:Int)=some (Ns,On,())∧Ns.length=ns.length∧On.length=ns.length
 |0,s,k + 1,fr,to,h,_,hf,ht=>by
  have h2:¬ s < ns.length:=by omega
  exact⟨fr,to,by simp only [go_sem,nR,Int.ofNat_lt,h2],by omega,by omega⟩
 |m + 1,s,k + 1,fr,to,h,hk,hf,ht=>by
  have bq:s < ns.length:=by omega
  obtain⟨Ns,On,e1,e2,e3⟩:=abX hl q m (s + 1) k (fr ++ [-1]) (to ++ [-1]) (by omega) (by omega) (by simp;omega) (by simp;omega)
  exact⟨Ns,On,by simp only [go_sem,nR,Int.ofNat_lt,bq,yp (show fr.length≤2000000 by omega),yp (show to.length≤2000000 by omega),ag (show s < _ by omega),e1],e2,e3⟩
section
variable {ns:List eg} {t:xX} {D:AS}
theorem abY(hp:P1 ns t D)(fj:jh ns)(Fl:∀ x∈t.2.2,F0 ns t x.1 x.2.2.2.2.toNat)(hl:ns.length≤1401):∀ m s,m + s=t.2.2.length→cm fun q k=>∀(fn:Int) (O En:XI) (H:XB) (E:ES) (fr to:XI),FG t.2.2.length t.2.2.length O H E→En.length=s→O.length≤s * 8000→E.length≤s * 8000→fr.length=ns.length→to.length=ns.length→
  ∃ fn' O' En' H' E' Ns On,nS q k t.2.2 t.1 t.2.1 t.2.2 ns fn O En H E fr to (s:Int)=some (fn',O',En',H',E',Ns,On,())∧FG t.2.2.length t.2.2.length O' H' E'∧E'.length≤48000∧En'.length=t.2.2.length
 |0,s,h=>by
  have h2:¬ s < t.2.2.length:=by omega
  have hf6:=hp.ir.f;refine cm.succ (cm.of fun q k fn O En H E fr to hg hEn hO hE su Hu=>⟨fn,O,En,H,E,fr,to,by simp only [go_sem,nS,Int.ofNat_lt,h2],hg,by omega,by omega⟩)
 |m + 1,s,h=>by
  have bq:s < t.2.2.length:=by omega
  have hf6:=hp.ir.f;have hb:=hp.bd _ (List.getElem_mem bq);have hw:=hb.2.2.2;have hB:=(U6 (nf:=t.2.2.length) (nmf:=t.2.2[s].1) hp.ir fj (t.2.2[s].2.2.2.2.toNat + 1) t.2.2[s].2.2.2.2.toNat (by omega) (by omega) (Fl _ (List.getElem_mem bq))).1 (by rw [Int.toNat_of_nonneg hb.1];exact hb.2.2.1)
  unfold BFS at hB;rw [Int.toNat_of_nonneg hb.1] at hB;refine cm.succ ((hB.tw.and (abY hp fj Fl hl m (s + 1) (by omega))).mono fun q k e fn O En H E fr to hg hEn hO hE su Hu=>?_)
  have f0:(0:Int)≤(s:Int):=by omega
  have f1:(s:Int) < (t.2.2.length:Nat):=by omega
  have hp1:=qA hg (show O.length≤2000000 by omega) (s:Int) false
  have Ap:=hg.nV f0 f1 false;have FQ:=qA Ap (show(O ++ [(s:Int)]).length≤2000000 by simp;omega) (s:Int) false
  have J6:=Ap.nV f0 f1 false;have hen:lM En [(O.length:Int)]=some (En ++ [(O.length:Int)]):=yp (by omega)
  obtain⟨O1,H1,E1,fr1,to1,w1,w2,w3,w3'⟩:=e.1 (s:Int) (O ++ [(s:Int)] ++ [(s:Int)]) (H ++ [false] ++ [false]) E (En ++ [(O.length:Int)]) fr to (O.length:Int) ((O ++ [(s:Int)]).length:Int) J6 f0 f1 (by omega) (by simp;omega) su Hu (by simp;omega) (by omega)
  have l1:=w2.lo;have l2:=w2.hi;have l3:=w2.eh;simp only [List.length_append,List.length_cons,List.length_nil] at l1 l2;have hg3:=w2.fg.xZ (f:=((O ++ [(s:Int)]).length:Int)) (t:=((O ++ [(s:Int)]).length:Int)) (k:=6) (n:=-1) (a:=0) (by omega) (by simp;omega) (fun h=>absurd h (by decide))
  obtain⟨Fb,O2,En2,H2,E2,fr2,BH,w4,w5,w6,w7⟩:=e.2 (s:Int) O1 (En ++ [(O.length:Int)]) H1 (E1 ++ [(((O ++ [(s:Int)]).length:Int),((O ++ [(s:Int)]).length:Int),6,-1,0)]) fr1 to1 hg3 (by simp;omega) (by omega) (by simp;omega) w3 w3'
  refine⟨Fb,O2,En2,H2,E2,fr2,BH,?_,w5,w6,w7⟩;simp only [go_sem,nS,Int.ofNat_lt,bq,hp1,hen,FQ,cV bq,w1,tn (show E1.length≤2000000 by omega),ag (show s < _ by omega),w4]
end
section
variable {O En:XI} {H:XB} {E:ES}
theorem Su{α:Type}{l:List α}{v:Int}(h0:0≤v)(h1:v < l.length):∃ y,bK l v=some y∧bK l ((v.toNat:Nat):Int)=some y:=by
 obtain⟨y,hy⟩:=at_len (l:=l) (i:=v.toNat) rfl (by omega)
 exact⟨y,by rw [←hy,Int.toNat_of_nonneg h0],hy⟩
theorem Ta{n:Nat}(hg:FG n n O H E)(hl:E.length≤100000)(fn:Int)(q:Nat):∀(m s k:Nat) (r:XB),m + s=E.length→m < k→r.length=n→∃ r',gI q k O E fn r (s:Int)=some (r',())∧r'.length=n
 |0,s,k + 1,r,h,_,hr=>by
  have h2:¬ s < E.length:=by omega
  exact⟨r,by simp only [go_sem,gI,Int.ofNat_lt,h2],hr⟩
 |m + 1,s,k + 1,r,h,hk,hr=>by
  have bq:s < E.length:=by omega
  have he:=hg.ed _ (List.getElem_mem bq);obtain⟨r1,e1,e2⟩:=Ta hg hl fn q m (s + 1) k r (by omega) (by omega) hr
  cases h5:(E[s].2.2.1 == 5) with
  |false=>exact⟨r1,by simp only [go_sem,gI,aa,Int.ofNat_lt,bq,cV bq,h5,ag (show s < _ by omega),e1],e2⟩
  |true=>
   have ha:=he.2.2 (beq_iff_eq.1 h5);obtain⟨o,o1,o2⟩:=Su (l:=O) he.1 he.2.1;have hom:o∈O:=by
    simp only [go_sem,bK,Int.toNat_natCast,show decide (0≤((E[s].1.toNat:Nat):Int))=true from decide_eq_true (by omega)] at o2
    exact List.mem_of_getElem? o2
   have ho:=hg.ow o hom;obtain⟨b,b1,b2⟩:=Su (l:=r) (v:=o) ho.1 (by omega)
   obtain⟨c,c1,c2⟩:=Su (l:=r) (v:=E[s].2.2.2.2) ha.1 (by omega)
   obtain⟨r2,e3,e4⟩:=Ta hg hl fn q m (s + 1) k (r.set E[s].2.2.2.2.toNat true) (by omega) (by omega) (by simpa using hr)
   have SD:gI q (k + 1) O E fn r (s:Int)=bif (o == fn || b) then gI q k O E fn (r.set E[s].2.2.2.2.toNat true) ((s + 1:Nat):Int) else gI q k O E fn r ((s + 1:Nat):Int):=by
    simp only [go_sem,gI,aa,Int.ofNat_lt,bq,cV bq,h5,o1,b1,b2,c1,c2,ag (show s < _ by omega)]
    cases (o == fn)<;>rfl
   rw [SD];cases (o == fn || b) with
   |false=>exact⟨r1,e1,e2⟩
   |true=>exact⟨r2,e3,e4⟩
theorem XX{n:Nat}(hg:FG n n O H E)(hn:n≤6)(hEn:En.length=n)(hl:E.length≤100000)(fn:Int)(q:Nat)(hq:100001≤q):∀(m s k:Nat) (r:XB),m + s=n→m < k→r.length=n→∃ r',lK q k O En E fn r (s:Int)=some (r',())∧r'.length=n
 |0,s,k + 1,r,h,_,hr=>by
  have h2:¬ s < En.length:=by omega
  exact⟨r,by simp only [go_sem,lK,Int.ofNat_lt,h2],hr⟩
 |m + 1,s,k + 1,r,h,hk,hr=>by
  have bq:s < En.length:=by omega
  obtain⟨r1,e1,e2⟩:=Ta hg hl fn q E.length 0 q r (by omega) (by omega) hr
  obtain⟨r2,e3,e4⟩:=XX hg hn hEn hl fn q hq m (s + 1) k r1 (by omega) (by omega) e2
  have e1:gI q q O E fn r 0=_:=e1;exact⟨r2,by simp only [go_sem,lK,Int.ofNat_lt,bq,e1,ag (show s < _ by omega),e3],e4⟩
theorem RS{n:Nat}(hg:FG n n O H E)(hn:n≤6)(hEn:En.length=n)(hl:E.length≤100000)(fn:Int){k:Nat}(hk:100001≤k):∃ r,wn k (O,En,H,E) fn=some (r,())∧r.length=n:=by
 obtain⟨r,e1,e2⟩:=XX hg hn hEn hl fn k hk n 0 k (List.replicate n false) (by omega) (by omega) (by simp)
 have e1:lK k k O En E fn (List.replicate n false) 0=_:=e1;exact⟨r,by simp only [go_sem,wn,hEn,Iq n false (by omega),DD (List.length_replicate (n:=n) (a:=false)),e1],e2⟩
theorem mv{n:Nat}{r:XB}(hr:r.length=n)(hn:n≤6)(q:Nat):∀(m s k:Nat) (d:XB),m + s=n→m < k→d.length=n→∃ d',mK q k r d (s:Int)=some (d',())∧d'.length=n
 |0,s,k + 1,d,h,_,hd=>by
  have h2:¬ s < r.length:=by omega
  exact⟨d,by simp only [go_sem,mK,Int.ofNat_lt,h2],hd⟩
 |m + 1,s,k + 1,d,h,hk,hd=>by
  have bq:s < r.length:=by omega
  obtain⟨y,hy⟩:=at_len (l:=d) hd (show s < n by omega)
  obtain⟨z,hz⟩:=at_len (l:=r) hr (show s < n by omega)
  obtain⟨d1,e1,e2⟩:=mv hr hn q m (s + 1) k (d.set s (y || z)) (by omega) (by omega) (by simpa using hd)
  refine⟨d1,?_,e2⟩;rw [←e1];simp only [go_sem,mK,aa,Int.ofNat_lt,bq,Int.toNat_natCast,hy,hz,ag (show s < _ by omega)]
  cases y<;>rfl
theorem We{n:Nat}(hg:FG n n O H E)(hn:n≤6)(hEn:En.length=n)(hl:E.length≤100000)(q:Nat)(hq:100001≤q):∀(m s k:Nat) (d:XB),m + s=n→m < k→d.length=n→∃ d',iR q k O En H E d (s:Int)=some (d',())∧d'.length=n
 |0,s,k + 1,d,h,_,hd=>by
  have h2:¬ s < En.length:=by omega
  exact⟨d,by simp only [go_sem,iR,Int.ofNat_lt,h2],hd⟩
 |m + 1,s,k + 1,d,h,hk,hd=>by
  have bq:s < En.length:=by omega
  obtain⟨r,e1,e2⟩:=RS hg hn hEn hl (s:Int) hq;obtain⟨x,hx⟩:=at_len (l:=r) e2 (show s < n by omega)
  obtain⟨y,hy⟩:=at_len (l:=d) hd (show s < n by omega)
  obtain⟨d1,e3,e4⟩:=mv e2 hn q n 0 q (d.set s true) (by omega) (by omega) (by simpa using hd)
  have e3:mK q q r (d.set s true) 0=_:=e3;obtain⟨d2,e5,e6⟩:=We hg hn hEn hl q hq m (s + 1) k d (by omega) (by omega) hd
  obtain⟨d3,e7,e8⟩:=We hg hn hEn hl q hq m (s + 1) k d1 (by omega) (by omega) e4
  have SD:iR q (k + 1) O En H E d (s:Int)=bif x then iR q k O En H E d1 ((s + 1:Nat):Int) else iR q k O En H E d ((s + 1:Nat):Int):=by
   simp only [go_sem,iR,aa,Int.ofNat_lt,bq,e1,hx,hy,Int.toNat_natCast,e3,ag (show s < _ by omega)]
   cases x<;>rfl
  rw [SD];cases x with
  |false=>exact⟨d2,e5,e6⟩
  |true=>exact⟨d3,e7,e8⟩
end
section
variable {ns:List eg} {t:xX} {D:AS}
theorem Vu(hp:P1 ns t D)(fj:jh ns)(Fl:∀ x∈t.2.2,F0 ns t x.1 x.2.2.2.2.toNat)(hl:ns.length≤1401):Ev fun k=>∀ ck,ik k ck=some (ns,(0,0),())→gG k ck=some (t,(0,0),())→
  ∃ O En H E d,qB k ck=some (.inl (t.1,t.2.1,t.2.2,ns,O,En,H,E,d,true,())):=by
 have hf6:=hp.ir.f;refine((abY hp fj Fl hl t.2.2.length 0 rfl).jI.and (⟨200000,fun k hk=>hk⟩:Ev fun k=>200000≤k)).mono fun k e ck hT hN=>?_;obtain⟨e2,hk⟩:=e;obtain⟨fr,to,w1,w2,w3⟩:=abX (ns:=ns) (by omega) k ns.length 0 k [] [] rfl (by omega) rfl rfl
 obtain⟨fn,O,En,H,E,Ns,On,w4,w5,w6,w7⟩:=e2 0 [] [] [] [] fr to ⟨rfl,by simp,by simp⟩ rfl (by simp) (by simp) w2 w3
 obtain⟨d,w8,_⟩:=We w5 hf6 w7 (by omega) k (by omega) t.2.2.length 0 k (List.replicate t.2.2.length false) (by omega) (by omega) (by simp)
 have w1:nR k k ns [] [] 0=_:=w1;have w4:nS k k t.2.2 t.1 t.2.1 t.2.2 ns 0 [] [] [] [] fr to 0=_:=w4;have w8:iR k k O En H E (List.replicate t.2.2.length false) 0=_:=w8;refine⟨O,En,H,E,d,?_⟩;simp only [go_sem,qB,hN,hT,FK,FJ,w1,w4,Da,w7,Iq t.2.2.length false (by omega),DD (List.length_replicate (n:=t.2.2.length) (a:=false)),w8]
end
theorem za(q:Nat)(A:AS):∀ k l i,lS q k A (A.length:Int) l i=gA q k A l i
 |0,_,_=>rfl
 |k + 1,l,i=>by simp only [lS,gA,za q A k];cases bK A i<;>rfl
theorem st2(q:Nat)(ns:List eg):∀ k l i,lT q k ns (ns.length:Int) l i=fF q k ns l i
 |0,_,_=>rfl
 |k + 1,l,i=>by simp only [lT,fF,aa,st2 q ns k];cases bK ns i<;>rfl
theorem Tn(k:Nat)(ns:List eg)(A:AS):qp k ns A=np k A ns:=by simp only [qp,np,za,st2]
theorem Tm(A:AS)(ns:List eg)(ha:A.length≤4)(hn:ns.length≤1401){k:Nat}(hk:2000≤k):∃ l:XI,np k A ns=some (l,())∧l.length≤20000:=by
 have l0:∀(m s k':Nat) (l:XI),m + s=A.length→m < k'→l.length≤2 * s→∃ l',gA k k' A l (s:Int)=some (l',())∧l'.length≤8:=by
  intro m;induction m with
  |zero=>
   intro s k' l h hk' hl;obtain⟨k',rfl⟩:∃ j,k' = j + 1:=⟨k' - 1,by omega⟩
   have h2:¬ s < A.length:=by omega
   exact⟨l,by simp only [go_sem,gA,Int.ofNat_lt,h2],by omega⟩
  |succ m ih=>
   intro s k' l h hk' hl;obtain⟨k',rfl⟩:∃ j,k' = j + 1:=⟨k' - 1,by omega⟩
   have bq:s < A.length:=by omega
   obtain⟨l',e1,e2⟩:=ih (s + 1) k' (l ++ [dP (A[s].2 - 1),A[s].2]) (by omega) (by omega) (by simp;omega)
   have ha:lM l [dP (A[s].2 - 1),A[s].2]=some (l ++ [dP (A[s].2 - 1),A[s].2]):=qJ (by simp;omega)
   exact⟨l',by simp only [go_sem,gA,Int.ofNat_lt,bq,cV bq,ha,ag (show s < _ by omega),e1],e2⟩
 have l2:∀(m s k':Nat) (l:XI),m + s=ns.length→m < k'→l.length≤8 + 6 * s→∃ l',fF k k' ns l (s:Int)=some (l',())∧l'.length≤20000:=by
  intro m;induction m with
  |zero=>
   intro s k' l h hk' hl;obtain⟨k',rfl⟩:∃ j,k' = j + 1:=⟨k' - 1,by omega⟩
   have h2:¬ s < ns.length:=by omega
   exact⟨l,by simp only [go_sem,fF,Int.ofNat_lt,h2],by omega⟩
  |succ m ih=>
   intro s k' l h hk' hl;obtain⟨k',rfl⟩:∃ j,k' = j + 1:=⟨k' - 1,by omega⟩
   have bq:s < ns.length:=by omega
   cases h24:(ns[s].1 == 24) with
   |false=>
    obtain⟨l',e1,e2⟩:=ih (s + 1) k' l (by omega) (by omega) (by omega)
    exact⟨l',by simp only [go_sem,fF,aa,Int.ofNat_lt,bq,cV bq,h24,ag (show s < _ by omega),e1],e2⟩
   |true=>
    have ha:∀ a b c d e f:Int,lM l [a,b,c,d,e,f]=some (l ++ [a,b,c,d,e,f]):=fun a b c d e f=>qJ (by simp;omega)
    obtain⟨l',e1,e2⟩:=ih (s + 1) k' (l ++ [dP (ns[s].2.2.1 - 1),ns[s].2.2.1,dP (ns[s].2.2.1 + 1),dP (dP (0 - ns[s].2.2.1) - 1),dP (0 - ns[s].2.2.1),dP (1 - ns[s].2.2.1)]) (by omega) (by omega) (by simp;omega)
    exact⟨l',by simp only [go_sem,fF,aa,Int.ofNat_lt,bq,cV bq,h24,ha,ag (show s < _ by omega),e1],e2⟩
 obtain⟨a,e1,e2⟩:=l0 A.length 0 k [] rfl (by omega) (by simp)
 obtain⟨b,e3,e4⟩:=l2 ns.length 0 k a rfl (by omega) (by omega)
 have e1:gA k k A [] 0=_:=e1;have e3:fF k k ns a 0=_:=e3;exact⟨b,by simp only [go_sem,np,e1,e3],e4⟩
theorem Tl(ck:ao):Ev fun k=>∃ l:XI,mn k ck=some (l,())∧kj k ck=some (l,())∧l.length≤20000:=by
 rcases S5 ck with ⟨ns,hT,he⟩ |⟨c,p,hc,he⟩
 ·rcases Tq hT with ⟨c,p,hc,hN⟩ |⟨t,D,hp,Fl,hN⟩
  ·refine(he.and hN).mono fun k e=>⟨[],?_,?_,by simp⟩
   ·simp only [go_sem,mn,aa,qB,e.2.2 ck e.1.1,bne_iff_ne.2 hc]
   ·simp only [go_sem,kj,wu,e.1.2,e.2.1,bne_iff_ne.2 hc]
  ·have hl:ns.length≤1401:=hT.len
   refine((he.and hN).and (((Vj hp hT.all Fl hl).and (Vu hp hT.all Fl hl)).and (⟨2000,fun k hk=>hk⟩:Ev fun k=>2000≤k))).mono fun k e=>?_;obtain⟨⟨⟨e1,e2⟩,e3,e4⟩,⟨e5,e6⟩,hk⟩:=e;obtain⟨ki,pl,O,En,H,E,la,out,d,w1⟩:=e5 ck e2 e3;obtain⟨O',En',H',E',d',w2⟩:=e6 ck e1 (e4 ck e1);obtain⟨l,w3,w4⟩:=Tm t.1 ns hp.ir.a hl hk;refine⟨l,?_,?_,w4⟩
   ·simp only [go_sem,mn,aa,w2,w3]
   ·simp only [go_sem,kj,w1,Tn,w3]
 ·refine he.mono fun k e=>⟨[],?_,?_,by simp⟩
  ·simp only [go_sem,mn,aa,qB,gG,e.1,bne_iff_ne.2 hc]
  ·simp only [go_sem,kj,wu,e.2,bne_iff_ne.2 hc]
theorem YG(a:XI)(hl:a.length≤100000){k:Nat}(hk:100001≤k):uT k a a=some (true,()):=by
 have key:∀(m s k':Nat),m + s=a.length→m < k'→mD k k' a a (s:Int)=some (.inl ()):=by
  intro m;induction m with
  |zero=>
   intro s k' h hk';obtain⟨k',rfl⟩:∃ j,k' = j + 1:=⟨k' - 1,by omega⟩
   have h2:¬ s < a.length:=by omega
   simp only [go_sem,mD,Int.ofNat_lt,h2]
  |succ m ih=>
   intro s k' h hk';obtain⟨k',rfl⟩:∃ j,k' = j + 1:=⟨k' - 1,by omega⟩
   have bq:s < a.length:=by omega
   simp only [go_sem,mD,Int.ofNat_lt,bq,cV bq,ag (show s < _ by omega),ih (s + 1) k' (by omega) (by omega)]
 have e:mD k k a a 0=_:=key a.length 0 k rfl (by omega)
 simp only [go_sem,uT,e]
def Pm(n:Nat):XI:=(List.range n).map fun i=>((i + 1:Nat):Int)
theorem Dr(n:Nat):(Pm n).length=n:=by simp [Pm]
theorem Xj(n:Nat):Pm (n + 1)=Pm n ++ [((n + 1:Nat):Int)]:=by simp [Pm,List.range_succ]
theorem aef(a:XI)(hl:a.length≤100000){k:Nat}(hk:100001≤k):uw k a 1=some (((a.length + 1:Nat):Int),Pm a.length,()):=by
 have key:∀(m s k':Nat),m + s=a.length→m < k'→kw k k' (Pm s ++ a.drop s) ((s + 1:Nat):Int) (s:Int)=some (Pm a.length,((a.length + 1:Nat):Int),()):=by
  intro m;induction m with
  |zero=>
   intro s k' h hk';obtain⟨k',rfl⟩:∃ j,k' = j + 1:=⟨k' - 1,by omega⟩
   have hs:s=a.length:=by omega
   subst hs;have h2:¬ a.length < (Pm a.length ++ a.drop a.length).length:=by simp [Dr]
   simp only [go_sem,kw,Int.ofNat_lt,h2];simp
  |succ m ih=>
   intro s k' h hk';obtain⟨k',rfl⟩:∃ j,k' = j + 1:=⟨k' - 1,by omega⟩
   have bq:s < a.length:=by omega
   have Lg:s < (Pm s ++ a.drop s).length:=by simp [Dr];omega
   have Ie:(Pm s ++ a.drop s).set s ((s + 1:Nat):Int)=Pm (s + 1) ++ a.drop (s + 1):=by rw [List.set_append_right _ _ (by rw [Dr];omega),Dr,Nat.sub_self,List.drop_eq_getElem_cons bq,List.set_cons_zero,Xj,List.append_assoc];rfl
   simp only [go_sem,kw,Int.ofNat_lt,Lg,cV Lg,Int.toNat_natCast,Ie,ag (show s + 1 < _ by omega),ag (show s < _ by omega),ih (s + 1) k' (by omega) (by omega)]
 have e:kw k k a 1 0=_:=key a.length 0 k rfl (by omega)
 simp only [go_sem,uw,e]
theorem aaW(n:Nat)(hl:n≤100000){k:Nat}(hk:100001≤k):rh k (Pm n) 1=some (((n + 1:Nat):Int),()):=by
 have key:∀(m s k':Nat),m + s=n→m < k'→kv k k' (Pm n) ((s + 1:Nat):Int) (s:Int)=some (.inl (((n + 1:Nat):Int),())):=by
  intro m;induction m with
  |zero=>
   intro s k' h hk';obtain⟨k',rfl⟩:∃ j,k' = j + 1:=⟨k' - 1,by omega⟩
   have hs:s=n:=by omega
   subst hs;have h2:¬ s < (Pm s).length:=by rw [Dr];omega
   simp only [go_sem,kv,Int.ofNat_lt,h2]
  |succ m ih=>
   intro s k' h hk';obtain⟨k',rfl⟩:∃ j,k' = j + 1:=⟨k' - 1,by omega⟩
   have Lg:s < (Pm n).length:=by rw [Dr];omega
   have hv:(Pm n)[s]=((s + 1:Nat):Int):=by simp [Pm]
   simp only [go_sem,kv,Int.ofNat_lt,Lg,cV Lg,hv,ag (show s + 1 < _ by omega),ag (show s < _ by omega),ih (s + 1) k' (by omega) (by omega)]
 have e:kv k k (Pm n) 1 0=_:=key n 0 k rfl (by omega)
 simp only [go_sem,rh,e]
theorem Jt(ck:ao):∃ k,lh k ck=some (true,()):=by
 by_cases hb:(ck.length:Int) > 1048576
 ·exact⟨0,by simp only [go_sem,lh,hb]⟩
 ·refine Ev.vE (((Tl ck).and (⟨100001,fun k hk=>hk⟩:Ev fun k=>100001≤k)).mono fun k e=>?_)
  obtain⟨⟨l,e1,e2,hl⟩,hk⟩:=e;have h1:decide ((((l.length + 1:Nat):Int)) < 0)=false:=decide_eq_false (by omega)
  simp only [go_sem,lh,hb,e1,e2,YG l (by omega) hk,aef l (by omega) hk,aaW l.length (by omega) hk,h1]
end Go.Fx.R5
