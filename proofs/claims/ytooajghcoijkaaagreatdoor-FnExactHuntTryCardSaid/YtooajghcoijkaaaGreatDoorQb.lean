/- Proved here: laws.FnExactHuntTry returns true at every input (the tied card), no condition beyond the card. -/
import Derived.Test.YtooajghcoijkaaaGreatDoorQa
set_option linter.unusedVariables false
set_option linter.unusedSimpArgs false
set_option linter.unusedSectionVars false
set_option maxRecDepth 100000
namespace Go.Fx.R5
open Go Go.Fx
section
variable {t:yE} {fn:an} {ns:List eq} {P:Int} {Is Rs:XS} {B:Int}
structure Iy(t:yE)(fn:an)(ns:List eq)(P:Int)(Is Rs:XS)(B:Int)(i:Nat)(K:XI):Prop where
 v:∀ j∈K,0≤j∧j < (ns.length:Int)
 l:K.length≤5000
 n:∀ j∈K,j < (i:Int)∧NB t fn ns P Is Rs B j.toNat
theorem G9{i:Nat}{x:eq}(hx:ns[i]? = some x){l:XS}{c p:Int}(hp:c=0→p=0)
  (he:Ev fun k=>∀ D,J1 l D→Re l c p (aS (bI k) (ck k) (bU k) k k ns t.1 t.2.1 t.2.2 fn P Is Rs B x.2.2.2.2 (x.2.2.2.2.length:Int) 0 0 D 0)):
  Ev fun k=>∀ D,J1 l D→Zo l c p (bI k ns t.1 t.2.1 t.2.2 fn P Is Rs B D (i:Int)):=
 Ev.succ (he.mono fun k e D hr=>by
  obtain⟨bm,e1,e2⟩:=e D hr;refine⟨bm,?_,e2⟩;rw [UL];simp only [go_sem,kj,bj hx,e1];by_cases h0:c=0
  ·simp only [if_pos h0];rw [h0,hp h0]
  ·simp only [if_neg h0])
theorem FZ{c a:Int}(h:c≠0):KQ c a=a:=if_neg h
theorem Ym(ht:iD t){i:Nat}{x:eq}(hx:ns[i]? = some x)(h9:x.1≠9)(Dd:x.1≠22)(JE:x.1≠12)(E6:x.1≠16)(IH:Iy t fn ns P Is Rs B i x.2.2.2.2):NB t fn ns P Is Rs B i:=by
 intro l hli;have js:=Vm (fn:=fn) ht (l:=l) (by omega) hx
 have kU:=Ge (fn:=fn) ht l x;simp only [if_neg h9] at kU;have g9:=beq_eq_false_iff_ne.2 h9;have g22:=beq_eq_false_iff_ne.2 Dd;have g12:=beq_eq_false_iff_ne.2 JE;have g16:=beq_eq_false_iff_ne.2 E6;by_cases h0:oD t fn l x=0
 ·obtain⟨c,p,hc,he⟩:=Av (nm:=x.2.2.2.1) g16 IH.v (by have:=IH.l;omega) hli x.2.2.2.2.length 0 rfl (fun j hj=>IH.n j (by simpa using hj))
  refine⟨c,p,fun hz=>⟨(hc hz).1,GO.mk i x hx (by simpa using (hc hz).2) (fun h=>absurd h Dd) (fun h=>absurd h JE)⟩,?_⟩
  have heS:=(he.mono fun _ _ e=>e.1).jN;have heI:=G9 hx (fun hz=>(hc hz).1) (he.mono fun _ _ e=>e.2).jN;refine Ev.succ ((js.and (kU.and (heS.and heI))).mono fun k e=>?_);obtain⟨e1,e2,⟨bl,e3,e4,e5⟩,e6⟩:=e;refine⟨⟨bl,?_,by omega,e5⟩,fun D hr=>?_⟩
  ·rw [nJ]
   rw [h0] at e1;simp only [go_sem,cH,bj hx,g9,g22,g12,g16,e1,aa,show KQ 0 x.2.1=0 from rfl,show bK _ _ _ k k x.1 x.2.2.2.1 x.2.2.2.2 t.1 t.2.1 t.2.2 ns fn l 0 0 0=_ from e3]
  ·obtain⟨bm,e7,e8⟩:=e6 D hr
   refine⟨bm,?_,e8⟩;have e2:=e2 D hr;rw [h0] at e2;rw [kh];simp only [go_sem,a6,bj hx,aa,g9,g22,g12,g16,e2,e7]
 ·refine⟨oD t fn l x,x.2.1,fun hz=>absurd hz h0,Ev.succ ((js.and (kU.and (⟨5002,fun k hk=>hk⟩:Ev fun k=>5002≤k))).mono fun k e=>?_)⟩
  obtain⟨e1,e2,hk⟩:=e;have zA:=IH.l;obtain⟨j,rfl⟩:∃ j,k=j + 1:=⟨k - 1,by omega⟩
  refine⟨⟨l,?_,by omega,fun _=>rfl⟩,fun D hr=>⟨D,?_,fun _=>hr⟩⟩
  ·rw [nJ (j + 1)]
   rw [FZ h0] at e1;have ef:=JD (t:=t) (fn:=fn) (ns:=ns) (p:=x.2.1) h0 g16 (nm:=x.2.2.2.1) IH.v (by omega) j x.2.2.2.2.length 0 (j + 1) l rfl (by omega)
   simp only [go_sem,cH,bj hx,g9,g22,g12,g16,e1,aa];rw [show bK _ _ _ (j + 1) (j + 1) x.1 x.2.2.2.1 x.2.2.2.2 t.1 t.2.1 t.2.2 ns fn l (oD t fn l x) x.2.1 0=_ from ef]
   simp only [go_sem]
  ·have e2:=e2 D hr
   rw [kh (j + 1)];simp only [go_sem,a6,bj hx,aa,g9,e2,bne_iff_ne.2 h0]
theorem Gk{K:XI}{n:Nat}{j:Int}(hv:∀ j∈K,0≤j∧j < (ns.length:Int))(h:K[n]? = some j):∃ y,bH K (n:Int)=some j∧bH ns j=some y∧ns[j.toNat]? = some y∧kd ns j=y.1∧((j.toNat:Nat):Int)=j:=by have hj:=hv j (List.mem_of_getElem? h);obtain⟨y,e1,e2,e3⟩:=uB hj.1 hj.2;exact⟨y,bj h,e3,e1,e2,Int.toNat_of_nonneg hj.1⟩
theorem ada(ht:iD t){c p:Int}(hc:c≠0){x:eq}{K:XI}(hxK:x.2.2.2.2=K){u:Int}(hu:K[0]? = some u)(hv:∀ j∈K,0≤j∧j < (ns.length:Int))(hl:K.length≤5000)(l:XS):
  Ev fun k=>eG k t.1 t.2.1 t.2.2 ns fn l c p x=some (l,c,p,()):=by
 subst hxK;obtain⟨y,e1,e2,e3,e4,e5⟩:=Gk hv hu;have e1:bH x.2.2.2.2 0=some u:=e1;refine Ev.succ (((Vo (fn:=fn) hc ht y.2.2.2.1 y.2.1 5 5 (p:=p)).and ((T6 ht fn y.2.2.2.1).and (⟨5002,fun k hk=>hk⟩:Ev fun k=>5002≤k))).mono fun k e=>?_);obtain⟨w1,w2,hk⟩:=e;obtain⟨j,rfl⟩:∃ j,k=j + 1:=⟨k - 1,by omega⟩
 have vO:0 < x.2.2.2.2.length:=(List.getElem?_eq_some_iff.1 hu).1;have ef:=JD (t:=t) (fn:=fn) (ns:=ns) (p:=p) hc (Kd:=0) rfl (nm:=[]) hv (by omega) j (x.2.2.2.2.length - 1) 1 (j + 1) l (by omega) (by omega)
 rw [←Ae (j + 1) 0 rfl []] at ef;have ef:iC (dD (j + 1)) (dz (j + 1)) (eG (j + 1)) (j + 1) (j + 1) x.2.2.2.2 t.1 t.2.1 t.2.2 ns fn l c p 1=_:=ef;rw [La (j + 1)];simp only [go_sem,lO,e1,e2,w1,show cM (j + 1) (t.1,t.2.1,t.2.2) fn y.2.2.2.1=_ from w2,aa,cj,beq_eq_false_iff_ne.2 hc,ef]
 by_cases h5:(nk t fn y.2.2.2.1).1=5
 ·obtain⟨n,f,n1,n2,_⟩:=nk5 h5
  rw [n1];simp only [go_sem,h5,bj n2];cases (f.2.1 != dq ((x.2.2.2.2.length:Int) - 1))<;>rfl
 ·simp only [go_sem,beq_eq_false_iff_ne.2 h5]
theorem Z0(ht:iD t){i:Nat}{x:eq}(hx:ns[i]? = some x)(hn:nO ns i x)(fo:jl ns)(Dd:x.1=22)(IH:Iy t fn ns P Is Rs B i x.2.2.2.2):NB t fn ns P Is Rs B i:=by
 intro l hli;have js:=Vm (fn:=fn) ht (l:=l) (by omega) hx
 have kU:=Ge (fn:=fn) ht l x;have dn:=hn.shp;rw [Dd] at dn;obtain⟨u,r,hK⟩:∃ u r,x.2.2.2.2=u :: r:=by
  cases h:x.2.2.2.2 with
  |nil=>rw [h] at dn;simp [b9] at dn
  |cons u r=>exact⟨u,r,rfl⟩
 have hu:x.2.2.2.2[0]? = some u:=by rw [hK];rfl
 have Kv:kd ns u=23:=by rw [hK] at dn;simp [b9] at dn;exact dn.1
 obtain⟨y,e1,e2,e3,e4,e5⟩:=Gk IH.v hu;have e1:bH x.2.2.2.2 0=some u:=e1;rw [e4] at Kv;have hyk:y.2.2.2.2 = []:=by have:=(fo _ _ e3).shp;rw [Kv] at this;simpa [b9] using this
 have hoc:oD t fn l x=GV t fn l x.2.2.2.1 3 2:=by simp only [oD,Dd,Int.reduceEq,reduceIte,or_true,or_self]
 rw [hoc] at js;simp only [Dd,show ¬ (22:Int)=9 by decide,if_false,hoc] at kU
 generalize GV t fn l x.2.2.2.1 3 2=c0 at js kU;have zA:=IH.l;have afL:l.length≤4000:=by omega
 by_cases h0:c0=0
 rotate_left
 ·refine⟨c0,x.2.1,fun hz=>absurd hz h0,Ev.succ ((js.and (kU.and (ada (fn:=fn) ht (p:=x.2.1) h0 rfl hu IH.v IH.l l))).mono fun k e=>?_)⟩
  obtain⟨w1,w2,w3⟩:=e;rw [FZ h0] at w1;refine⟨⟨l,?_,by omega,fun _=>rfl⟩,fun D hr=>⟨D,?_,fun _=>hr⟩⟩
  ·rw [nJ];simp only [go_sem,cH,bj hx,Dd,show((22:Int) == 9)=false from rfl,show((22:Int) == 12)=false from rfl,show((22:Int) == 22)=true from rfl,show((22:Int) == 16)=false from rfl,w1,w3]
  ·rw [kh];simp only [go_sem,a6,bj hx,aa,Dd,show((22:Int) == 9)=false from rfl,show((22:Int) == 12)=false from rfl,show((22:Int) == 22)=true from rfl,show((22:Int) == 16)=false from rfl,w2 D hr,bne_iff_ne.2 h0]
 subst h0;have hW:=DK (fn:=fn) ht y.2.2.2.1 y.2.1 5 5;have hM:=D4 (fn:=fn) ht y.2.2.2.1 5;have hN:=T6 ht fn y.2.2.2.1;have hNi:=XW ht fn y.2.2.2.1;have vO:0 < x.2.2.2.2.length:=by rw [hK];simp
 by_cases hw:W t fn y.2.2.2.1 5 5=0
 rotate_left
 ·have hn5:¬ (nk t fn y.2.2.2.1).1=5:=fun h=>hw (by simp [W,h])
  have hE:Ev fun k=>eG k t.1 t.2.1 t.2.2 ns fn l 0 0 x=some (l,W t fn y.2.2.2.1 5 5,y.2.1,()):=Ev.succ ((hW.and (hN.and (⟨5002,fun k hk=>hk⟩:Ev fun k=>5002≤k))).mono fun k e=>by
   obtain⟨w1,w2,hk⟩:=e;obtain⟨j,rfl⟩:∃ j,k=j + 1:=⟨k - 1,by omega⟩
   have ef:=JD (t:=t) (fn:=fn) (ns:=ns) (p:=y.2.1) hw (Kd:=0) rfl (nm:=[]) IH.v (by omega) j (x.2.2.2.2.length - 1) 1 (j + 1) l (by omega) (by omega)
   rw [←Ae (j + 1) 0 rfl []] at ef;have ef:iC (dD (j + 1)) (dz (j + 1)) (eG (j + 1)) (j + 1) (j + 1) x.2.2.2.2 t.1 t.2.1 t.2.2 ns fn l (W t fn y.2.2.2.1 5 5) y.2.1 1=_:=ef;rw [FZ hw] at w1;rw [La (j + 1)];simp only [go_sem,lO,e1,e2,w1,show cM (j + 1) (t.1,t.2.1,t.2.2) fn y.2.2.2.1=_ from w2,aa,beq_eq_false_iff_ne.2 hn5,ef])
  refine⟨W t fn y.2.2.2.1 5 5,y.2.1,fun hz=>absurd hz hw,Ev.succ ((js.and (kU.and (hE.and hM))).mono fun k e=>?_)⟩;obtain⟨w1,w2,w3,w4⟩:=e;refine⟨⟨l,?_,by omega,fun _=>rfl⟩,fun D hr=>⟨D,?_,fun _=>hr⟩⟩
  ·rw [nJ];simp only [go_sem,cH,bj hx,Dd,show((22:Int) == 9)=false from rfl,show((22:Int) == 12)=false from rfl,show((22:Int) == 22)=true from rfl,show((22:Int) == 16)=false from rfl,w1,show KQ 0 x.2.1=0 from rfl,w3]
  ·rw [kh];simp only [go_sem,a6,kV,bj hx,aa,Dd,show((22:Int) == 9)=false from rfl,show((22:Int) == 12)=false from rfl,show((22:Int) == 22)=true from rfl,show((22:Int) == 16)=false from rfl,w2 D hr,e1,e2,w4,bne_iff_ne.2 hw]
 have h5:(nk t fn y.2.2.2.1).1=5:=(WP hw).elim id id;obtain⟨n,f,n1,n2,n3⟩:=nk5 h5;by_cases ZL:f.2.1=dq ((x.2.2.2.2.length:Int) - 1)
 rotate_left
 ·have CF:(f.2.1 != dq ((x.2.2.2.2.length:Int) - 1))=true:=bne_iff_ne.2 ZL
  have LZ:(dq ((x.2.2.2.2.length:Int) - 1) != f.2.1)=true:=bne_iff_ne.2 (Ne.symm ZL);have hE:Ev fun k=>eG k t.1 t.2.1 t.2.2 ns fn l 0 0 x=some (l,12,y.2.1,()):=Ev.succ ((hW.and (hN.and (⟨5002,fun k hk=>hk⟩:Ev fun k=>5002≤k))).mono fun k e=>by
   obtain⟨w1,w2,hk⟩:=e;obtain⟨j,rfl⟩:∃ j,k=j + 1:=⟨k - 1,by omega⟩
   have ef:=JD (t:=t) (fn:=fn) (ns:=ns) (c:=12) (p:=y.2.1) (by decide) (Kd:=0) rfl (nm:=[]) IH.v (by omega) j (x.2.2.2.2.length - 1) 1 (j + 1) l (by omega) (by omega)
   rw [←Ae (j + 1) 0 rfl []] at ef;have ef:iC (dD (j + 1)) (dz (j + 1)) (eG (j + 1)) (j + 1) (j + 1) x.2.2.2.2 t.1 t.2.1 t.2.2 ns fn l 12 y.2.1 1=_:=ef;rw [hw] at w1;rw [La (j + 1)];simp only [go_sem,lO,e1,e2,w1,show KQ 0 y.2.1=0 from rfl,show cM (j + 1) (t.1,t.2.1,t.2.2) fn y.2.2.2.1=_ from w2,aa,h5,n1,bj n2,CF,cj,ef])
  refine⟨12,y.2.1,fun hz=>absurd hz (by decide),Ev.succ ((js.and (kU.and (hE.and (hM.and hNi)))).mono fun k e=>?_)⟩
  obtain⟨w1,w2,w3,w4,w5⟩:=e;rw [hw] at w4;refine⟨⟨l,?_,by omega,fun _=>rfl⟩,fun D hr=>⟨D,?_,fun _=>hr⟩⟩
  ·rw [nJ];simp only [go_sem,cH,bj hx,Dd,show((22:Int) == 9)=false from rfl,show((22:Int) == 12)=false from rfl,show((22:Int) == 22)=true from rfl,show((22:Int) == 16)=false from rfl,w1,show KQ 0 x.2.1=0 from rfl,w3]
  ·rw [kh];simp only [go_sem,a6,kV,bj hx,aa,Dd,show((22:Int) == 9)=false from rfl,show((22:Int) == 12)=false from rfl,show((22:Int) == 22)=true from rfl,show((22:Int) == 16)=false from rfl,w2 D hr,e1,e2,w4,show fE k (t.1,t.2.1,t.2.2) fn y.2.2.2.1=_ from w5,n1,bj n2,LZ,show((12:Int) != 0)=true from rfl]
 have CF:(f.2.1 != dq ((x.2.2.2.2.length:Int) - 1))=false:=by rw [ZL];simp
 have LZ:(dq ((x.2.2.2.2.length:Int) - 1) != f.2.1)=false:=by rw [ZL];simp
 obtain⟨c,p,hc,he⟩:=Av (Kd:=0) rfl (nm:=[]) IH.v (by omega) hli (x.2.2.2.2.length - 1) 1 (by omega) (fun j hj=>IH.n j (List.mem_of_mem_drop hj))
 have hus:=Po (P:=P) (Is:=Is) (Rs:=Rs) (B:=B) (fn:=fn) ht e3 Kv hyk l;rw [e5] at hus;have heS:Ev fun k=>Ti l i c p (iC (dD k) (dz k) (eG k) k k x.2.2.2.2 t.1 t.2.1 t.2.2 ns fn l 0 0 1):=(he.mono fun _ _ e=>e.1).jN.mono fun k e=>by rw [Ae k 0 rfl []];exact e
 have heL:Ev fun k=>∀ D,J1 l D→Re l c p (aS (bI k) (ck k) (bU k) k k ns t.1 t.2.1 t.2.2 fn P Is Rs B x.2.2.2.2 (x.2.2.2.2.length:Int) 0 0 D 0):=
  co.jN (p2:=fun q k=>∀ D,J1 l D→Re l c p (aS (bI q) (ck q) (bU q) q k ns t.1 t.2.1 t.2.2 fn P Is Rs B x.2.2.2.2 (x.2.2.2.2.length:Int) 0 0 D 0)) (co.succ ((hus.tX.and (he.mono fun _ _ e=>e.2)).mono fun q k e D hr=>by
   have:=e.2 D hr;simp only [go_sem,aS,show decide ((0:Int) < (x.2.2.2.2.length:Int))=true from decide_eq_true (by omega),e1,e.1 D hr,show dq (0 + 1)=1 from rfl]
   exact this))
 have heI:=G9 (i:=i) hx (fun hz=>(hc hz).1) heL;have hE:Ev fun k=>Ti l i c p (eG k t.1 t.2.1 t.2.2 ns fn l 0 0 x):=Ev.succ ((hW.and (hN.and heS)).mono fun k e=>by
  obtain⟨w1,w2,bl,w3,w4,w5⟩:=e;rw [hw] at w1;refine⟨bl,?_,w4,w5⟩;rw [La];simp only [go_sem,lO,e1,e2,w1,show KQ 0 y.2.1=0 from rfl,show cM k (t.1,t.2.1,t.2.2) fn y.2.2.2.1=_ from w2,aa,h5,n1,bj n2,CF,w3])
 refine⟨c,p,fun hz=>⟨(hc hz).1,GO.mk i x hx (fun j hj=>?_) (fun _ v hv=>?_) (fun h=>absurd (Dd.symm.trans h) (by decide))⟩,Ev.succ ((js.and (kU.and (hE.and (hM.and (hNi.and heI))))).mono fun k e=>?_)⟩
 ·rw [hK] at hj
  rcases List.mem_cons.1 hj with rfl | hj
  ·exact GO.mk _ y e3 (by rw [hyk];simp) (fun h=>absurd (Kv.symm.trans h) (by decide)) (fun h=>absurd (Kv.symm.trans h) (by decide))
  ·exact(hc hz).2 j (by rw [hK];exact hj)
 ·rw [hK] at hv
  simp only [List.head?_cons,Option.some.injEq] at hv;subst hv;simp only [Du,e3];exact h5
 ·obtain⟨w1,w2,⟨bl,w3,w3',afz⟩,w4,w5,w6⟩:=e
  rw [hw] at w4;refine⟨⟨bl,?_,by omega,afz⟩,fun D hr=>?_⟩
  ·rw [nJ];simp only [go_sem,cH,bj hx,Dd,show((22:Int) == 9)=false from rfl,show((22:Int) == 12)=false from rfl,show((22:Int) == 22)=true from rfl,show((22:Int) == 16)=false from rfl,w1,show KQ 0 x.2.1=0 from rfl,w3]
  ·obtain⟨bm,w7,w8⟩:=w6 D hr
   refine⟨bm,?_,w8⟩;rw [kh];simp only [go_sem,a6,kV,bj hx,aa,Dd,show((22:Int) == 9)=false from rfl,show((22:Int) == 12)=false from rfl,show((22:Int) == 22)=true from rfl,show((22:Int) == 16)=false from rfl,w2 D hr,e1,e2,w4,show fE k (t.1,t.2.1,t.2.2) fn y.2.2.2.1=_ from w5,n1,bj n2,LZ,w7]
end
end Go.Fx.R5
namespace Go.Fx.R5
open Go Go.Fx
section
variable {t:yE} {fn:an} {ns:List eq} {P:Int} {Is Rs:XS} {B:Int}
theorem ZZ(ht:iD t){i:Nat}{x:eq}(hx:ns[i]? = some x)(hn:nO ns i x)(fo:jl ns)(JE:x.1=12)(IH:Iy t fn ns P Is Rs B i x.2.2.2.2):NB t fn ns P Is Rs B i:=by
 intro l hli;have js:=Vm (fn:=fn) ht (l:=l) (by omega) hx
 have kU:=Ge (fn:=fn) ht l x;have dn:=hn.shp;rw [JE] at dn;obtain⟨u,r,hK⟩:∃ u r,x.2.2.2.2=u :: r:=by
  cases h:x.2.2.2.2 with
  |nil=>rw [h] at dn;simp [b9] at dn
  |cons u r=>exact⟨u,r,rfl⟩
 have hu:x.2.2.2.2[0]? = some u:=by rw [hK];rfl
 have Kv:kd ns u=23:=by
  rw [hK] at dn;cases r with
  |nil=>simp [b9] at dn
  |cons v r=>cases r with
   |nil=>simp [b9] at dn;exact dn.1
   |cons w r=>simp [b9] at dn
 obtain⟨y,e1,e2,e3,e4,e5⟩:=Gk IH.v hu;have e1:bH x.2.2.2.2 0=some u:=e1;rw [e4] at Kv;have hyk:y.2.2.2.2 = []:=by have:=(fo _ _ e3).shp;rw [Kv] at this;simpa [b9] using this
 simp only [JE,show ¬ (12:Int)=9 by decide,if_false] at kU
 generalize oD t fn l x=c0 at js kU;have zA:=IH.l;have vO:0 < x.2.2.2.2.length:=by rw [hK];simp
 have hM:=D4 (fn:=fn) ht y.2.2.2.1 1;have g16:((12:Int) == 16)=false:=rfl;by_cases h0:c0=0
 rotate_left
 ·refine⟨c0,x.2.1,fun hz=>absurd hz h0,Ev.succ ((js.and (kU.and ((Vo (fn:=fn) h0 ht y.2.2.2.1 y.2.1 1 1 (p:=x.2.1)).and (⟨5002,fun k hk=>hk⟩:Ev fun k=>5002≤k)))).mono fun k e=>?_)⟩
  obtain⟨w1,w2,w3,hk⟩:=e;rw [FZ h0] at w1;obtain⟨j,rfl⟩:∃ j,k=j + 1:=⟨k - 1,by omega⟩
  have ef:=JD (t:=t) (fn:=fn) (ns:=ns) (p:=x.2.1) h0 g16 (nm:=x.2.2.2.1) IH.v (by omega) j (x.2.2.2.2.length - 1) 1 (j + 1) l (by omega) (by omega)
  refine⟨⟨l,?_,by omega,fun _=>rfl⟩,fun D hr=>⟨D,?_,fun _=>hr⟩⟩
  ·rw [nJ (j + 1)];simp only [go_sem,cH,bj hx,JE,show((12:Int) == 9)=false from rfl,show((12:Int) == 12)=true from rfl,show((12:Int) == 22)=false from rfl,show((12:Int) == 16)=false from rfl,w1,aa,e1,e2,w3]
   rw [show bK _ _ _ (j + 1) (j + 1) 12 x.2.2.2.1 x.2.2.2.2 t.1 t.2.1 t.2.2 ns fn l c0 x.2.1 1=_ from ef]
   simp only [go_sem]
  ·rw [kh (j + 1)];simp only [go_sem,a6,bj hx,aa,JE,show((12:Int) == 9)=false from rfl,show((12:Int) == 12)=true from rfl,show((12:Int) == 22)=false from rfl,show((12:Int) == 16)=false from rfl,w2 D hr,bne_iff_ne.2 h0]
 subst h0;have hW:=DK (fn:=fn) ht y.2.2.2.1 y.2.1 1 1;by_cases hw:W t fn y.2.2.2.1 1 1=0
 rotate_left
 ·refine⟨W t fn y.2.2.2.1 1 1,y.2.1,fun hz=>absurd hz hw,Ev.succ ((js.and (kU.and (hW.and (hM.and (⟨5002,fun k hk=>hk⟩:Ev fun k=>5002≤k))))).mono fun k e=>?_)⟩
  obtain⟨w1,w2,w3,w4,hk⟩:=e;rw [FZ hw] at w3;obtain⟨j,rfl⟩:∃ j,k=j + 1:=⟨k - 1,by omega⟩
  have ef:=JD (t:=t) (fn:=fn) (ns:=ns) (p:=y.2.1) hw g16 (nm:=x.2.2.2.1) IH.v (by omega) j (x.2.2.2.2.length - 1) 1 (j + 1) l (by omega) (by omega)
  refine⟨⟨l,?_,by omega,fun _=>rfl⟩,fun D hr=>⟨D,?_,fun _=>hr⟩⟩
  ·rw [nJ (j + 1)];simp only [go_sem,cH,bj hx,JE,show((12:Int) == 9)=false from rfl,show((12:Int) == 12)=true from rfl,show((12:Int) == 22)=false from rfl,show((12:Int) == 16)=false from rfl,w1,show KQ 0 x.2.1=0 from rfl,aa,e1,e2,w3]
   rw [show bK _ _ _ (j + 1) (j + 1) 12 x.2.2.2.1 x.2.2.2.2 t.1 t.2.1 t.2.2 ns fn l (W t fn y.2.2.2.1 1 1) y.2.1 1=_ from ef]
   simp only [go_sem]
  ·rw [kh (j + 1)];simp only [go_sem,a6,bj hx,aa,JE,show((12:Int) == 9)=false from rfl,show((12:Int) == 12)=true from rfl,show((12:Int) == 22)=false from rfl,show((12:Int) == 16)=false from rfl,w2 D hr,e1,e2,w4,bne_iff_ne.2 hw]
 obtain⟨c,p,hc,he⟩:=Av (Kd:=12) rfl (nm:=x.2.2.2.1) IH.v (by omega) hli (x.2.2.2.2.length - 1) 1 (by omega) (fun j hj=>IH.n j (List.mem_of_mem_drop hj))
 have hus:=Po (P:=P) (Is:=Is) (Rs:=Rs) (B:=B) (fn:=fn) ht e3 Kv hyk l;rw [e5] at hus;have heS:=(he.mono fun _ _ e=>e.1).jN;have heL:Ev fun k=>∀ D,J1 l D→Re l c p (aS (bI k) (ck k) (bU k) k k ns t.1 t.2.1 t.2.2 fn P Is Rs B x.2.2.2.2 (x.2.2.2.2.length:Int) 0 0 D 0):=
  co.jN (p2:=fun q k=>∀ D,J1 l D→Re l c p (aS (bI q) (ck q) (bU q) q k ns t.1 t.2.1 t.2.2 fn P Is Rs B x.2.2.2.2 (x.2.2.2.2.length:Int) 0 0 D 0)) (co.succ ((hus.tX.and (he.mono fun _ _ e=>e.2)).mono fun q k e D hr=>by
   have:=e.2 D hr;simp only [go_sem,aS,show decide ((0:Int) < (x.2.2.2.2.length:Int))=true from decide_eq_true (by omega),e1,e.1 D hr,show dq (0 + 1)=1 from rfl]
   exact this))
 have heI:=G9 (i:=i) hx (fun hz=>(hc hz).1) heL;refine⟨c,p,fun hz=>⟨(hc hz).1,GO.mk i x hx (fun j hj=>?_) (fun h=>absurd (JE.symm.trans h) (by decide)) (fun _ v hv=>?_)⟩,Ev.succ ((js.and (kU.and (hW.and (hM.and (heS.and heI))))).mono fun k e=>?_)⟩
 ·rw [hK] at hj
  rcases List.mem_cons.1 hj with rfl | hj
  ·exact GO.mk _ y e3 (by rw [hyk];simp) (fun h=>absurd (Kv.symm.trans h) (by decide)) (fun h=>absurd (Kv.symm.trans h) (by decide))
  ·exact(hc hz).2 j (by rw [hK];exact hj)
 ·rw [hK] at hv
  simp only [List.head?_cons,Option.some.injEq] at hv;subst hv;simp only [Du,e3];exact(WP hw).elim id id
 ·obtain⟨w1,w2,w3,w4,⟨bl,w5,w5',afA⟩,w6⟩:=e
  rw [hw] at w4;rw [hw] at w3;refine⟨⟨bl,?_,by omega,afA⟩,fun D hr=>?_⟩
  ·rw [nJ];simp only [go_sem,cH,bj hx,JE,show((12:Int) == 9)=false from rfl,show((12:Int) == 12)=true from rfl,show((12:Int) == 22)=false from rfl,show((12:Int) == 16)=false from rfl,w1,show KQ 0 x.2.1=0 from rfl,show KQ 0 y.2.1=0 from rfl,aa,e1,e2,w3]
   rw [show bK _ _ _ k k 12 x.2.2.2.1 x.2.2.2.2 t.1 t.2.1 t.2.2 ns fn l 0 0 1=_ from w5]
   simp only [go_sem]
  ·obtain⟨bm,w7,w8⟩:=w6 D hr
   refine⟨bm,?_,w8⟩;rw [kh];simp only [go_sem,a6,bj hx,aa,JE,show((12:Int) == 9)=false from rfl,show((12:Int) == 12)=true from rfl,show((12:Int) == 22)=false from rfl,show((12:Int) == 16)=false from rfl,w2 D hr,e1,e2,w4,w7]
theorem acm(ht:iD t){i:Nat}{x:eq}(hx:ns[i]? = some x)(hn:nO ns i x)(fo:jl ns)(h9:x.1=9)(IH:Iy t fn ns P Is Rs B i x.2.2.2.2):NB t fn ns P Is Rs B i:=by
 intro l hli;have dn:=hn.shp;rw [h9] at dn;obtain⟨u,hK⟩:∃ u,x.2.2.2.2 = [u]:=by
  rcases h:x.2.2.2.2 with _ |⟨u,_ |⟨v,r⟩⟩
  ·rw [h] at dn;simp [b9] at dn
  ·exact⟨u,rfl⟩
  ·rw [h] at dn;simp [b9] at dn
 have hu:x.2.2.2.2[0]? = some u:=by rw [hK];rfl
 obtain⟨y,e1,e2,e3,e4,e5⟩:=Gk IH.v hu;have e1:bH x.2.2.2.2 0=some u:=e1;have hni:=IH.n u (by rw [hK];simp)
 have hN:=T6 ht fn x.2.2.2.1;have hNi:=XW ht fn x.2.2.2.1;by_cases h4:(nk t fn x.2.2.2.1).1=4
 ·
  have bM:y.1=25∨y.1=29→GO ns t fn u.toNat:=fun h=>by
   have hy:=(fo _ _ e3).shp;have hyk:y.2.2.2.2 = []:=by rcases h with h | h<;>(rw [h] at hy;simpa [b9] using hy)
   exact GO.mk _ y e3 (by rw [hyk];simp) (fun h'=>by rcases h with h | h<;>exact absurd (h.symm.trans h') (by decide)) (fun h'=>by rcases h with h | h<;>exact absurd (h.symm.trans h') (by decide))
  have chk:y.1=25∨y.1=29→GO ns t fn i:=fun h=>GO.mk i x hx (fun j hj=>by rw [hK] at hj;rw [List.mem_singleton.1 hj];exact bM h) (fun h'=>absurd (h9.symm.trans h') (by decide)) (fun h'=>absurd (h9.symm.trans h') (by decide))
  have hW:=DK (fn:=fn) ht y.2.2.2.1 y.2.1 4 4;have hM:=D4 (fn:=fn) ht y.2.2.2.1 4;have abE:∀ c p:Int,(c=0→p=0∧GO ns t fn i)→(Ev fun k=>dz k t.1 t.2.1 t.2.2 ns fn l 0 0 x=some (l,c,p,()))→(Ev fun k=>jz k ns t.1 t.2.1 t.2.2 fn x=some ((c,p),()))→
    ∃ c p,(c=0→p=0∧GO ns t fn i)∧Ev fun k=>Ti l (i + 1) c p (dD k t.1 t.2.1 t.2.2 ns fn l 0 0 (i:Int))∧∀ D,J1 l D→Zo l c p (ck k ns t.1 t.2.1 t.2.2 fn P Is Rs B D (i:Int)):=fun c p hc hS hI=>by
   refine⟨c,p,hc,Ev.succ ((hS.and (hI.and hNi)).mono fun k e=>?_)⟩;obtain⟨w1,w2,w3⟩:=e;refine⟨⟨l,?_,by omega,fun _=>rfl⟩,fun D hr=>⟨D,?_,fun _=>hr⟩⟩
   ·rw [nJ];simp only [go_sem,cH,bj hx,h9,w1]
   ·rw [kh];simp only [go_sem,a6,gC,bj hx,aa,h9,show fE k (t.1,t.2.1,t.2.2) fn x.2.2.2.1=_ from w3,h4,w2]
  by_cases y29:y.1=29
  ·refine abE 0 0 (fun _=>⟨rfl,chk (.inr y29)⟩) (Ev.succ (hN.mono fun k e=>?_)) (Ev.of fun k=>?_)
   ·rw [Eg];simp only [go_sem,ia,show cM k (t.1,t.2.1,t.2.2) fn x.2.2.2.1=_ from e,e1,e2,h4,aa,y29,show((29:Int) == 25)=false from rfl,show((29:Int) != 29)=false from rfl]
   ·simp only [go_sem,jz,e1,e2,y29]
  ·by_cases y25:y.1=25
   ·refine abE (W t fn y.2.2.2.1 4 4) (KQ (W t fn y.2.2.2.1 4 4) y.2.1) (fun hz=>⟨by simp [KQ,hz],chk (.inl y25)⟩) (Ev.succ ((hN.and hW).mono fun k e=>?_)) (hM.mono fun k e=>?_)
    ·rw [Eg];simp only [go_sem,ia,show cM k (t.1,t.2.1,t.2.2) fn x.2.2.2.1=_ from e.1,e1,e2,h4,aa,y25,e.2]
    ·simp only [go_sem,jz,e1,e2,y25,show((25:Int) == 29)=false from rfl,e]
     by_cases hw:W t fn y.2.2.2.1 4 4=0
     ·simp [hw,KQ]
     ·simp [hw,KQ,bne_iff_ne.2 hw]
   ·refine abE 11 x.2.1 (fun hz=>absurd hz (by decide)) (Ev.succ (hN.mono fun k e=>?_)) (Ev.of fun k=>?_)
    ·rw [Eg];simp only [go_sem,ia,show cM k (t.1,t.2.1,t.2.2) fn x.2.2.2.1=_ from e,e1,e2,h4,aa,beq_eq_false_iff_ne.2 y25,bne_iff_ne.2 y29,cj]
    ·simp only [go_sem,jz,e1,e2,beq_eq_false_iff_ne.2 y29,beq_eq_false_iff_ne.2 y25]
 ·
  have g4:((nk t fn x.2.2.2.1).1 == 4)=false:=beq_eq_false_iff_ne.2 h4;have I3:=abh (fn:=fn) ht (l:=l) (by omega) x.2.2.2.1 x.2.1
  have kU:=Ge (fn:=fn) ht l x;simp only [h9,if_true] at kU;generalize GV t fn l x.2.2.2.1 3 2=c0 at I3 kU;have g9:((9:Int) == 9)=true:=rfl;by_cases h0:c0=0
  rotate_left
  ·have hS:Ev fun k=>dz k t.1 t.2.1 t.2.2 ns fn l 0 0 x=some (l,c0,x.2.1,()):=Ev.succ ((hN.and (I3.and (⟨1,fun k hk=>hk⟩:Ev fun k=>1≤k))).mono fun k e=>by
    obtain⟨w1,w2,hk⟩:=e;rw [FZ h0] at w2;obtain⟨j,rfl⟩:∃ j,k=j + 1:=⟨k - 1,by omega⟩
    have en:=Ho (t:=t) (fn:=fn) (p:=x.2.1) h0 e3 j l;rw [e5] at en;rw [Eg (j + 1)];simp only [go_sem,ia,show cM (j + 1) (t.1,t.2.1,t.2.2) fn x.2.2.2.1=_ from w1,e1,e2,g4,w2,aa,cj,beq_eq_false_iff_ne.2 h0,en]
    cases (y.1 == 29)<;>rfl)
   refine⟨c0,x.2.1,fun hz=>absurd hz h0,Ev.succ ((hS.and (kU.and hNi)).mono fun k e=>?_)⟩;obtain⟨w1,w2,w3⟩:=e;refine⟨⟨l,?_,by omega,fun _=>rfl⟩,fun D hr=>⟨D,?_,fun _=>hr⟩⟩
   ·rw [nJ];simp only [go_sem,cH,bj hx,h9,g9,w1]
   ·rw [kh];simp only [go_sem,a6,gC,bj hx,aa,h9,g9,show fE k (t.1,t.2.1,t.2.2) fn x.2.2.2.1=_ from w3,g4,w2 D hr,bne_iff_ne.2 h0]
  subst h0;by_cases y29:y.1=29
  ·have hS:Ev fun k=>dz k t.1 t.2.1 t.2.2 ns fn l 0 0 x=some (l,11,y.2.1,()):=Ev.succ ((hN.and (I3.and (⟨1,fun k hk=>hk⟩:Ev fun k=>1≤k))).mono fun k e=>by
    obtain⟨w1,w2,hk⟩:=e;obtain⟨j,rfl⟩:∃ j,k=j + 1:=⟨k - 1,by omega⟩
    have en:=Ho (t:=t) (fn:=fn) (c:=11) (p:=y.2.1) (by decide) e3 j l
    rw [e5] at en;rw [Eg (j + 1)];simp only [go_sem,ia,show cM (j + 1) (t.1,t.2.1,t.2.2) fn x.2.2.2.1=_ from w1,e1,e2,g4,w2,show KQ 0 x.2.1=0 from rfl,aa,cj,y29,en])
   refine⟨11,y.2.1,fun hz=>absurd hz (by decide),Ev.succ ((hS.and (kU.and hNi)).mono fun k e=>?_)⟩
   obtain⟨w1,w2,w3⟩:=e;refine⟨⟨l,?_,by omega,fun _=>rfl⟩,fun D hr=>⟨D,?_,fun _=>hr⟩⟩
   ·rw [nJ];simp only [go_sem,cH,bj hx,h9,g9,w1]
   ·rw [kh];simp only [go_sem,a6,gC,bj hx,aa,h9,g9,show fE k (t.1,t.2.1,t.2.2) fn x.2.2.2.1=_ from w3,g4,w2 D hr,e1,e2,y29]
  have g29:=beq_eq_false_iff_ne.2 y29;have zA:=IH.l;obtain⟨c,p,hc,he⟩:=hni.2 l (by omega)
  rw [e5] at he;have hS:Ev fun k=>Ti l (u.toNat + 1) c p (dz k t.1 t.2.1 t.2.2 ns fn l 0 0 x):=Ev.succ ((hN.and (I3.and he)).mono fun k e=>by
   obtain⟨w1,w2,⟨bl,w3,w4,w5⟩,_⟩:=e;refine⟨bl,?_,w4,w5⟩;rw [Eg];simp only [go_sem,ia,show cM k (t.1,t.2.1,t.2.2) fn x.2.2.2.1=_ from w1,e1,e2,g4,w2,show KQ 0 x.2.1=0 from rfl,aa,g29,w3])
  obtain⟨c2,p2,wS,he2⟩:=Av (Kd:=0) rfl (nm:=[]) IH.v (by omega) hli x.2.2.2.2.length 0 rfl (fun j hj=>IH.n j (by simpa using hj))
  have heL:Ev fun k=>∀ D,J1 l D→Re l c p (aS (bI k) (ck k) (bU k) k k ns t.1 t.2.1 t.2.2 fn P Is Rs B x.2.2.2.2 (x.2.2.2.2.length:Int) 0 0 D 0):=
   co.jN (p2:=fun q k=>∀ D,J1 l D→Re l c p (aS (bI q) (ck q) (bU q) q k ns t.1 t.2.1 t.2.2 fn P Is Rs B x.2.2.2.2 (x.2.2.2.2.length:Int) 0 0 D 0)) (co.succ (co.succ (he.tX.mono fun q k e D hr=>by
    obtain⟨bm,w1,w2⟩:=e.2 D hr;refine⟨bm,?_,w2⟩;rw [hK,aS];simp only [go_sem,List.length_singleton,show decide ((0:Int) < ((1:Nat):Int))=true from rfl,show bH [u] 0=some u from rfl,w1]
    by_cases hz:c=0
    ·rw [aS]
     simp only [go_sem,hz,show dq (0 + 1)=1 from rfl,show decide ((1:Int) < ((1:Nat):Int))=false from rfl,if_true]
    ·simp only [go_sem,bne_iff_ne.2 hz,if_neg hz])))
  have heI:=G9 (i:=i) hx (fun hz=>(hc hz).1) heL;refine⟨c,p,fun hz=>⟨(hc hz).1,GO.mk i x hx (fun j hj=>by rw [hK] at hj;rw [List.mem_singleton.1 hj];exact(hc hz).2) (fun h'=>absurd (h9.symm.trans h') (by decide)) (fun h'=>absurd (h9.symm.trans h') (by decide))⟩,Ev.succ ((hS.and (kU.and (hNi.and heI))).mono fun k e=>?_)⟩
  obtain⟨⟨bl,w1,w1',afy⟩,w2,w3,w4⟩:=e;have bo:=hni.1;refine⟨⟨bl,?_,by omega,afy⟩,fun D hr=>?_⟩
  ·rw [nJ];simp only [go_sem,cH,bj hx,h9,g9,w1]
  ·obtain⟨bm,w5,w6⟩:=w4 D hr
   refine⟨bm,?_,w6⟩;rw [kh];simp only [go_sem,a6,gC,bj hx,aa,h9,g9,show fE k (t.1,t.2.1,t.2.2) fn x.2.2.2.1=_ from w3,g4,w2 D hr,e1,e2,g29,w5]
end
end Go.Fx.R5
namespace Go.Fx.R5
open Go Go.Fx
section
variable {t:yE} {fn:an} {ns:List eq} {P:Int} {Is Rs:XS} {B:Int}
theorem ZF{rn ra rc}(q k:Nat)(nm:an)(a b c:Int)(A:AS)(G:XS)(F:FS)(bu:XS)(cd p:Int):bK rn ra rc q (k + 4) 16 nm [a,b,c] A G F ns fn bu cd p 0 =
  (rn A G F ns fn bu cd p a).bind fun r=>(rn A G F ns fn r.1 r.2.1 r.2.2.1 b).bind fun r2=>(lq r2.1 [nm]).bind fun l=>(rn A G F ns fn l r2.2.1 r2.2.2.1 c).bind fun r3=>some (r3.1,r3.2.1,r3.2.2.1,()):=by
 rw [bK];simp only [go_sem,List.length_cons,List.length_nil,show decide ((0:Int) < ((0 + 1 + 1 + 1:Nat):Int))=true from rfl,show((16:Int) == 16)=true from rfl,show((0:Int) == 2)=false from rfl,aa,show bH [a,b,c] 0=some a from rfl,show dq (0 + 1)=1 from rfl]
 rfl
theorem acl(ht:iD t){i:Nat}{x:eq}(hx:ns[i]? = some x)(hn:nO ns i x)(E6:x.1=16)(IH:Iy t fn ns P Is Rs B i x.2.2.2.2):NB t fn ns P Is Rs B i:=by
 intro l hli;have js:=Vm (fn:=fn) ht (l:=l) (by omega) hx
 have kU:=Ge (fn:=fn) ht l x;have dn:=hn.shp;rw [E6] at dn;obtain⟨a,b,c,hK⟩:∃ a b c,x.2.2.2.2 = [a,b,c]:=by
  rcases h:x.2.2.2.2 with _ |⟨a,_ |⟨b,_ |⟨c,_ |⟨d,r⟩⟩⟩⟩
  ·rw [h] at dn;simp [b9] at dn
  ·rw [h] at dn;simp [b9] at dn
  ·rw [h] at dn;simp [b9] at dn
  ·exact⟨a,b,c,rfl⟩
  ·rw [h] at dn;simp [b9] at dn
 obtain⟨ya,ea1,ea2,ea3,ea4,ea5⟩:=Gk IH.v (n:=0) (j:=a) (by rw [hK];rfl)
 obtain⟨yb,eb1,eb2,eb3,eb4,eb5⟩:=Gk IH.v (n:=1) (j:=b) (by rw [hK];rfl)
 obtain⟨yc,ec1,ec2,ec3,ec4,ec5⟩:=Gk IH.v (n:=2) (j:=c) (by rw [hK];rfl)
 have na:=IH.n a (by rw [hK];simp)
 have nb:=IH.n b (by rw [hK];simp)
 have nc:=IH.n c (by rw [hK];simp)
 have hoc:oD t fn l x=GV t fn l x.2.2.2.1 3 3:=by simp only [oD,E6,Int.reduceEq,reduceIte,or_self]
 simp only [E6,show ¬ (16:Int)=9 by decide,if_false] at kU
 have g16:((16:Int) == 16)=true:=rfl;have sw:∀ c0 p0:Int,c0≠0→(Ev fun k=>∃ bl,bK (dD k) (dz k) (eG k) k k 16 x.2.2.2.1 x.2.2.2.2 t.1 t.2.1 t.2.2 ns fn l 0 0 0=some (bl,c0,p0,())∧bl.length≤l.length + i + 1)→oD t fn l x=0→
   (Ev fun k=>∀ D,J1 l D→∃ bm,bU k ns t.1 t.2.1 t.2.2 fn P Is Rs B D x=some ((c0,p0),bm,()))→
   ∃ c p,(c=0→p=0∧GO ns t fn i)∧Ev fun k=>Ti l (i + 1) c p (dD k t.1 t.2.1 t.2.2 ns fn l 0 0 (i:Int))∧∀ D,J1 l D→Zo l c p (ck k ns t.1 t.2.1 t.2.2 fn P Is Rs B D (i:Int)):=fun c0 p0 hc0 hS ho hI=>by
  rw [ho] at js kU;refine⟨c0,p0,fun hz=>absurd hz hc0,Ev.succ ((js.and (kU.and (hS.and hI))).mono fun k e=>?_)⟩;obtain⟨w1,w2,⟨bl,w3,w3'⟩,w4⟩:=e;refine⟨⟨bl,?_,by omega,fun hz=>absurd hz hc0⟩,fun D hr=>?_⟩
  ·rw [nJ];simp only [go_sem,cH,bj hx,E6,show((16:Int) == 9)=false from rfl,show((16:Int) == 12)=false from rfl,show((16:Int) == 22)=false from rfl,show((16:Int) == 16)=true from rfl,w1,show KQ 0 x.2.1=0 from rfl,aa]
   rw [show bK _ _ _ k k 16 x.2.2.2.1 x.2.2.2.2 t.1 t.2.1 t.2.2 ns fn l 0 0 0=_ from w3]
   simp only [go_sem,beq_eq_false_iff_ne.2 hc0]
  ·obtain⟨bm,w5⟩:=w4 D hr
   refine⟨bm,?_,fun hz=>absurd hz hc0⟩;rw [kh];simp only [go_sem,a6,bj hx,aa,E6,show((16:Int) == 9)=false from rfl,show((16:Int) == 12)=false from rfl,show((16:Int) == 22)=false from rfl,show((16:Int) == 16)=true from rfl,w2 D hr,w5]
 have zA:=IH.l;by_cases h0:oD t fn l x=0
 rotate_left
 ·
  refine⟨oD t fn l x,x.2.1,fun hz=>absurd hz h0,Ev.succ ((js.and (kU.and (⟨10,fun k hk=>hk⟩:Ev fun k=>10≤k))).mono fun k e=>?_)⟩;obtain⟨w1,w2,hk⟩:=e;rw [FZ h0] at w1;obtain⟨j,rfl⟩:∃ j,k=j + 4:=⟨k - 4,by omega⟩
  have fa:=Ho (t:=t) (fn:=fn) (p:=x.2.1) h0 ea3 (j + 3) l;have fb:=Ho (t:=t) (fn:=fn) (p:=x.2.1) h0 eb3 (j + 3) l;have fc:=Ho (t:=t) (fn:=fn) (p:=x.2.1) h0 ec3 (j + 3) (l ++ [x.2.2.2.1]);rw [ea5] at fa;rw [eb5] at fb;rw [ec5] at fc;have fp:lq l [x.2.2.2.1]=some (l ++ [x.2.2.2.1]):=p6 (by simp;omega)
  refine⟨⟨l ++ [x.2.2.2.1],?_,by simp,fun hz=>absurd hz h0⟩,fun D hr=>⟨D,?_,fun _=>hr⟩⟩
  ·rw [nJ (j + 4)];simp only [go_sem,cH,bj hx,E6,show((16:Int) == 9)=false from rfl,show((16:Int) == 12)=false from rfl,show((16:Int) == 22)=false from rfl,show((16:Int) == 16)=true from rfl,w1,aa,hK]
   rw [ZF];simp only [go_sem,show j + 4=j + 3 + 1 from rfl,fa,fb,fp,fc,beq_eq_false_iff_ne.2 h0]
  ·rw [kh (j + 4)];simp only [go_sem,a6,bj hx,aa,E6,show((16:Int) == 9)=false from rfl,show((16:Int) == 12)=false from rfl,show((16:Int) == 22)=false from rfl,show((16:Int) == 16)=true from rfl,w2 D hr,bne_iff_ne.2 h0]
 obtain⟨ca,pa,hca,hea⟩:=na.2 l (by omega)
 rw [ea5] at hea;have Ks:(⟨10,fun k hk=>hk⟩:Ev fun k=>10≤k)=⟨10,fun k hk=>hk⟩:=rfl;have Ks:Ev fun k=>10≤k:=⟨10,fun k hk=>hk⟩;have qb:sub [a,b,c] 0 2=some [a,b]:=rfl;have i2:bH [a,b,c] 2=some c:=rfl;by_cases hza:ca=0
 rotate_left
 ·refine sw ca pa hza ((hea.and Ks).mono fun k e=>?_) h0 (Ev.succ ((hea.and Ks).mono fun k e D hr=>?_))
  ·obtain⟨⟨⟨bl,w1,w2,_⟩,_⟩,hk⟩:=e
   obtain⟨j,rfl⟩:∃ j,k=j + 4:=⟨k - 4,by omega⟩
   have fb:=Ho (t:=t) (fn:=fn) (p:=pa) hza eb3 (j + 3) bl;have fc:=Ho (t:=t) (fn:=fn) (p:=pa) hza ec3 (j + 3) (bl ++ [x.2.2.2.1]);rw [eb5] at fb;rw [ec5] at fc;have fp:lq bl [x.2.2.2.1]=some (bl ++ [x.2.2.2.1]):=p6 (by simp;omega)
   have:=na.1;refine⟨bl ++ [x.2.2.2.1],?_,by simp;omega⟩
   rw [hK,ZF];rw [show j + 4=j + 3 + 1 from rfl] at w1
   simp only [go_sem,show j + 4=j + 3 + 1 from rfl,w1,fb,fp,fc]
  ·obtain⟨⟨_,w1⟩,hk⟩:=e
   obtain⟨bm,w2,_⟩:=w1 D hr;obtain⟨j,rfl⟩:∃ j,k=j + 1:=⟨k - 1,by omega⟩
   refine⟨bm,?_⟩;rw [Me (j + 1)];simp only [go_sem,gM,hK,qb];rw [cE];simp only [go_sem,List.length_cons,List.length_nil,show decide ((0:Int) < ((0 + 1 + 1:Nat):Int))=true from rfl,show bH [a,b] 0=some a from rfl,w2,bne_iff_ne.2 hza]
 subst hza;obtain⟨rfl,aeL⟩:=hca rfl;obtain⟨cb,pb,hcb,heb⟩:=nb.2 l (by omega)
 rw [eb5] at heb;by_cases hzb:cb=0
 rotate_left
 ·refine sw cb pb hzb ((hea.and (heb.and Ks)).mono fun k e=>?_) h0 (Ev.succ ((hea.and (heb.and Ks)).mono fun k e D hr=>?_))
  ·obtain⟨⟨⟨bl0,w1,_,w1'⟩,_⟩,⟨⟨bl,w2,w3,_⟩,_⟩,hk⟩:=e
   obtain rfl:=w1' rfl;obtain⟨j,rfl⟩:∃ j,k=j + 4:=⟨k - 4,by omega⟩
   have fc:=Ho (t:=t) (fn:=fn) (p:=pb) hzb ec3 (j + 3) (bl ++ [x.2.2.2.1]);rw [ec5] at fc;have fp:lq bl [x.2.2.2.1]=some (bl ++ [x.2.2.2.1]):=p6 (by simp;omega)
   have:=nb.1;refine⟨bl ++ [x.2.2.2.1],?_,by simp;omega⟩
   rw [hK,ZF];rw [show j + 4=j + 3 + 1 from rfl] at w1 w2
   simp only [go_sem,show j + 4=j + 3 + 1 from rfl,w1,w2,fp,fc]
  ·obtain⟨⟨_,w1⟩,⟨_,w3⟩,hk⟩:=e
   obtain⟨bm0,w2,w2'⟩:=w1 D hr;obtain⟨bm,w4,_⟩:=w3 bm0 (w2' rfl);obtain⟨j,rfl⟩:∃ j,k=j + 2:=⟨k - 2,by omega⟩
   refine⟨bm,?_⟩;rw [Me (j + 2)];simp only [go_sem,gM,hK,qb];rw [cE];simp only [go_sem,List.length_cons,List.length_nil,show decide ((0:Int) < ((0 + 1 + 1:Nat):Int))=true from rfl,show bH [a,b] 0=some a from rfl,w2,show dq (0 + 1)=1 from rfl]
   rw [cE];simp only [go_sem,List.length_cons,List.length_nil,show decide ((1:Int) < ((0 + 1 + 1:Nat):Int))=true from rfl,show bH [a,b] 1=some b from rfl,w4,bne_iff_ne.2 hzb]
 subst hzb;obtain⟨rfl,aeM⟩:=hcb rfl;have P5:x.2.2.2.1∉l:=fun hm=>by
  rw [hoc] at h0;unfold GV at h0;by_cases hw:W t fn x.2.2.2.1 3 3=0
  ·simp [hw,hm] at h0
  ·simp [hw] at h0
 have L9:∀{D:AS},J1 l D→J1 (l ++ [x.2.2.2.1]) (qI D x.2.2.2.1 1):=fun hr s=>by
  rw [D8,List.mem_append,List.mem_singleton];by_cases e:x.2.2.2.1=s
  ·simp [e]
  ·simp [e,hr s,Ne.symm e]
 have adI:∀{D:AS},J1 (l ++ [x.2.2.2.1]) D→J1 l (qI D x.2.2.2.1 0):=fun hr s=>by
  rw [D8];by_cases e:x.2.2.2.1=s
  ·subst e;simp [P5]
  ·have:=hr s
   rw [List.mem_append,List.mem_singleton] at this;simp [e,this,Ne.symm e]
 obtain⟨cc,pc,hcc,hec⟩:=nc.2 (l ++ [x.2.2.2.1]) (by have:=nc.1;simp;omega)
 rw [ec5] at hec;have hlp:lq l [x.2.2.2.1]=some (l ++ [x.2.2.2.1]):=p6 (by simp;omega)
 have hS:Ev fun k=>∃ bl,bK (dD k) (dz k) (eG k) k k 16 x.2.2.2.1 x.2.2.2.2 t.1 t.2.1 t.2.2 ns fn l 0 0 0=some (bl,cc,pc,())∧bl.length≤l.length + i + 1∧(cc=0→bl=l ++ [x.2.2.2.1]):=(hea.and (heb.and (hec.and Ks))).mono fun k e=>by
  obtain⟨⟨⟨bl0,w1,_,w1'⟩,_⟩,⟨⟨bl1,w2,_,w2'⟩,_⟩,⟨⟨bl,w3,w4,w5⟩,_⟩,hk⟩:=e;obtain rfl:=w1' rfl;obtain rfl:=w2' rfl;obtain⟨j,rfl⟩:∃ j,k=j + 4:=⟨k - 4,by omega⟩
  have:=nc.1;refine⟨bl,?_,by simp at w4;omega,w5⟩
  rw [hK,ZF];simp only [go_sem,w1,w2,hlp,w3]
 have hI:Ev fun k=>∀ D,J1 l D→∃ bm,bU k ns t.1 t.2.1 t.2.2 fn P Is Rs B D x=some ((cc,pc),bm,())∧(cc=0→J1 l bm):=Ev.succ ((hea.and (heb.and (hec.and Ks))).mono fun k e D hr=>by
  obtain⟨⟨_,w1⟩,⟨_,w3⟩,⟨_,w5⟩,hk⟩:=e;obtain⟨bm0,w2,w2'⟩:=w1 D hr;obtain⟨bm1,w4,w4'⟩:=w3 bm0 (w2' rfl);obtain⟨bm2,w6,w6'⟩:=w5 (qI bm1 x.2.2.2.1 1) (L9 (w4' rfl));obtain⟨j,rfl⟩:∃ j,k=j + 3:=⟨k - 3,by omega⟩
  refine⟨qI bm2 x.2.2.2.1 0,?_,fun hz=>adI (w6' hz)⟩;rw [Me (j + 3)];simp only [go_sem,gM,hK,qb];rw [cE];simp only [go_sem,List.length_cons,List.length_nil,show decide ((0:Int) < ((0 + 1 + 1:Nat):Int))=true from rfl,show bH [a,b] 0=some a from rfl,w2,show dq (0 + 1)=1 from rfl]
  rw [cE];simp only [go_sem,List.length_cons,List.length_nil,show decide ((1:Int) < ((0 + 1 + 1:Nat):Int))=true from rfl,show bH [a,b] 1=some b from rfl,w4,show dq (1 + 1)=2 from rfl]
  rw [cE];simp only [go_sem,List.length_cons,List.length_nil,show decide ((2:Int) < ((0 + 1 + 1:Nat):Int))=false from rfl,i2,w6])
 by_cases hzc:cc=0
 rotate_left
 ·exact sw cc pc hzc (hS.mono fun k e=>by obtain⟨bl,w1,w2,_⟩:=e;exact⟨bl,w1,w2⟩) h0 (hI.mono fun k e D hr=>by obtain⟨bm,w1,_⟩:=e D hr;exact⟨bm,w1⟩)
 subst hzc;obtain⟨rfl,aeN⟩:=hcc rfl;rw [h0] at js kU;refine⟨0,0,fun _=>⟨rfl,GO.mk i x hx (fun j hj=>?_) (fun h=>absurd (E6.symm.trans h) (by decide)) (fun h=>absurd (E6.symm.trans h) (by decide))⟩,Ev.succ ((js.and (kU.and (hS.and hI))).mono fun k e=>?_)⟩
 ·rw [hK] at hj
  simp only [List.mem_cons,List.not_mem_nil,or_false] at hj;rcases hj with rfl | rfl | rfl
  ·exact aeL
  ·exact aeM
  ·exact aeN
 ·obtain⟨w1,w2,⟨bl,w3,_,w4⟩,w5⟩:=e
  obtain rfl:=w4 rfl;refine⟨⟨l,?_,by omega,fun _=>rfl⟩,fun D hr=>?_⟩
  ·have hs:sub (l ++ [x.2.2.2.1]) 0 (dq (((l ++ [x.2.2.2.1]).length:Int) - 1))=some l:=by
    have:=GB (l:=l ++ [x.2.2.2.1]) (m:=0) (n:=l.length) (by omega) (by simp)
    rw [List.length_append,List.length_singleton,eM (by omega) (by omega),show((l.length + 1:Nat):Int) - 1=(l.length:Int) by omega]
    rw [show(0:Int)=((0:Nat):Int) from rfl,this];simp
   rw [nJ];simp only [go_sem,cH,bj hx,E6,show((16:Int) == 9)=false from rfl,show((16:Int) == 12)=false from rfl,show((16:Int) == 22)=false from rfl,show((16:Int) == 16)=true from rfl,w1,show KQ 0 x.2.1=0 from rfl,aa]
   rw [show bK _ _ _ k k 16 x.2.2.2.1 x.2.2.2.2 t.1 t.2.1 t.2.2 ns fn l 0 0 0=_ from w3]
   simp only [go_sem,hs]
  ·obtain⟨bm,w6,w7⟩:=w5 D hr
   refine⟨bm,?_,w7⟩;rw [kh];simp only [go_sem,a6,bj hx,aa,E6,show((16:Int) == 9)=false from rfl,show((16:Int) == 12)=false from rfl,show((16:Int) == 22)=false from rfl,show((16:Int) == 16)=true from rfl,w2 D hr,w6]
theorem Wb(ht:iD t)(fo:jl ns):∀ n i,i < n→i < ns.length→NB t fn ns P Is Rs B i:=by
 intro n;induction n with
 |zero=>intro i h;omega
 |succ n ih=>
  intro i hi hl;have hx:ns[i]? = some ns[i]:=by simp [hl]
  have hn:=fo i _ hx;have IH:Iy t fn ns P Is Rs B i ns[i].2.2.2.2:=⟨fun j hj=>by have:=hn.cB j hj;omega,hn.nm.2,fun j hj=>by
   have:=hn.cB j hj;exact⟨this.2,ih j.toNat (by omega) (by omega)⟩⟩
  by_cases h9:ns[i].1=9
  ·exact acm ht hx hn fo h9 IH
  by_cases Dd:ns[i].1=22
  ·exact Z0 ht hx hn fo Dd IH
  by_cases JE:ns[i].1=12
  ·exact ZZ ht hx hn fo JE IH
  by_cases E6:ns[i].1=16
  ·exact acl ht hx hn E6 IH
  exact Ym ht hx h9 Dd JE E6 IH
end
end Go.Fx.R5
namespace Go.Fx.R5
open Go Go.Fx
section
variable {t:yE} {ns:List eq} {D:AS}
theorem VE(ht:iD t)(fo:jl ns)(hl:ns.length≤3900){fn:an}{P:Int}{Is Rs:XS}{b:Int}(h0:0≤b)(h1:b < ns.length)(h8:kd ns b=8):∃ c p,(c=0→p=0∧GO ns t fn b.toNat)∧Ev fun k=>
  (∃ bl,dD k t.1 t.2.1 t.2.2 ns fn [] 0 0 b=some (bl,c,p,()))∧∃ bm,bI k ns t.1 t.2.1 t.2.2 fn P Is Rs b ([]:AS) b=some ((c,p),bm,()):=by
 obtain⟨x,e1,e2,e3⟩:=uB h0 h1;have hb:((b.toNat:Nat):Int)=b:=Int.toNat_of_nonneg h0;rw [e2] at h8;obtain⟨c,p,hc,he⟩:=Wb (fn:=fn) (P:=P) (Is:=Is) (Rs:=Rs) (B:=b) ht fo (b.toNat + 1) b.toNat (by omega) (by omega) [] (by simp;omega)
 rw [hb] at he;have L9:J1 [] ([]:AS):=fun s=>by simp [qh]
 have kU:=Ge (fn:=fn) ht [] x;simp only [h8,oD,Int.reduceEq,reduceIte,or_self] at kU;refine⟨c,p,hc,(he.and (he.Z8.and kU)).mono fun k e=>?_⟩;obtain⟨⟨⟨bl,w1,_⟩,_⟩,⟨_,w2⟩,w3⟩:=e;refine⟨⟨bl,w1⟩,?_⟩;obtain⟨bm,w4,_⟩:=w2 [] L9;rw [kh] at w4;simp only [go_sem,a6,e3,aa,h8,show((8:Int) == 9)=false from rfl,show((8:Int) == 12)=false from rfl,show((8:Int) == 22)=false from rfl,show((8:Int) == 16)=false from rfl,w3 [] L9] at w4
 cases hbw:bI k ns t.1 t.2.1 t.2.2 fn P Is Rs b ([]:AS) b with
 |none=>rw [hbw] at w4;cases w4
 |some r=>obtain⟨⟨c',p'⟩,bm',u⟩:=r;rw [hbw] at w4;simp only [go_sem,Option.some.injEq,Prod.mk.injEq] at w4;exact⟨bm',by rw [w4.1.1,w4.1.2]⟩
theorem LU(hp:P1 ns t D)(fo:jl ns)(hl:ns.length≤3900):∀ m i,m + i=t.2.2.length→
  (∃(c p:Int),c≠0∧co fun q k=>eT q k ns 0 0 t.1 t.2.1 t.2.2 (i:Int)=some (.inr (c,p,()))∧fq q k t.2.2 ns t.2.2 (t.2.2.length:Int) t.1 t.2.1 0 0 (i:Int)=some (.inr (c,p,())))∨
  ((∀ x∈t.2.2.drop i,GO ns t x.1 x.2.2.2.2.toNat)∧co fun q k=>eT q k ns 0 0 t.1 t.2.1 t.2.2 (i:Int)=some (.inl (0,0,t.1,t.2.1,t.2.2,()))∧
   fq q k t.2.2 ns t.2.2 (t.2.2.length:Int) t.1 t.2.1 0 0 (i:Int)=some (.inl (t.1,t.2.1,0,0,())))
 |0,i,h=>by
  have h2:¬ i < t.2.2.length:=by omega
  have e:t.2.2.drop i = []:=by simp;omega
  refine .inr ⟨by rw [e];simp,co.succ (co.of fun q k=>⟨?_,?_⟩)⟩
  ·simp only [go_sem,eT,Int.ofNat_lt,h2]
  ·simp only [go_sem,fq,Int.ofNat_lt,h2]
 |m + 1,i,h=>by
  have bo:i < t.2.2.length:=by omega
  have hf6:=hp.iw.f;have hb:=hp.bd _ (List.getElem_mem bo);obtain⟨c,p,hc,he⟩:=VE (fn:=t.2.2[i].1) (P:=t.2.2[i].2.1) (Is:=t.2.2[i].2.2.1) (Rs:=t.2.2[i].2.2.2.1) hp.iw fo hl hb.1 hb.2.1 hb.2.2.1;by_cases h0:c=0
  ·subst h0
   obtain⟨rfl,F9⟩:=hc rfl;have s1:∀{q k r},(∃ bl,dD q t.1 t.2.1 t.2.2 ns t.2.2[i].1 [] 0 0 t.2.2[i].2.2.2.2=some (bl,0,0,()))→eT q k ns 0 0 t.1 t.2.1 t.2.2 ((i + 1:Nat):Int)=r→eT q (k + 1) ns 0 0 t.1 t.2.1 t.2.2 (i:Int)=r:=fun⟨bl,a1⟩ a2=>by simp only [go_sem,eT,Int.ofNat_lt,bo,cQ bo,a1,af (show i < _ by omega),a2]
   have s2:∀{q k r},(∃ bm,bI q ns t.1 t.2.1 t.2.2 t.2.2[i].1 t.2.2[i].2.1 t.2.2[i].2.2.1 t.2.2[i].2.2.2.1 t.2.2[i].2.2.2.2 ([]:AS) t.2.2[i].2.2.2.2=some ((0,0),bm,()))→fq q k t.2.2 ns t.2.2 (t.2.2.length:Int) t.1 t.2.1 0 0 ((i + 1:Nat):Int)=r→
     fq q (k + 1) t.2.2 ns t.2.2 (t.2.2.length:Int) t.1 t.2.1 0 0 (i:Int)=r:=fun⟨bm,a1⟩ a2=>by
    simp only [go_sem,fq,Int.ofNat_lt,bo,cQ bo,a1,af (show i < _ by omega),a2]
   rcases LU hp fo hl m (i + 1) (by omega) with ⟨c,p,g,hh⟩ |⟨g,hh⟩
   ·exact .inl ⟨c,p,g,co.succ ((he.tX.and hh).mono fun q k e=>⟨s1 e.1.1 e.2.1,s2 e.1.2 e.2.2⟩)⟩
   ·refine .inr ⟨fun x hx=>?_,co.succ ((he.tX.and hh).mono fun q k e=>⟨s1 e.1.1 e.2.1,s2 e.1.2 e.2.2⟩)⟩
    rw [List.drop_eq_getElem_cons bo] at hx;rcases List.mem_cons.1 hx with rfl | hx
    ·exact F9
    ·exact g x hx
  ·refine .inl ⟨c,p,h0,co.succ (he.tX.mono fun q k e=>?_)⟩
   obtain⟨⟨bl,w1⟩,bm,w2⟩:=e;refine⟨?_,?_⟩
   ·simp only [go_sem,eT,Int.ofNat_lt,bo,cQ bo,w1,bne_iff_ne.2 h0]
   ·simp only [go_sem,fq,Int.ofNat_lt,bo,cQ bo,w2,bne_iff_ne.2 h0]
theorem Uf(hT:Tj ns):(∃(c p:Int),c≠0∧Ev fun k=>iQ k ns=some (([],[],[]),(c,p),())∧∀ bF,gK k bF=some (ns,(0,0),())→dW k bF=some (([],[],[]),(c,p),()))∨
  ∃(t:yE) (D:AS),P1 ns t D∧(∀ x∈t.2.2,GO ns t x.1 x.2.2.2.2.toNat)∧Ev fun k=>iQ k ns=some (t,(0,0),())∧∀ bF,gK k bF=some (ns,(0,0),())→dW k bF=some (t,(0,0),()):=by
 obtain⟨fo,jI,ns0,l,hns,hk,hws⟩:=hT;have hks:jA ns l≤ns.length:=by rw [pz (by rw [hns];exact List.prefix_append _ _) hk.v,hns];simp;omega
 have hk:iO EM ns l:=hk.up (by rw [hns];exact List.prefix_append _ _)
 have aa2:ns[ns.length - 1]? = some (1,0,0,[],l):=by rw [hns];simp
 have zA:l.length≤5000:=(fo _ _ aa2).nm.2;have vO:0 < ns.length:=by rw [hns];simp
 have Gb:bH ns (dq ((ns.length:Int) - 1))=some (1,0,0,[],l):=by
  rw [eM (by omega) (by omega),show(ns.length:Int) - 1=((ns.length - 1:Nat):Int) by omega]
  exact bj aa2
 have h0:P1 ns ([],[],[]) []:=⟨⟨by simp,by simp,by simp,by simp⟩,by simp,by simp,by simp,fun s=>by simp [qh,po]⟩
 rcases Oe fo (by omega) hk zA hks l.length 0 ([],[],[]) [] rfl h0 (by intro f hf;simp at hf) with ⟨c,p,hc,he⟩ |⟨t1,D1,hp1,hf1,KS,he1⟩
 ·refine .inl ⟨c,p,hc,he.jN.mono fun k e=>?_⟩
  have w1:df k k ns l 0 0 [] [] [] 0=_:=e.1;have w2:dI k k ns l (l.length:Int) [] [] [] 0 0 [] 0=_:=e.2;refine⟨by simp only [go_sem,iQ,Gb,w2],fun bF hp=>by simp only [go_sem,dW,hp,Gb,w1]⟩
 ·have he1:=he1.jN
  rcases TK fo (by omega) hk zA l.length 0 0 t1 rfl hp1 (by simp only [List.length_nil] at KS;omega) (fun n x _ hx=>hf1 x (List.mem_of_getElem? hx)) with ⟨c,p,hc,he⟩ |⟨F2,GE,he2⟩
  ·refine .inl ⟨c,p,hc,(he1.and he.jN).mono fun k e=>?_⟩
   obtain⟨⟨w1,w2⟩,w3,w4⟩:=e;have w1:df k k ns l 0 0 [] [] [] 0=_:=w1;have w2:dI k k ns l (l.length:Int) [] [] [] 0 0 [] 0=_:=w2;have w3:cT k k ns l 0 0 t1.1 t1.2.1 t1.2.2 0 0=_:=w3;have w4:dl k k ns l (l.length:Int) t1.2.2 0 0 D1 0 0=_:=w4;refine⟨by simp only [go_sem,iQ,Gb,w2,w4],fun bF hp=>by simp only [go_sem,dW,hp,Gb,w1,w3]⟩
  ·have he2:=he2.jN
   have hf6:=GE.iw.f;have hM:=ab9 (t1.1,t1.2.1,F2) (by omega)
   have hS:=QH (t1.1,t1.2.1,F2) [109,97,105,110] (by omega)
   by_cases Xy:0≤nq (fun x:an×Int×XS×XS×Int=>x.1 == ([109,97,105,110]:an)) F2 0∧∀ n x,nq (fun x:an×Int×XS×XS×Int=>x.1 == ([109,97,105,110]:an)) F2 0=(n:Nat)→F2[n]? = some x→x.2.1=0
   ·obtain⟨n,x,n1,n2,_⟩:=H4 Xy.1
    have hz:=Xy.2 n x n1 n2;have b1:decide ((n:Int) < 0)=false:=decide_eq_false (by omega)
    have b2:decide (x.2.1 > 0)=false:=by rw [hz];rfl
    have b3:(x.2.1 != 0)=false:=by rw [hz];rfl
    rcases LU GE fo (by omega) F2.length 0 rfl with ⟨c,p,hc,he⟩ |⟨F9,he⟩
    ·refine .inl ⟨c,p,hc,(he1.and (he2.and ((hM.and hS).and he.jN))).mono fun k e=>?_⟩
     obtain⟨⟨w1,w2⟩,⟨w3,w4⟩,⟨w5,w6⟩,w7,w8⟩:=e;have w1:df k k ns l 0 0 [] [] [] 0=_:=w1;have w2:dI k k ns l (l.length:Int) [] [] [] 0 0 [] 0=_:=w2;have w3:cT k k ns l 0 0 t1.1 t1.2.1 t1.2.2 0 0=_:=w3;have w4:dl k k ns l (l.length:Int) t1.2.2 0 0 D1 0 0=_:=w4;have w7:eT k k ns 0 0 t1.1 t1.2.1 F2 0=_:=w7;have w8:fq k k F2 ns F2 (F2.length:Int) t1.1 t1.2.1 0 0 0=_:=w8;refine⟨?_,fun bF hp=>?_⟩
     ·simp only [go_sem,iQ,Gb,w2,w4,w5,aa,n1,b1,bj n2,Int.toNat_natCast,b2,w8]
     ·simp only [go_sem,dW,hp,Gb,w1,w3,w6,aa,n1,b1,bj n2,Int.toNat_natCast,b3,w7]
    ·refine .inr ⟨(t1.1,t1.2.1,F2),D1,GE,fun y hy=>F9 y (by simpa using hy),(he1.and (he2.and ((hM.and hS).and he.jN))).mono fun k e=>?_⟩
     obtain⟨⟨w1,w2⟩,⟨w3,w4⟩,⟨w5,w6⟩,w7,w8⟩:=e;have w1:df k k ns l 0 0 [] [] [] 0=_:=w1;have w2:dI k k ns l (l.length:Int) [] [] [] 0 0 [] 0=_:=w2;have w3:cT k k ns l 0 0 t1.1 t1.2.1 t1.2.2 0 0=_:=w3;have w4:dl k k ns l (l.length:Int) t1.2.2 0 0 D1 0 0=_:=w4;have w7:eT k k ns 0 0 t1.1 t1.2.1 F2 0=_:=w7;have w8:fq k k F2 ns F2 (F2.length:Int) t1.1 t1.2.1 0 0 0=_:=w8;refine⟨?_,fun bF hp=>?_⟩
     ·simp only [go_sem,iQ,Gb,w2,w4,w5,aa,n1,b1,bj n2,Int.toNat_natCast,b2,w8]
     ·simp only [go_sem,dW,hp,Gb,w1,w3,w6,aa,n1,b1,bj n2,Int.toNat_natCast,b3,w7]
   ·refine .inl ⟨13,0,by decide,(he1.and (he2.and (hM.and hS))).mono fun k e=>?_⟩
    obtain⟨⟨w1,w2⟩,⟨w3,w4⟩,w5,w6⟩:=e;have w1:df k k ns l 0 0 [] [] [] 0=_:=w1;have w2:dI k k ns l (l.length:Int) [] [] [] 0 0 [] 0=_:=w2;have w3:cT k k ns l 0 0 t1.1 t1.2.1 t1.2.2 0 0=_:=w3;have w4:dl k k ns l (l.length:Int) t1.2.2 0 0 D1 0 0=_:=w4;by_cases Ks:0≤nq (fun x:an×Int×XS×XS×Int=>x.1 == ([109,97,105,110]:an)) F2 0
    ·obtain⟨n,x,n1,n2,_⟩:=H4 Ks
     have hx:=GE.iw.i x (List.mem_of_getElem? n2);have hz:x.2.1≠0:=fun hz=>Xy ⟨Ks,fun n' x' a1 a2=>by
      have:n' = n:=by omega
      subst this;rw [n2] at a2;cases a2;exact hz⟩
     have b1:decide ((n:Int) < 0)=false:=decide_eq_false (by omega)
     have b2:decide (x.2.1 > 0)=true:=decide_eq_true (by omega)
     have b3:(x.2.1 != 0)=true:=bne_iff_ne.2 hz;refine⟨?_,fun bF hp=>?_⟩
     ·simp only [go_sem,iQ,Gb,w2,w4,w5,aa,n1,b1,bj n2,Int.toNat_natCast,b2]
     ·simp only [go_sem,dW,hp,Gb,w1,w3,w6,aa,n1,b1,bj n2,Int.toNat_natCast,b3]
    ·have n1:=(Vb Ks).1
     refine⟨?_,fun bF hp=>?_⟩
     ·simp only [go_sem,iQ,Gb,w2,w4,w5,aa,n1,show decide ((-1:Int) < 0)=true from rfl]
     ·simp only [go_sem,dW,hp,Gb,w1,w3,w6,aa,n1,show decide ((-1:Int) < 0)=true from rfl]
end
end Go.Fx.R5
namespace Go.Fx.R5
open Go Go.Fx
abbrev ES:=XE
abbrev SPS:=XQ
structure FG(nf M:Nat)(O:XI)(H:XB)(E:ES):Prop where
 oh:H.length=O.length
 ow:∀ x∈O,0≤x∧x < (nf:Int)
 ed:∀ e∈E,0≤e.1∧e.1 < (O.length:Int)∧(e.2.2.1=5→0≤e.2.2.2.2∧e.2.2.2.2 < (M:Int))
structure Rd(nf M:Nat)(O:XI)(E:ES)(w:Nat)(O':XI)(H':XB)(E':ES):Prop where
 fg:FG nf M O' H' E'
 lo:O.length≤O'.length
 hi:O'.length≤O.length + 5 * w
 eh:E'.length≤E.length + 5 * w
section
variable {nf M:Nat} {O:XI} {H:XB} {E:ES}
theorem FG.nZ(h:FG nf M O H E){fn:Int}(h0:0≤fn)(h1:fn < nf)(b:Bool):FG nf M (O ++ [fn]) (H ++ [b]) E:=
 ⟨by simp [h.oh],fun x hx=>by
  rcases List.mem_append.1 hx with hx | hx
  ·exact h.ow x hx
  ·rw [List.mem_singleton.1 hx];exact⟨h0,h1⟩,fun e he=>by
  have:=h.ed e he;exact⟨this.1,by simp;omega,this.2.2⟩⟩
theorem FG.yF(h:FG nf M O H E){f t k n a:Int}(h0:0≤f)(h1:f < O.length)(h5:k=5→0≤a∧a < (M:Int)):FG nf M O H (E ++ [(f,t,k,n,a)]):=
 ⟨h.oh,h.ow,fun e he=>by
  rcases List.mem_append.1 he with he | he
  ·exact h.ed e he
  ·rw [List.mem_singleton.1 he];exact⟨h0,h1,h5⟩⟩
theorem Rd.refl(h:FG nf M O H E):Rd nf M O E 0 O H E:=⟨h,by omega,by omega,by omega⟩
theorem yS{α:Type}{l:List α}{x:α}(h:l.length≤2000000):lq l [x]=some (l ++ [x]):=p6 (by simp;omega)
theorem pP(h:FG nf M O H E)(hl:O.length≤2000000)(fn:Int)(b:Bool):dj fn O H b=some ((O.length:Int),O ++ [fn],H ++ [b],()):=by
 simp only [go_sem,dj,yS hl,yS (show H.length≤2000000 by rw [h.oh];exact hl)]
 rw [List.length_append,List.length_singleton,eM (by omega) (by omega)]
 simp
theorem sj(hl:E.length≤2000000)(f t k n a:Int):dv E f t k n a=some (E ++ [(f,t,k,n,a)],()):=by simp only [go_sem,dv,yS hl]
theorem qN(h:FG nf M O H E)(hl:O.length≤2000000)(fn:Int)(b:Bool):gb fn O H b=some ((O.length:Int),O ++ [fn],H ++ [b],()):=pP h hl fn b
theorem tO(hl:E.length≤2000000)(f t k n a:Int):fj E f t k n a=some (E ++ [(f,t,k,n,a)],()):=sj hl f t k n a
end
section
variable {nf M:Nat} {ns:List eq} {A:AS} {G:XS} {Fs:FS}
def CFI(nf M:Nat)(ns:List eq)(A:AS)(G:XS)(Fs:FS)(i:Nat):Prop:=Ev fun k=>∀(fn:Int) (O:XI) (H:XB) (E:ES) (En:XI) (la:SPS) (ki pl:XI) (p y z:Int),FG nf M O H E→0≤fn→fn < nf→0≤p→p < O.length→O.length + 5 * wt ns (i:Int)≤1000000→E.length + 5 * wt ns (i:Int)≤1000000→
 ∃ O' H' E',ir k fn O En H E la ns A G Fs ki pl [] [] [] [] [] [] [] (i:Int) p y z=some (O',H',E',())∧Rd nf M O E (wt ns (i:Int)) O' H' E'
theorem Zu(fo:jl ns):∀ n i,i < n→i < ns.length→(∀ x,ns[i]? = some x→sW x.1=true)→CFI nf M ns A G Fs i:=by
 intro n;induction n with
 |zero=>intro i h;omega
 |succ n ih=>
  intro i hi hl hcd;have hx:ns[i]? = some ns[i]:=by simp [hl]
  have hn:=fo i _ hx;have hcd:=hcd _ hx;have hw:=Nb hx hn.cB;have zJ:bH ns (i:Int)=some ns[i]:=bj hx;generalize ns[i]=x at *;have I7:∀ j∈x.2.2.2.2,sW (kd ns j)=true→CFI nf M ns A G Fs j.toNat∧((j.toNat:Nat):Int)=j:=fun j hj hc=>by
   have hj2:=hn.cB j hj;obtain⟨y,e1,e2,e3⟩:=uB (ns:=ns) hj2.1 (by omega)
   exact⟨ih j.toNat (by omega) (by omega) fun y' E9=>by rw [e1] at E9;cases E9;rw [←e2];exact hc,Int.toNat_of_nonneg hj2.1⟩
  have dn:=hn.shp;by_cases h33:x.1=33
  ·rw [h33] at dn
   obtain⟨a,hK⟩:∃ a,x.2.2.2.2 = [a]:=by
    rcases h:x.2.2.2.2 with _ |⟨a,_ |⟨b,r⟩⟩
    ·rw [h] at dn;simp [b9] at dn
    ·exact⟨a,rfl⟩
    ·rw [h] at dn;simp [b9] at dn
   rw [hK] at dn;obtain⟨ca,ea⟩:=I7 a (by rw [hK];simp) (by simpa [b9] using dn)
   unfold CFI at ca;rw [ea] at ca;rw [hK,oJ] at hw;refine Ev.succ (ca.mono fun k e fn O H E En la ki pl p y z hg f0 f1 p0 p1 hO hE=>?_);obtain⟨O',H',E',w1,w2⟩:=e fn O H E En la ki pl p z y hg f0 f1 p0 p1 (by omega) (by omega)
   refine⟨O',H',E',?_,⟨w2.fg,w2.lo,by have:=w2.hi;omega,by have:=w2.eh;omega⟩⟩
   simp only [go_sem,ir,lk,zJ,h33,hK,show bH [a] 0=some a from rfl,w1]
  by_cases wy:x.1=31∨x.1=32
  ·obtain⟨a,b,hK⟩:∃ a b,x.2.2.2.2 = [a,b]:=by
    rcases h:x.2.2.2.2 with _ |⟨a,_ |⟨b,_ |⟨c,r⟩⟩⟩
    ·rcases wy with wy | wy<;>(rw [h,wy] at dn;simp [b9] at dn)
    ·rcases wy with wy | wy<;>(rw [h,wy] at dn;simp [b9] at dn)
    ·exact⟨a,b,rfl⟩
    ·rcases wy with wy | wy<;>(rw [h,wy] at dn;simp [b9] at dn)
   have hab:sW (kd ns a)=true∧sW (kd ns b)=true:=by rcases wy with wy | wy<;>(rw [hK,wy] at dn;simpa [b9] using dn)
   obtain⟨ca,ea⟩:=I7 a (by rw [hK];simp) hab.1
   obtain⟨cb,eb⟩:=I7 b (by rw [hK];simp) hab.2
   unfold CFI at ca cb;rw [ea] at ca;rw [eb] at cb;rw [hK,xH] at hw;refine Ev.succ ((ca.and cb).mono fun k e fn O H E En la ki pl p y z hg f0 f1 p0 p1 hO hE=>?_);obtain⟨ca,cb⟩:=e;have hp:=pP hg (show O.length≤2000000 by omega) fn false
   rcases wy with wy | wy
   ·obtain⟨O1,H1,E1,w1,w2⟩:=ca fn (O ++ [fn]) (H ++ [false]) E En la ki pl p (O.length:Int) z (hg.nZ f0 f1 _) f0 f1 p0 (by simp;omega) (by simp;omega) (by omega)
    have l1:=w2.lo;have l2:=w2.hi;have l3:=w2.eh;simp only [List.length_append,List.length_cons,List.length_nil] at l1 l2;obtain⟨O2,H2,E2,w3,w4⟩:=cb fn O1 H1 E1 En la ki pl (O.length:Int) y z w2.fg f0 f1 (by omega) (by omega) (by omega) (by omega)
    have k1:=w4.lo;have k2:=w4.hi;have k3:=w4.eh;refine⟨O2,H2,E2,?_,⟨w4.fg,by omega,by omega,by omega⟩⟩
    simp only [go_sem,ir,lk,zJ,wy,show((31:Int) == 33)=false from rfl,hK,hp,show bH [a,b] 0=some a from rfl,w1,show bH [a,b] 1=some b from rfl,w3]
   ·obtain⟨O1,H1,E1,w1,w2⟩:=ca fn (O ++ [fn]) (H ++ [false]) E En la ki pl p y (O.length:Int) (hg.nZ f0 f1 _) f0 f1 p0 (by simp;omega) (by simp;omega) (by omega)
    have l1:=w2.lo;have l2:=w2.hi;have l3:=w2.eh;simp only [List.length_append,List.length_cons,List.length_nil] at l1 l2;obtain⟨O2,H2,E2,w3,w4⟩:=cb fn O1 H1 E1 En la ki pl (O.length:Int) y z w2.fg f0 f1 (by omega) (by omega) (by omega) (by omega)
    have k1:=w4.lo;have k2:=w4.hi;have k3:=w4.eh;refine⟨O2,H2,E2,?_,⟨w4.fg,by omega,by omega,by omega⟩⟩
    simp only [go_sem,ir,lk,zJ,wy,show((32:Int) == 33)=false from rfl,show((32:Int) == 31)=false from rfl,hK,hp,show bH [a,b] 0=some a from rfl,w1,show bH [a,b] 1=some b from rfl,w3]
  ·simp only [not_or] at wy
   refine Ev.succ (Ev.of fun k fn O H E En la ki pl p y z hg f0 f1 p0 p1 hO hE=>?_);refine⟨O,H,E ++ [(p,y,3,(i:Int),1)] ++ [(p,z,3,(i:Int),0)],?_,⟨(hg.yF p0 p1 (fun h=>absurd h (by decide))).yF p0 p1 (fun h=>absurd h (by decide)),by omega,by omega,by simp;omega⟩⟩
   simp only [go_sem,ir,lk,zJ,beq_eq_false_iff_ne.2 h33,beq_eq_false_iff_ne.2 wy.1,beq_eq_false_iff_ne.2 wy.2,sj (show E.length≤2000000 by omega),sj (show(E ++ [(p,y,3,(i:Int),1)]).length≤2000000 by simp;omega)]
end
section
variable {nf M:Nat} {ns:List eq} {A:AS} {G:XS} {Fs:FS}
def CFS(nf M:Nat)(ns:List eq)(A:AS)(G:XS)(Fs:FS)(i:Nat):Prop:=Ev fun k=>∀(fn:Int) (O:XI) (H:XB) (E:ES) (En:XI) (fr to:XI) (p y z:Int),FG nf M O H E→0≤fn→fn < nf→0≤p→p < O.length→O.length + 5 * wt ns (i:Int)≤1000000→E.length + 5 * wt ns (i:Int)≤1000000→
 ∃ O' H' E',jK k A G Fs ns fn O En H E fr to (i:Int) p y z=some (O',H',E',())∧Rd nf M O E (wt ns (i:Int)) O' H' E'
theorem Zv(fo:jl ns):∀ n i,i < n→i < ns.length→(∀ x,ns[i]? = some x→sW x.1=true)→CFS nf M ns A G Fs i:=by
 intro n;induction n with
 |zero=>intro i h;omega
 |succ n ih=>
  intro i hi hl hcd;have hx:ns[i]? = some ns[i]:=by simp [hl]
  have hn:=fo i _ hx;have hcd:=hcd _ hx;have hw:=Nb hx hn.cB;have zJ:bH ns (i:Int)=some ns[i]:=bj hx;generalize ns[i]=x at *;have I7:∀ j∈x.2.2.2.2,sW (kd ns j)=true→CFS nf M ns A G Fs j.toNat∧((j.toNat:Nat):Int)=j:=fun j hj hc=>by
   have hj2:=hn.cB j hj;obtain⟨y,e1,e2,e3⟩:=uB (ns:=ns) hj2.1 (by omega)
   exact⟨ih j.toNat (by omega) (by omega) fun y' E9=>by rw [e1] at E9;cases E9;rw [←e2];exact hc,Int.toNat_of_nonneg hj2.1⟩
  have dn:=hn.shp;by_cases h33:x.1=33
  ·rw [h33] at dn
   obtain⟨a,hK⟩:∃ a,x.2.2.2.2 = [a]:=by
    rcases h:x.2.2.2.2 with _ |⟨a,_ |⟨b,r⟩⟩
    ·rw [h] at dn;simp [b9] at dn
    ·exact⟨a,rfl⟩
    ·rw [h] at dn;simp [b9] at dn
   rw [hK] at dn;obtain⟨ca,ea⟩:=I7 a (by rw [hK];simp) (by simpa [b9] using dn)
   unfold CFS at ca;rw [ea] at ca;rw [hK,oJ] at hw;refine Ev.succ (ca.mono fun k e fn O H E En fr to p y z hg f0 f1 p0 p1 hO hE=>?_);obtain⟨O',H',E',w1,w2⟩:=e fn O H E En fr to p z y hg f0 f1 p0 p1 (by omega) (by omega)
   refine⟨O',H',E',?_,⟨w2.fg,w2.lo,by have:=w2.hi;omega,by have:=w2.eh;omega⟩⟩
   simp only [go_sem,jK,nt,zJ,h33,hK,show bH [a] 0=some a from rfl,w1]
  by_cases wy:x.1=31∨x.1=32
  ·obtain⟨a,b,hK⟩:∃ a b,x.2.2.2.2 = [a,b]:=by
    rcases h:x.2.2.2.2 with _ |⟨a,_ |⟨b,_ |⟨c,r⟩⟩⟩
    ·rcases wy with wy | wy<;>(rw [h,wy] at dn;simp [b9] at dn)
    ·rcases wy with wy | wy<;>(rw [h,wy] at dn;simp [b9] at dn)
    ·exact⟨a,b,rfl⟩
    ·rcases wy with wy | wy<;>(rw [h,wy] at dn;simp [b9] at dn)
   have hab:sW (kd ns a)=true∧sW (kd ns b)=true:=by rcases wy with wy | wy<;>(rw [hK,wy] at dn;simpa [b9] using dn)
   obtain⟨ca,ea⟩:=I7 a (by rw [hK];simp) hab.1
   obtain⟨cb,eb⟩:=I7 b (by rw [hK];simp) hab.2
   unfold CFS at ca cb;rw [ea] at ca;rw [eb] at cb;rw [hK,xH] at hw;refine Ev.succ ((ca.and cb).mono fun k e fn O H E En fr to p y z hg f0 f1 p0 p1 hO hE=>?_);obtain⟨ca,cb⟩:=e;have hp:=qN hg (show O.length≤2000000 by omega) fn false
   rcases wy with wy | wy
   ·obtain⟨O1,H1,E1,w1,w2⟩:=ca fn (O ++ [fn]) (H ++ [false]) E En fr to p (O.length:Int) z (hg.nZ f0 f1 _) f0 f1 p0 (by simp;omega) (by simp;omega) (by omega)
    have l1:=w2.lo;have l2:=w2.hi;have l3:=w2.eh;simp only [List.length_append,List.length_cons,List.length_nil] at l1 l2;obtain⟨O2,H2,E2,w3,w4⟩:=cb fn O1 H1 E1 En fr to (O.length:Int) y z w2.fg f0 f1 (by omega) (by omega) (by omega) (by omega)
    have k1:=w4.lo;have k2:=w4.hi;have k3:=w4.eh;refine⟨O2,H2,E2,?_,⟨w4.fg,by omega,by omega,by omega⟩⟩
    simp only [go_sem,jK,nt,zJ,wy,show((31:Int) == 33)=false from rfl,hK,hp,show bH [a,b] 0=some a from rfl,w1,show bH [a,b] 1=some b from rfl,w3]
   ·obtain⟨O1,H1,E1,w1,w2⟩:=ca fn (O ++ [fn]) (H ++ [false]) E En fr to p y (O.length:Int) (hg.nZ f0 f1 _) f0 f1 p0 (by simp;omega) (by simp;omega) (by omega)
    have l1:=w2.lo;have l2:=w2.hi;have l3:=w2.eh;simp only [List.length_append,List.length_cons,List.length_nil] at l1 l2;obtain⟨O2,H2,E2,w3,w4⟩:=cb fn O1 H1 E1 En fr to (O.length:Int) y z w2.fg f0 f1 (by omega) (by omega) (by omega) (by omega)
    have k1:=w4.lo;have k2:=w4.hi;have k3:=w4.eh;refine⟨O2,H2,E2,?_,⟨w4.fg,by omega,by omega,by omega⟩⟩
    simp only [go_sem,jK,nt,zJ,wy,show((32:Int) == 33)=false from rfl,show((32:Int) == 31)=false from rfl,hK,hp,show bH [a,b] 0=some a from rfl,w1,show bH [a,b] 1=some b from rfl,w3]
  ·simp only [not_or] at wy
   refine Ev.succ (Ev.of fun k fn O H E En fr to p y z hg f0 f1 p0 p1 hO hE=>?_);refine⟨O,H,E ++ [(p,y,3,(i:Int),1)] ++ [(p,z,3,(i:Int),0)],?_,⟨(hg.yF p0 p1 (fun h=>absurd h (by decide))).yF p0 p1 (fun h=>absurd h (by decide)),by omega,by omega,by simp;omega⟩⟩
   simp only [go_sem,jK,nt,zJ,beq_eq_false_iff_ne.2 h33,beq_eq_false_iff_ne.2 wy.1,beq_eq_false_iff_ne.2 wy.2,tO (show E.length≤2000000 by omega),tO (show(E ++ [(p,y,3,(i:Int),1)]).length≤2000000 by simp;omega)]
end
end Go.Fx.R5
namespace Go.Fx.R5
open Go Go.Fx
def Th(ns:List eq)(M:Nat)(pl:XI):Prop:=∀(j:Nat) (x:eq),ns[j]? = some x→x.1=23→∃ v,pl[j]? = some v∧0≤v∧v < (M:Int)
structure aaG(nf M:Nat)(O:XI)(E:ES)(w:Nat)(O':XI)(H':XB)(E':ES):Prop where
 fg:FG nf M O' H' E'
 lo:O.length≤O'.length
 hi:O'.length + 1≤O.length + 5 * w
 eh:E'.length + 1≤E.length + 5 * w
theorem D6(ns:List eq)(a:Int)(l:XI):jA ns (a :: l)=wt ns a + jA ns l:=by simp [jA]
section
variable {nf M:Nat} {ns:List eq} {A:AS} {G:XS} {Fs:FS}
theorem RX(k:Nat):jy (k + 1)=mD (jy k) (gn k) k:=rfl
theorem th(k:Nat):gn (k + 1)=cP (jy k) (gn k) k:=rfl
def SFI(nf M:Nat)(ns:List eq)(A:AS)(G:XS)(Fs:FS)(i:Nat):Prop:=Ev fun k=>∀(ki pl:XI),Th ns M pl→∀(fn:Int) (O:XI) (H:XB) (E:ES) (En:XI) (la:SPS) (p q:Int),FG nf M O H E→0≤fn→fn < nf→0≤p→p < O.length→la.length=ns.length→O.length + 5 * wt ns (i:Int)≤1000000→E.length + 5 * wt ns (i:Int)≤1000000→
 ∃ O' H' E' la',gn k fn O En H E la ns A G Fs ki pl [] [] [] [] [] [] [] (i:Int) p q=some (O',H',E',la',())∧aaG nf M O E (wt ns (i:Int)) O' H' E'∧la'.length=ns.length
def BFI(nf M:Nat)(ns:List eq)(A:AS)(G:XS)(Fs:FS)(i:Nat):Prop:=Ev fun k=>∀(ki pl:XI),Th ns M pl→∀(fn:Int) (O:XI) (H:XB) (E:ES) (En:XI) (la:SPS) (p q:Int),FG nf M O H E→0≤fn→fn < nf→0≤p→p < O.length→la.length=ns.length→O.length + 5 * wt ns (i:Int)≤1000000→E.length + 5 * wt ns (i:Int)≤1000000→
 ∃ O' H' E' la',jy k fn O En H E la ns A G Fs ki pl [] [] [] [] [] [] [] (i:Int) p q=some (O',H',E',la',())∧Rd nf M O E (wt ns (i:Int)) O' H' E'∧la'.length=ns.length
theorem Rk{K:XI}(zA:K.length≤5000)(vO:∀ j∈K,1≤wt ns j)(hK:∀ j∈K,((j.toNat:Nat):Int)=j∧SFI nf M ns A G Fs j.toNat):∀ m s,m + s=K.length→co fun qq k=>∀(ki pl:XI),Th ns M pl→∀(fn:Int) (O:XI) (H:XB) (E:ES) (En:XI) (la:SPS) (p q:Int),FG nf M O H E→0≤fn→fn < nf→(s < K.length→0≤p∧p < O.length)→la.length=ns.length→
  O.length + 5 * jA ns (K.drop s)≤1000000→E.length + 5 * jA ns (K.drop s)≤1000000→
  ∃ O' H' E' la',gU (jy qq) (gn qq) qq k ns A G Fs ki pl [] [] [] [] [] [] [] fn En q K K (K.length:Int) O H E la p (s:Int)=some (O',H',E',la',())∧Rd nf M O E (jA ns (K.drop s)) O' H' E'∧la'.length=ns.length
 |0,s,h=>by
  have h2:¬ s < K.length:=by omega
  refine co.succ (co.of fun qq k ki pl vF fn O H E En la p q hg f0 f1 hp KW hO hE=>⟨O,H,E,la,?_,⟨hg,by omega,by omega,by omega⟩,KW⟩)
  simp only [go_sem,gU,Int.ofNat_lt,h2]
 |m + 1,s,h=>by
  have bo:s < K.length:=by omega
  have hd:K.drop s=K[s] :: K.drop (s + 1):=List.drop_eq_getElem_cons bo;obtain⟨ej,hj⟩:=hK _ (List.getElem_mem bo);have hks:jA ns (K.drop s)=wt ns K[s] + jA ns (K.drop (s + 1)):=by rw [hd,D6]
  unfold SFI at hj;rw [ej] at hj;refine co.succ ((hj.tX.and (Rk zA vO hK m (s + 1) (by omega))).mono fun qq k e ki pl vF fn O H E En la p q hg f0 f1 hp KW hO hE=>?_)
  obtain⟨e1,e2⟩:=e;obtain⟨p0,p1⟩:=hp bo;have hw1:dq ((K.length:Int) - 1)=((K.length - 1:Nat):Int):=by rw [eM (by omega) (by omega)];omega
  rw [hks] at hO hE;by_cases hl:s < K.length - 1
  ·have hpt:=pP hg (show O.length≤2000000 by omega) fn false
   have AX:=hg.nZ f0 f1 false;by_cases ZH:(O ++ [fn]).length + 5 * wt ns K[s]≤1000000
   ·obtain⟨O1,H1,E1,la1,w1,w2,w3⟩:=e1 ki pl vF fn (O ++ [fn]) (H ++ [false]) E En la p (O.length:Int) AX f0 f1 p0 (by simp;omega) KW ZH (by omega)
    have l1:=w2.lo;have l2:=w2.hi;have l3:=w2.eh;simp only [List.length_append,List.length_cons,List.length_nil] at l1 l2;obtain⟨O2,H2,E2,la2,w4,w5,w6⟩:=e2 ki pl vF fn O1 H1 E1 En la1 (O.length:Int) q w2.fg f0 f1 (fun _=>⟨by omega,by omega⟩) w3 (by omega) (by omega)
    have k1:=w5.lo;have k2:=w5.hi;have k3:=w5.eh;refine⟨O2,H2,E2,la2,?_,⟨w5.fg,by omega,by rw [hks];omega,by rw [hks];omega⟩,w6⟩
    simp only [go_sem,gU,aa,Int.ofNat_lt,bo,cQ bo,hw1,hl,hpt,w1,af (show s < _ by omega),w4]
   ·exfalso
    simp only [List.length_append,List.length_cons,List.length_nil] at ZH;have L7:s + 1 < K.length:=by omega
    have hd2:K.drop (s + 1)=K[s + 1] :: K.drop (s + 1 + 1):=List.drop_eq_getElem_cons L7;rw [hd2,D6] at hO;have:=vO K[s + 1] (List.getElem_mem L7);omega
  ·obtain⟨O1,H1,E1,la1,w1,w2,w3⟩:=e1 ki pl vF fn O H E En la p q hg f0 f1 p0 p1 KW (by omega) (by omega)
   have l1:=w2.lo;have l2:=w2.hi;have l3:=w2.eh;obtain⟨O2,H2,E2,la2,w4,w5,w6⟩:=e2 ki pl vF fn O1 H1 E1 En la1 q q w2.fg f0 f1 (fun hh=>by omega) w3 (by omega) (by omega)
   have k1:=w5.lo;have k2:=w5.hi;have k3:=w5.eh;refine⟨O2,H2,E2,la2,?_,⟨w5.fg,by omega,by rw [hks];omega,by rw [hks];omega⟩,w6⟩
   simp only [go_sem,gU,aa,Int.ofNat_lt,bo,cQ bo,hw1,hl,w1,af (show s < _ by omega),w4]
theorem abx{i:Nat}{x:eq}(hx:ns[i]? = some x)(hn:nO ns i x)(hw:wt ns (i:Int)=1 + jA ns x.2.2.2.2)(vO:∀ j∈x.2.2.2.2,1≤wt ns j)(hK:∀ j∈x.2.2.2.2,((j.toNat:Nat):Int)=j∧SFI nf M ns A G Fs j.toNat):BFI nf M ns A G Fs i:=by
 refine Ev.succ ((Rk (by have:=hn.nm.2;omega) vO hK x.2.2.2.2.length 0 rfl).jN.mono fun k e ki pl vF fn O H E En la p q hg f0 f1 p0 p1 KW hO hE=>?_)
 rw [List.drop_zero] at e;by_cases h0:x.2.2.2.2.length=0
 ·refine⟨O,H,E ++ [(p,q,1,-1,0)],la,?_,⟨hg.yF p0 p1 (fun h=>absurd h (by decide)),by omega,by omega,by simp;omega⟩,KW⟩
  simp only [go_sem,RX,mD,bj hx,h0,show(((0:Nat):Int) == 0)=true from rfl,sj (show E.length≤2000000 by omega)]
 ·obtain⟨O',H',E',la',w1,w2,w3⟩:=e ki pl vF fn O H E En la p q hg f0 f1 (fun _=>⟨p0,p1⟩) KW (by omega) (by omega)
  refine⟨O',H',E',la',?_,⟨w2.fg,w2.lo,by have:=w2.hi;omega,by have:=w2.eh;omega⟩,w3⟩
  have w1:gU (jy k) (gn k) k k ns A G Fs ki pl [] [] [] [] [] [] [] fn En q x.2.2.2.2 x.2.2.2.2 (x.2.2.2.2.length:Int) O H E la p 0=_:=w1;simp only [go_sem,RX,mD,bj hx,show((x.2.2.2.2.length:Int) == 0)=false from beq_eq_false_iff_ne.2 (by omega),w1]
theorem acC(fo:jl ns){i:Nat}{x:eq}(hx:ns[i]? = some x)(hn:nO ns i x)(hw:wt ns (i:Int)=1 + jA ns x.2.2.2.2)(IH:∀ j∈x.2.2.2.2,((j.toNat:Nat):Int)=j∧(kd ns j=8→BFI nf M ns A G Fs j.toNat)):SFI nf M ns A G Fs i:=by
 have dn:=hn.shp;have zJ:bH ns (i:Int)=some x:=bj hx;have EJ:i < ns.length:=(List.getElem?_eq_some_iff.1 hx).1;have NF:∀(la:SPS) (v:Int×Int×Int×Int),la.length=ns.length→∃ y,bH la (i:Int)=some y∧(la.set i v).length=ns.length:=fun la v KW=>⟨la[i]'(by omega),cQ (by omega),by simp [KW]⟩
 have Mj:∀ j∈x.2.2.2.2,sW (kd ns j)=true→((j.toNat:Nat):Int)=j∧CFI nf M ns A G Fs j.toNat:=fun j hj hc=>by
  have hj2:=hn.cB j hj;obtain⟨y,e1,e2,e3⟩:=uB (ns:=ns) hj2.1 (by omega)
  exact⟨Int.toNat_of_nonneg hj2.1,Zu fo (j.toNat + 1) j.toNat (by omega) (by omega) fun y' E9=>by rw [e1] at E9;cases E9;rw [←e2];exact hc⟩
 by_cases h14:x.1=14
 ·rw [h14] at dn
  have hb:∃ a b r,x.2.2.2.2=a :: b :: r∧sW (kd ns a)=true∧kd ns b=8∧(r = []∨∃ c,r = [c]∧kd ns c=8):=by
   rcases h:x.2.2.2.2 with _ |⟨a,_ |⟨b,_ |⟨c,_ |⟨d,r⟩⟩⟩⟩
   ·rw [h] at dn;simp [b9] at dn
   ·rw [h] at dn;simp [b9] at dn
   ·rw [h] at dn;simp [b9] at dn;exact⟨a,b,[],rfl,dn.1,dn.2,.inl rfl⟩
   ·rw [h] at dn;simp [b9] at dn;exact⟨a,b,[c],rfl,dn.1.1,dn.1.2,.inr ⟨c,rfl,dn.2⟩⟩
   ·rw [h] at dn;simp [b9] at dn
  obtain⟨a,b,r,hK,ha,hb,hr⟩:=hb;obtain⟨ea,ca⟩:=Mj a (by rw [hK];simp) ha
  obtain⟨eb,cb⟩:=IH b (by rw [hK];simp)
  have cb:=cb hb;unfold CFI at ca;unfold BFI at cb;rw [ea] at ca;rw [eb] at cb;rcases hr with rfl |⟨c,rfl,hc8⟩
  ·rw [hK,xH] at hw
   refine Ev.succ ((ca.and cb).mono fun k e ki pl vF fn O H E En la p q hg f0 f1 p0 p1 KW hO hE=>?_);obtain⟨ca,cb⟩:=e;have hp:=pP hg (show O.length≤2000000 by omega) fn false
   obtain⟨O1,H1,E1,w1,w2⟩:=ca fn (O ++ [fn]) (H ++ [false]) E En la ki pl p (O.length:Int) q (hg.nZ f0 f1 _) f0 f1 p0 (by simp;omega) (by simp;omega) (by omega)
   have l1:=w2.lo;have l2:=w2.hi;have l3:=w2.eh;simp only [List.length_append,List.length_cons,List.length_nil] at l1 l2;obtain⟨O2,H2,E2,la2,w3,w4,w5⟩:=cb ki pl vF fn O1 H1 E1 En la (O.length:Int) q w2.fg f0 f1 (by omega) (by omega) KW (by omega) (by omega)
   have k1:=w4.lo;have k2:=w4.hi;have k3:=w4.eh;obtain⟨y,y1,y2⟩:=NF la2 (p,q,(O.length:Int),q) w5;refine⟨O2,H2,E2,la2.set i (p,q,(O.length:Int),q),?_,⟨w4.fg,by omega,by omega,by omega⟩,y2⟩
   simp only [go_sem,th,cP,aa,zJ,h14,hp,hK,List.length_cons,List.length_nil,show(((0 + 1 + 1:Nat):Int) == 3)=false from rfl,show bH [a,b] 0=some a from rfl,w1,show bH [a,b] 1=some b from rfl,w3,Int.toNat_natCast,y1]
  ·obtain⟨ec,cc⟩:=IH c (by rw [hK];simp)
   have cc:=cc hc8;unfold BFI at cc;rw [ec] at cc;rw [hK,OD] at hw;refine Ev.succ ((ca.and (cb.and cc)).mono fun k e ki pl vF fn O H E En la p q hg f0 f1 p0 p1 KW hO hE=>?_);obtain⟨ca,cb,cc⟩:=e;have hp:=pP hg (show O.length≤2000000 by omega) fn false
   have AX:=hg.nZ f0 f1 false;have GE:=pP AX (show(O ++ [fn]).length≤2000000 by simp;omega) fn false
   have KU:=AX.nZ f0 f1 false;obtain⟨O1,H1,E1,w1,w2⟩:=ca fn (O ++ [fn] ++ [fn]) (H ++ [false] ++ [false]) E En la ki pl p (O.length:Int) ((O ++ [fn]).length:Int) KU f0 f1 p0 (by simp;omega) (by simp;omega) (by omega)
   have l1:=w2.lo;have l2:=w2.hi;have l3:=w2.eh;simp only [List.length_append,List.length_cons,List.length_nil] at l1 l2;obtain⟨O2,H2,E2,la2,w3,w4,w5⟩:=cb ki pl vF fn O1 H1 E1 En la (O.length:Int) q w2.fg f0 f1 (by omega) (by omega) KW (by omega) (by omega)
   have k1:=w4.lo;have k2:=w4.hi;have k3:=w4.eh;obtain⟨O3,H3,E3,la3,w6,w7,w8⟩:=cc ki pl vF fn O2 H2 E2 En la2 ((O ++ [fn]).length:Int) q w4.fg f0 f1 (by omega) (by simp;omega) w5 (by omega) (by omega)
   have j1:=w7.lo;have j2:=w7.hi;have j3:=w7.eh;obtain⟨y,y1,y2⟩:=NF la3 (p,q,(O.length:Int),((O ++ [fn]).length:Int)) w8;refine⟨O3,H3,E3,la3.set i (p,q,(O.length:Int),((O ++ [fn]).length:Int)),?_,⟨w7.fg,by omega,by omega,by omega⟩,y2⟩
   simp only [go_sem,th,cP,aa,zJ,h14,hp,GE,hK,show((([a,b,c]:XI).length:Int) == 3)=true from rfl,show bH [a,b,c] 0=some a from rfl,w1,show bH [a,b,c] 1=some b from rfl,w3,show bH [a,b,c] 2=some c from rfl,w6,Int.toNat_natCast,y1]
 by_cases h15:x.1=15
 ·rw [h15] at dn
  obtain⟨a,b,hK,ha,hb⟩:∃ a b,x.2.2.2.2 = [a,b]∧sW (kd ns a)=true∧kd ns b=8:=by
   rcases h:x.2.2.2.2 with _ |⟨a,_ |⟨b,_ |⟨c,r⟩⟩⟩
   ·rw [h] at dn;simp [b9] at dn
   ·rw [h] at dn;simp [b9] at dn
   ·rw [h] at dn;simp [b9] at dn;exact⟨a,b,rfl,dn.1,dn.2⟩
   ·rw [h] at dn;simp [b9] at dn
  obtain⟨ea,ca⟩:=Mj a (by rw [hK];simp) ha
  obtain⟨eb,cb⟩:=IH b (by rw [hK];simp)
  have cb:=cb hb;unfold CFI at ca;unfold BFI at cb;rw [ea] at ca;rw [eb] at cb;rw [hK,xH] at hw;refine Ev.succ ((ca.and cb).mono fun k e ki pl vF fn O H E En la p q hg f0 f1 p0 p1 KW hO hE=>?_);obtain⟨ca,cb⟩:=e;have hp:=pP hg (show O.length≤2000000 by omega) fn true
  have AX:=hg.nZ f0 f1 true;have GE:=pP AX (show(O ++ [fn]).length≤2000000 by simp;omega) fn false
  have KU:=(AX.nZ f0 f1 false).yF (f:=p) (t:=(O.length:Int)) (k:=1) (n:=-1) (a:=0) p0 (by simp<;>omega) (fun h=>absurd h (by decide))
  obtain⟨O1,H1,E1,w1,w2⟩:=ca fn (O ++ [fn] ++ [fn]) (H ++ [true] ++ [false]) (E ++ [(p,(O.length:Int),1,-1,0)]) En la ki pl (O.length:Int) ((O ++ [fn]).length:Int) q KU f0 f1 (by omega) (by simp;omega) (by simp;omega) (by simp;omega)
  have l1:=w2.lo;have l2:=w2.hi;have l3:=w2.eh;simp only [List.length_append,List.length_cons,List.length_nil] at l1 l2 l3;obtain⟨O2,H2,E2,la2,w3,w4,w5⟩:=cb ki pl vF fn O1 H1 E1 En la ((O ++ [fn]).length:Int) (O.length:Int) w2.fg f0 f1 (by omega) (by simp;omega) KW (by omega) (by omega)
  have k1:=w4.lo;have k2:=w4.hi;have k3:=w4.eh;obtain⟨y,y1,y2⟩:=NF la2 (p,q,((O ++ [fn]).length:Int),q) w5;refine⟨O2,H2,E2,la2.set i (p,q,((O ++ [fn]).length:Int),q),?_,⟨w4.fg,by omega,by omega,by omega⟩,y2⟩
  simp only [go_sem,th,cP,aa,zJ,h15,show((15:Int) == 14)=false from rfl,hp,GE,sj (show E.length≤2000000 by omega),hK,show bH [a,b] 0=some a from rfl,w1,show bH [a,b] 1=some b from rfl,w3,Int.toNat_natCast,y1]
 by_cases E6:x.1=16
 ·rw [E6] at dn
  obtain⟨a,b,c,hK,hb⟩:∃ a b c,x.2.2.2.2 = [a,b,c]∧kd ns c=8:=by
   rcases h:x.2.2.2.2 with _ |⟨a,_ |⟨b,_ |⟨c,_ |⟨d,r⟩⟩⟩⟩
   ·rw [h] at dn;simp [b9] at dn
   ·rw [h] at dn;simp [b9] at dn
   ·rw [h] at dn;simp [b9] at dn
   ·rw [h] at dn;simp [b9] at dn;exact⟨a,b,c,rfl,dn.2⟩
   ·rw [h] at dn;simp [b9] at dn
  obtain⟨ec,cc⟩:=IH c (by rw [hK];simp)
  have cc:=cc hb;unfold BFI at cc;rw [ec] at cc;rw [hK,OD] at hw;refine Ev.succ (cc.mono fun k cc ki pl vF fn O H E En la p q hg f0 f1 p0 p1 KW hO hE=>?_);have hp:=pP hg (show O.length≤2000000 by omega) fn true
  have AX:=hg.nZ f0 f1 true;have GE:=pP AX (show(O ++ [fn]).length≤2000000 by simp;omega) fn false
  have KU:=AX.nZ f0 f1 false;have hg3:=KU.yF (f:=p) (t:=(O.length:Int)) (k:=8) (n:=(i:Int)) (a:=0) p0 (by simp<;>omega) (fun h=>absurd h (by decide))
  have hg4:=hg3.yF (f:=(O.length:Int)) (t:=((O ++ [fn]).length:Int)) (k:=9) (n:=(i:Int)) (a:=1) (by omega) (by simp<;>omega) (fun h=>absurd h (by decide))
  have hg5:=hg4.yF (f:=(O.length:Int)) (t:=q) (k:=9) (n:=(i:Int)) (a:=0) (by omega) (by simp<;>omega) (fun h=>absurd h (by decide))
  have hp3:=pP hg5 (show(O ++ [fn] ++ [fn]).length≤2000000 by simp;omega) fn false
  have hg6:=hg5.nZ f0 f1 false;obtain⟨O2,H2,E2,la2,w3,w4,w5⟩:=cc ki pl vF fn _ _ _ En la ((O ++ [fn]).length:Int) ((O ++ [fn] ++ [fn]).length:Int) hg6 f0 f1 (by simp<;>omega) (by simp<;>omega) KW (by simp<;>omega) (by simp<;>omega)
  have k1:=w4.lo;have k2:=w4.hi;have k3:=w4.eh;simp only [List.length_append,List.length_cons,List.length_nil] at k1 k2 k3;obtain⟨y,y1,y2⟩:=NF la2 (p,q,((O ++ [fn]).length:Int),q) w5;refine⟨O2,H2,E2 ++ [(((O ++ [fn] ++ [fn]).length:Int),(O.length:Int),10,(i:Int),0)],la2.set i (p,q,((O ++ [fn]).length:Int),q),?_,⟨w4.fg.yF (by omega) (by simp;omega) (fun h=>absurd h (by decide)),by omega,by omega,by simp;omega⟩,y2⟩
  simp only [go_sem,th,cP,aa,zJ,E6,show((16:Int) == 14)=false from rfl,show((16:Int) == 15)=false from rfl,hp,GE,sj (show E.length≤2000000 by omega),sj (show(E ++ [(p,(O.length:Int),8,(i:Int),0)]).length≤2000000 by simp;omega),sj (show(E ++ [(p,(O.length:Int),8,(i:Int),0)] ++ [((O.length:Int),((O ++ [fn]).length:Int),9,(i:Int),1)]).length≤2000000 by simp;omega),hp3,hK,show bH [a,b,c] 2=some c from rfl,w3,sj (show E2.length≤2000000 by omega),Int.toNat_natCast,y1]
 by_cases h19:x.1=19
 ·rw [h19] at dn
  obtain⟨a,hK,ha⟩:∃ a,x.2.2.2.2 = [a]∧sW (kd ns a)=true:=by
   rcases h:x.2.2.2.2 with _ |⟨a,_ |⟨b,r⟩⟩
   ·rw [h] at dn;simp [b9] at dn
   ·rw [h] at dn;simp [b9] at dn;exact⟨a,rfl,dn⟩
   ·rw [h] at dn;simp [b9] at dn
  obtain⟨ea,ca⟩:=Mj a (by rw [hK];simp) ha
  unfold CFI at ca;rw [ea] at ca;rw [hK,oJ] at hw;refine Ev.succ (ca.mono fun k ca ki pl vF fn O H E En la p q hg f0 f1 p0 p1 KW hO hE=>?_);have hp:=pP hg (show O.length≤2000000 by omega) fn false
  obtain⟨O1,H1,E1,w1,w2⟩:=ca fn (O ++ [fn]) (H ++ [false]) E En la ki pl p q (O.length:Int) (hg.nZ f0 f1 _) f0 f1 p0 (by simp;omega) (by simp;omega) (by omega)
  have l1:=w2.lo;have l2:=w2.hi;have l3:=w2.eh;simp only [List.length_append,List.length_cons,List.length_nil] at l1 l2;obtain⟨y,y1,y2⟩:=NF la (p,q,q,(O.length:Int)) KW;refine⟨O1,H1,E1 ++ [((O.length:Int),(O.length:Int),4,(i:Int),0)],la.set i (p,q,q,(O.length:Int)),?_,⟨w2.fg.yF (by omega) (by omega) (fun h=>absurd h (by decide)),by omega,by omega,by simp;omega⟩,y2⟩
  simp only [go_sem,th,cP,aa,zJ,h19,show((19:Int) == 14)=false from rfl,show((19:Int) == 15)=false from rfl,show((19:Int) == 16)=false from rfl,hp,hK,show bH [a] 0=some a from rfl,w1,sj (show E1.length≤2000000 by omega),Int.toNat_natCast,y1]
 have one:∀(mk:XI→Int→Int→Int×Int×Int×Int×Int),(∀ pl p q,Th ns M pl→(mk pl p q).1=p∧((mk pl p q).2.2.1=5→0≤(mk pl p q).2.2.2.2∧(mk pl p q).2.2.2.2 < (M:Int)))→
   (∀ k ki pl fn O H E En la p q y,Th ns M pl→E.length≤2000000→bH la (i:Int)=some y→gn (k + 1) fn O En H E la ns A G Fs ki pl [] [] [] [] [] [] [] (i:Int) p q=some (O,H,E ++ [mk pl p q],la.set i (p,q,0,0),()))→SFI nf M ns A G Fs i:=fun mk h1 h2=>
  Ev.succ (Ev.of fun k ki pl vF fn O H E En la p q hg f0 f1 p0 p1 KW hO hE=>by
   obtain⟨y,y1,y2⟩:=NF la (p,q,0,0) KW;obtain⟨g1,g2⟩:=h1 pl p q vF;refine⟨O,H,E ++ [mk pl p q],_,h2 k ki pl fn O H E En la p q y vF (by omega) y1,⟨?_,by omega,by omega,by simp;omega⟩,y2⟩
   have:=hg.yF (f:=(mk pl p q).1) (t:=(mk pl p q).2.1) (k:=(mk pl p q).2.2.1) (n:=(mk pl p q).2.2.2.1) (a:=(mk pl p q).2.2.2.2) (by rw [g1];exact p0) (by rw [g1];exact p1) g2
   exact this)
 have n14:=beq_eq_false_iff_ne.2 h14;have n15:=beq_eq_false_iff_ne.2 h15;have n16:=beq_eq_false_iff_ne.2 E6;have n19:=beq_eq_false_iff_ne.2 h19;by_cases h21:x.1=21
 ·refine one (fun _ p q=>(p,p,6,(i:Int),0)) (fun pl p q _=>⟨rfl,fun h=>by simp at h⟩) (fun k ki pl fn O H E En la p q y _ hE hy=>?_)
  simp only [go_sem,th,cP,aa,zJ,h21,show((21:Int) == 14)=false from rfl,show((21:Int) == 15)=false from rfl,show((21:Int) == 16)=false from rfl,show((21:Int) == 19)=false from rfl,sj hE,Int.toNat_natCast,hy]
 have n21:=beq_eq_false_iff_ne.2 h21;by_cases h20:x.1=20
 ·refine one (fun _ p q=>(p,p,7,(i:Int),0)) (fun pl p q _=>⟨rfl,fun h=>by simp at h⟩) (fun k ki pl fn O H E En la p q y _ hE hy=>?_)
  simp only [go_sem,th,cP,aa,zJ,h20,show((20:Int) == 14)=false from rfl,show((20:Int) == 15)=false from rfl,show((20:Int) == 16)=false from rfl,show((20:Int) == 19)=false from rfl,show((20:Int) == 21)=false from rfl,sj hE,Int.toNat_natCast,hy]
 have n20:=beq_eq_false_iff_ne.2 h20;by_cases Dd:x.1=22
 ·rw [Dd] at dn
  obtain⟨u,r,hK,hu⟩:∃ u r,x.2.2.2.2=u :: r∧kd ns u=23:=by
   cases h:x.2.2.2.2 with
   |nil=>rw [h] at dn;simp [b9] at dn
   |cons u r=>rw [h] at dn;simp [b9] at dn;exact⟨u,r,rfl,dn.1⟩
  have hu2:=hn.cB u (by rw [hK];simp)
  obtain⟨y,e1,e2,e3⟩:=uB (ns:=ns) hu2.1 (by omega)
  refine one (fun pl p q=>(p,q,5,(i:Int),(pl[u.toNat]?).getD 0)) (fun pl p q vF=>?_) (fun k ki pl fn O H E En la p q y' vF hE hy=>?_)
  ·obtain⟨v,v1,v2,v3⟩:=vF u.toNat y e1 (by rw [←e2];exact hu)
   refine⟨rfl,fun _=>?_⟩;simp only [v1,Option.getD_some];exact⟨v2,v3⟩
  obtain⟨v,v1,v2,v3⟩:=vF u.toNat y e1 (by rw [←e2];exact hu)
  have iu:bH pl u=some v:=by rw [←Int.toNat_of_nonneg hu2.1];exact bj v1
  have iu2:bH pl ((u.toNat:Nat):Int)=some v:=bj v1;simp only [v1,Option.getD_some];simp only [go_sem,th,cP,aa,zJ,Dd,show((22:Int) == 14)=false from rfl,show((22:Int) == 15)=false from rfl,show((22:Int) == 16)=false from rfl,show((22:Int) == 19)=false from rfl,show((22:Int) == 21)=false from rfl,show((22:Int) == 20)=false from rfl,hK,show bH (u :: r) 0=some u from rfl,iu,iu2,sj hE,Int.toNat_natCast,hy]
 have n22:=beq_eq_false_iff_ne.2 Dd;refine one (fun _ p q=>(p,q,2,(i:Int),0)) (fun pl p q _=>⟨rfl,fun h=>by simp at h⟩) (fun k ki pl fn O H E En la p q y _ hE hy=>?_)
 simp only [go_sem,th,cP,aa,zJ,n14,n15,n16,n19,n21,n20,n22,sj hE,Int.toNat_natCast,hy]
theorem VT(fo:jl ns):∀ n i,i < n→i < ns.length→(kd ns (i:Int)=8→BFI nf M ns A G Fs i)∧SFI nf M ns A G Fs i:=by
 intro n;induction n with
 |zero=>intro i h;omega
 |succ n ih=>
  intro i hi hl;have hx:ns[i]? = some ns[i]:=by simp [hl]
  have hn:=fo i _ hx;have hw:=Nb hx hn.cB;have I7:∀ j∈ns[i].2.2.2.2,((j.toNat:Nat):Int)=j∧j.toNat < n∧j.toNat < ns.length:=fun j hj=>by have:=hn.cB j hj;exact⟨Int.toNat_of_nonneg this.1,by omega,by omega⟩
  refine⟨fun h8=>abx hx hn hw (fun j hj=>?_) fun j hj=>⟨(I7 j hj).1,(ih j.toNat (I7 j hj).2.1 (I7 j hj).2.2).2⟩,acC fo hx hn hw fun j hj=>⟨(I7 j hj).1,fun h8=>(ih j.toNat (I7 j hj).2.1 (I7 j hj).2.2).1 (by rw [(I7 j hj).1];exact h8)⟩⟩
  have hj:=hn.cB j hj;obtain⟨y,e1,e2,e3⟩:=uB (ns:=ns) hj.1 (by omega)
  have:=Nb e1 (fo _ _ e1).cB;rw [Int.toNat_of_nonneg hj.1] at this;omega
end
end Go.Fx.R5
namespace Go.Fx.R5
open Go Go.Fx
section
variable {nf M:Nat} {ns:List eq} {A:AS} {G:XS} {Fs:FS}
theorem SR(k:Nat):iW (k + 1)=oG (iW k) (jL k) (mn k) k:=rfl
theorem tR(k:Nat):jL (k + 1)=fT (iW k) (jL k) (mn k) k:=rfl
theorem SS(k:Nat):mn (k + 1)=pB (iW k) (jL k) (mn k) k:=rfl
def SFS(nf M:Nat)(ns:List eq)(A:AS)(G:XS)(Fs:FS)(i:Nat):Prop:=Ev fun k=>∀(fn:Int) (O:XI) (H:XB) (E:ES) (En:XI) (fr to:XI) (p q:Int),FG nf M O H E→0≤fn→fn < nf→0≤p→p < O.length→fr.length=ns.length→to.length=ns.length→O.length + 5 * wt ns (i:Int)≤1000000→E.length + 5 * wt ns (i:Int)≤1000000→
 ∃ O' H' E' Oo Pm,jL k A G Fs ns fn O En H E fr to (i:Int) p q=some (O',H',E',Oo,Pm,())∧aaG nf M O E (wt ns (i:Int)) O' H' E'∧Oo.length=ns.length∧Pm.length=ns.length
def BFS(nf M:Nat)(ns:List eq)(A:AS)(G:XS)(Fs:FS)(i:Nat):Prop:=Ev fun k=>∀(fn:Int) (O:XI) (H:XB) (E:ES) (En:XI) (fr to:XI) (p q:Int),FG nf M O H E→0≤fn→fn < nf→0≤p→p < O.length→fr.length=ns.length→to.length=ns.length→O.length + 5 * wt ns (i:Int)≤1000000→E.length + 5 * wt ns (i:Int)≤1000000→
 ∃ O' H' E' Oo Pm,iW k A G Fs ns fn O En H E fr to (i:Int) p q=some (O',H',E',Oo,Pm,())∧Rd nf M O E (wt ns (i:Int)) O' H' E'∧Oo.length=ns.length∧Pm.length=ns.length
theorem Rl{K:XI}(zA:K.length≤5000)(vO:∀ j∈K,1≤wt ns j)(hK:∀ j∈K,((j.toNat:Nat):Int)=j∧SFS nf M ns A G Fs j.toNat):∀ m s,m + s=K.length→co fun qq k=>∀(fn:Int) (O:XI) (H:XB) (E:ES) (En:XI) (fr to:XI) (p q:Int),FG nf M O H E→0≤fn→fn < nf→(s < K.length→0≤p∧p < O.length)→fr.length=ns.length→to.length=ns.length→
  O.length + 5 * jA ns (K.drop s)≤1000000→E.length + 5 * jA ns (K.drop s)≤1000000→
  ∃ O' H' E' Oo Pm,ib (iW qq) (jL qq) (mn qq) qq k A G Fs ns fn En q K O H E fr to p (s:Int)=some (O',H',E',Oo,Pm,())∧Rd nf M O E (jA ns (K.drop s)) O' H' E'∧Oo.length=ns.length∧Pm.length=ns.length
 |0,s,h=>by
  have h2:¬ s < K.length:=by omega
  refine co.succ (co.of fun qq k fn O H E En fr to p q hg f0 f1 hp sV Il hO hE=>⟨O,H,E,fr,to,?_,⟨hg,by omega,by omega,by omega⟩,sV,Il⟩)
  simp only [go_sem,ib,Int.ofNat_lt,h2]
 |m + 1,s,h=>by
  have bo:s < K.length:=by omega
  have hd:K.drop s=K[s] :: K.drop (s + 1):=List.drop_eq_getElem_cons bo;obtain⟨ej,hj⟩:=hK _ (List.getElem_mem bo);have hks:jA ns (K.drop s)=wt ns K[s] + jA ns (K.drop (s + 1)):=by rw [hd,D6]
  unfold SFS at hj;rw [ej] at hj;refine co.succ ((hj.tX.and (Rl zA vO hK m (s + 1) (by omega))).mono fun qq k e fn O H E En fr to p q hg f0 f1 hp sV Il hO hE=>?_)
  obtain⟨e1,e2⟩:=e;obtain⟨p0,p1⟩:=hp bo;rw [hks] at hO hE;by_cases hl:s + 1 < K.length
  ·have hpt:=qN hg (show O.length≤2000000 by omega) fn false
   have AX:=hg.nZ f0 f1 false;have hd2:K.drop (s + 1)=K[s + 1] :: K.drop (s + 1 + 1):=List.drop_eq_getElem_cons hl;have hk2:1≤jA ns (K.drop (s + 1)):=by rw [hd2,D6];have:=vO K[s + 1] (List.getElem_mem hl);omega
   obtain⟨O1,H1,E1,fr1,to1,w1,w2,w3,w3'⟩:=e1 fn (O ++ [fn]) (H ++ [false]) E En fr to p (O.length:Int) AX f0 f1 p0 (by simp;omega) sV Il (by simp;omega) (by omega)
   have l1:=w2.lo;have l2:=w2.hi;have l3:=w2.eh;simp only [List.length_append,List.length_cons,List.length_nil] at l1 l2;obtain⟨O2,H2,E2,fr2,Ck,w4,w5,w6,w6'⟩:=e2 fn O1 H1 E1 En fr1 to1 (O.length:Int) q w2.fg f0 f1 (fun _=>⟨by omega,by omega⟩) w3 w3' (by omega) (by omega)
   have k1:=w5.lo;have k2:=w5.hi;have k3:=w5.eh;refine⟨O2,H2,E2,fr2,Ck,?_,⟨w5.fg,by omega,by rw [hks];omega,by rw [hks];omega⟩,w6,w6'⟩
   simp only [go_sem,ib,aa,Int.ofNat_lt,bo,cQ bo,af (show s < _ by omega),hl,hpt,w1,w4]
  ·obtain⟨O1,H1,E1,fr1,to1,w1,w2,w3,w3'⟩:=e1 fn O H E En fr to p q hg f0 f1 p0 p1 sV Il (by omega) (by omega)
   have l1:=w2.lo;have l2:=w2.hi;have l3:=w2.eh;obtain⟨O2,H2,E2,fr2,Ck,w4,w5,w6,w6'⟩:=e2 fn O1 H1 E1 En fr1 to1 q q w2.fg f0 f1 (fun hh=>by omega) w3 w3' (by omega) (by omega)
   have k1:=w5.lo;have k2:=w5.hi;have k3:=w5.eh;refine⟨O2,H2,E2,fr2,Ck,?_,⟨w5.fg,by omega,by rw [hks];omega,by rw [hks];omega⟩,w6,w6'⟩
   simp only [go_sem,ib,aa,Int.ofNat_lt,bo,cQ bo,af (show s < _ by omega),hl,w1,w4]
theorem at_len{α:Type}{l:List α}{i n:Nat}(hl:l.length=n)(hi:i < n):∃ y,bH l (i:Int)=some y:=⟨l[i]'(by omega),cQ (by omega)⟩
theorem aby{i:Nat}{x:eq}(hx:ns[i]? = some x)(hn:nO ns i x)(hw:wt ns (i:Int)=1 + jA ns x.2.2.2.2)(vO:∀ j∈x.2.2.2.2,1≤wt ns j)(hK:∀ j∈x.2.2.2.2,((j.toNat:Nat):Int)=j∧SFS nf M ns A G Fs j.toNat):BFS nf M ns A G Fs i:=by
 have EJ:i < ns.length:=(List.getElem?_eq_some_iff.1 hx).1;refine Ev.succ ((Rl (by have:=hn.nm.2;omega) vO hK x.2.2.2.2.length 0 rfl).jN.mono fun k e fn O H E En fr to p q hg f0 f1 p0 p1 sV Il hO hE=>?_)
 rw [List.drop_zero] at e;obtain⟨y,hy⟩:=at_len sV EJ;by_cases h0:x.2.2.2.2.length=0
 ·have ZK:x.2.2.2.2 = []:=List.length_eq_zero_iff.1 h0
  have AX:=hg.yF (f:=p) (t:=q) (k:=1) (n:=-1) (a:=0) p0 p1 (fun h=>absurd h (by decide))
  rw [ZK,yZ] at e hw;obtain⟨O',H',E',Oo,Pm,w1,w2,w3,w3'⟩:=e fn O H (E ++ [(p,q,1,-1,0)]) En (fr.set i p) to p q AX f0 f1 (fun _=>⟨p0,p1⟩) (by simpa using sV) Il (by omega) (by simp;omega)
  have:=w2.eh;simp only [List.length_append,List.length_cons,List.length_nil] at this;refine⟨O',H',E',Oo,Pm,?_,⟨w2.fg,w2.lo,by have:=w2.hi;omega,by omega⟩,w3,w3'⟩
  have w1:ib (iW k) (jL k) (mn k) k k A G Fs ns fn En q [] O H (E ++ [(p,q,1,-1,0)]) (fr.set i p) to p 0=_:=w1;simp only [go_sem,SR,oG,aa,bj hx,hy,Int.toNat_natCast,ZK,show((([]:XI).length:Int) == 0)=true from rfl,tO (show E.length≤2000000 by omega),w1]
 ·obtain⟨O',H',E',Oo,Pm,w1,w2,w3,w3'⟩:=e fn O H E En (fr.set i p) to p q hg f0 f1 (fun _=>⟨p0,p1⟩) (by simpa using sV) Il (by omega) (by omega)
  refine⟨O',H',E',Oo,Pm,?_,⟨w2.fg,w2.lo,by have:=w2.hi;omega,by have:=w2.eh;omega⟩,w3,w3'⟩
  have w1:ib (iW k) (jL k) (mn k) k k A G Fs ns fn En q x.2.2.2.2 O H E (fr.set i p) to p 0=_:=w1;simp only [go_sem,SR,oG,aa,bj hx,hy,Int.toNat_natCast,show((x.2.2.2.2.length:Int) == 0)=false from beq_eq_false_iff_ne.2 (by omega),w1]
end
section
variable {nf:Nat} {ns:List eq} {t:yE} {nmf:an}
theorem acD(ht:iD t)(fo:jl ns){i:Nat}{x:eq}(F9:GO ns t nmf i)(hx:ns[i]? = some x)(hn:nO ns i x)(hw:wt ns (i:Int)=1 + jA ns x.2.2.2.2)(IH:∀ j∈x.2.2.2.2,((j.toNat:Nat):Int)=j∧(kd ns j=8→BFS nf t.2.2.length ns t.1 t.2.1 t.2.2 j.toNat)):SFS nf t.2.2.length ns t.1 t.2.1 t.2.2 i:=by
 have dn:=hn.shp;have zJ:bH ns (i:Int)=some x:=bj hx;have EJ:i < ns.length:=(List.getElem?_eq_some_iff.1 hx).1;have Mj:∀ j∈x.2.2.2.2,sW (kd ns j)=true→((j.toNat:Nat):Int)=j∧CFS nf t.2.2.length ns t.1 t.2.1 t.2.2 j.toNat:=fun j hj hc=>by
  have hj2:=hn.cB j hj;obtain⟨y,e1,e2,e3⟩:=uB (ns:=ns) hj2.1 (by omega)
  exact⟨Int.toNat_of_nonneg hj2.1,Zv fo (j.toNat + 1) j.toNat (by omega) (by omega) fun y' E9=>by rw [e1] at E9;cases E9;rw [←e2];exact hc⟩
 by_cases h14:x.1=14
 ·rw [h14] at dn
  have hb:∃ a b r,x.2.2.2.2=a :: b :: r∧sW (kd ns a)=true∧kd ns b=8∧(r = []∨∃ c,r = [c]∧kd ns c=8):=by
   rcases h:x.2.2.2.2 with _ |⟨a,_ |⟨b,_ |⟨c,_ |⟨d,r⟩⟩⟩⟩
   ·rw [h] at dn;simp [b9] at dn
   ·rw [h] at dn;simp [b9] at dn
   ·rw [h] at dn;simp [b9] at dn;exact⟨a,b,[],rfl,dn.1,dn.2,.inl rfl⟩
   ·rw [h] at dn;simp [b9] at dn;exact⟨a,b,[c],rfl,dn.1.1,dn.1.2,.inr ⟨c,rfl,dn.2⟩⟩
   ·rw [h] at dn;simp [b9] at dn
  obtain⟨a,b,r,hK,ha,hb,hr⟩:=hb;obtain⟨ea,ca⟩:=Mj a (by rw [hK];simp) ha
  obtain⟨eb,cb⟩:=IH b (by rw [hK];simp)
  have cb:=cb hb;unfold CFS at ca;unfold BFS at cb;rw [ea] at ca;rw [eb] at cb;rcases hr with rfl |⟨c,rfl,hc8⟩
  ·rw [hK,xH] at hw
   refine Ev.succ ((ca.and cb).mono fun k e fn O H E En fr to p q hg f0 f1 p0 p1 sV Il hO hE=>?_);obtain⟨ca,cb⟩:=e;obtain⟨y1,NC⟩:=at_len sV EJ;obtain⟨y2,I4⟩:=at_len Il EJ;have hp:=qN hg (show O.length≤2000000 by omega) fn false
   obtain⟨O1,H1,E1,w1,w2⟩:=ca fn (O ++ [fn]) (H ++ [false]) E En (fr.set i p) (to.set i q) p (O.length:Int) q (hg.nZ f0 f1 _) f0 f1 p0 (by simp;omega) (by simp;omega) (by omega)
   have l1:=w2.lo;have l2:=w2.hi;have l3:=w2.eh;simp only [List.length_append,List.length_cons,List.length_nil] at l1 l2;obtain⟨O2,H2,E2,fr2,Ck,w3,w4,w5,w5'⟩:=cb fn O1 H1 E1 En (fr.set i p) (to.set i q) (O.length:Int) q w2.fg f0 f1 (by omega) (by omega) (by simpa using sV) (by simpa using Il) (by omega) (by omega)
   have k1:=w4.lo;have k2:=w4.hi;have k3:=w4.eh;refine⟨O2,H2,E2,fr2,Ck,?_,⟨w4.fg,by omega,by omega,by omega⟩,w5,w5'⟩
   simp only [go_sem,tR,fT,aa,zJ,NC,I4,Int.toNat_natCast,h14,hp,hK,show decide (((([a,b]:XI).length:Int)) > 2)=false from rfl,show bH [a,b] 0=some a from rfl,w1,show bH [a,b] 1=some b from rfl,w3]
  ·obtain⟨ec,cc⟩:=IH c (by rw [hK];simp)
   have cc:=cc hc8;unfold BFS at cc;rw [ec] at cc;rw [hK,OD] at hw;refine Ev.succ ((ca.and (cb.and cc)).mono fun k e fn O H E En fr to p q hg f0 f1 p0 p1 sV Il hO hE=>?_);obtain⟨ca,cb,cc⟩:=e;obtain⟨y1,NC⟩:=at_len sV EJ;obtain⟨y2,I4⟩:=at_len Il EJ;have hp:=qN hg (show O.length≤2000000 by omega) fn false
   have AX:=hg.nZ f0 f1 false;have GE:=qN AX (show(O ++ [fn]).length≤2000000 by simp;omega) fn false
   have KU:=AX.nZ f0 f1 false;obtain⟨O1,H1,E1,w1,w2⟩:=ca fn (O ++ [fn] ++ [fn]) (H ++ [false] ++ [false]) E En (fr.set i p) (to.set i q) p (O.length:Int) ((O ++ [fn]).length:Int) KU f0 f1 p0 (by simp;omega) (by simp;omega) (by omega)
   have l1:=w2.lo;have l2:=w2.hi;have l3:=w2.eh;simp only [List.length_append,List.length_cons,List.length_nil] at l1 l2;obtain⟨O2,H2,E2,fr2,Ck,w3,w4,w5,w5'⟩:=cb fn O1 H1 E1 En (fr.set i p) (to.set i q) (O.length:Int) q w2.fg f0 f1 (by omega) (by omega) (by simpa using sV) (by simpa using Il) (by omega) (by omega)
   have k1:=w4.lo;have k2:=w4.hi;have k3:=w4.eh;obtain⟨O3,H3,E3,fr3,to3,w6,w7,w8,w8'⟩:=cc fn O2 H2 E2 En fr2 Ck ((O ++ [fn]).length:Int) q w4.fg f0 f1 (by omega) (by simp;omega) w5 w5' (by omega) (by omega)
   have j1:=w7.lo;have j2:=w7.hi;have j3:=w7.eh;refine⟨O3,H3,E3,fr3,to3,?_,⟨w7.fg,by omega,by omega,by omega⟩,w8,w8'⟩
   simp only [go_sem,tR,fT,aa,zJ,NC,I4,Int.toNat_natCast,h14,hp,GE,hK,show decide (((([a,b,c]:XI).length:Int)) > 2)=true from rfl,show bH [a,b,c] 0=some a from rfl,w1,show bH [a,b,c] 1=some b from rfl,w3,show bH [a,b,c] 2=some c from rfl,w6]
 by_cases h15:x.1=15
 ·rw [h15] at dn
  obtain⟨a,b,hK,ha,hb⟩:∃ a b,x.2.2.2.2 = [a,b]∧sW (kd ns a)=true∧kd ns b=8:=by
   rcases h:x.2.2.2.2 with _ |⟨a,_ |⟨b,_ |⟨c,r⟩⟩⟩
   ·rw [h] at dn;simp [b9] at dn
   ·rw [h] at dn;simp [b9] at dn
   ·rw [h] at dn;simp [b9] at dn;exact⟨a,b,rfl,dn.1,dn.2⟩
   ·rw [h] at dn;simp [b9] at dn
  obtain⟨ea,ca⟩:=Mj a (by rw [hK];simp) ha
  obtain⟨eb,cb⟩:=IH b (by rw [hK];simp)
  have cb:=cb hb;unfold CFS at ca;unfold BFS at cb;rw [ea] at ca;rw [eb] at cb;rw [hK,xH] at hw;refine Ev.succ (Ev.succ ((ca.and cb).mono fun k e fn O H E En fr to p q hg f0 f1 p0 p1 sV Il hO hE=>?_));obtain⟨ca,cb⟩:=e;obtain⟨y1,NC⟩:=at_len sV EJ;obtain⟨y2,I4⟩:=at_len Il EJ;have hp:=qN hg (show O.length≤2000000 by omega) fn true
  have AX:=hg.nZ f0 f1 true;have GE:=qN AX (show(O ++ [fn]).length≤2000000 by simp;omega) fn false
  have KU:=(AX.nZ f0 f1 false).yF (f:=p) (t:=(O.length:Int)) (k:=1) (n:=-1) (a:=0) p0 (by simp<;>omega) (fun h=>absurd h (by decide))
  obtain⟨O1,H1,E1,w1,w2⟩:=ca fn (O ++ [fn] ++ [fn]) (H ++ [true] ++ [false]) (E ++ [(p,(O.length:Int),1,-1,0)]) En (fr.set i p) (to.set i q) (O.length:Int) ((O ++ [fn]).length:Int) q KU f0 f1 (by omega) (by simp;omega) (by simp;omega) (by simp;omega)
  have l1:=w2.lo;have l2:=w2.hi;have l3:=w2.eh;simp only [List.length_append,List.length_cons,List.length_nil] at l1 l2 l3;obtain⟨O2,H2,E2,fr2,Ck,w3,w4,w5,w5'⟩:=cb fn O1 H1 E1 En (fr.set i p) (to.set i q) ((O ++ [fn]).length:Int) (O.length:Int) w2.fg f0 f1 (by omega) (by simp;omega) (by simpa using sV) (by simpa using Il) (by omega) (by omega)
  have k1:=w4.lo;have k2:=w4.hi;have k3:=w4.eh;refine⟨O2,H2,E2,fr2,Ck,?_,⟨w4.fg,by omega,by omega,by omega⟩,w5,w5'⟩
  simp only [go_sem,tR (k + 1),fT,aa,zJ,NC,I4,Int.toNat_natCast,h15,show((15:Int) == 14)=false from rfl,SS,pB,hp,GE,tO (show E.length≤2000000 by omega),hK,show bH [a,b] 0=some a from rfl,w1,show bH [a,b] 1=some b from rfl,w3]
 by_cases E6:x.1=16
 ·rw [E6] at dn
  obtain⟨a,b,c,hK,hb⟩:∃ a b c,x.2.2.2.2 = [a,b,c]∧kd ns c=8:=by
   rcases h:x.2.2.2.2 with _ |⟨a,_ |⟨b,_ |⟨c,_ |⟨d,r⟩⟩⟩⟩
   ·rw [h] at dn;simp [b9] at dn
   ·rw [h] at dn;simp [b9] at dn
   ·rw [h] at dn;simp [b9] at dn
   ·rw [h] at dn;simp [b9] at dn;exact⟨a,b,c,rfl,dn.2⟩
   ·rw [h] at dn;simp [b9] at dn
  obtain⟨ec,cc⟩:=IH c (by rw [hK];simp)
  have cc:=cc hb;unfold BFS at cc;rw [ec] at cc;rw [hK,OD] at hw;refine Ev.succ (Ev.succ (cc.mono fun k cc fn O H E En fr to p q hg f0 f1 p0 p1 sV Il hO hE=>?_));obtain⟨y1,NC⟩:=at_len sV EJ;obtain⟨y2,I4⟩:=at_len Il EJ;have hp:=qN hg (show O.length≤2000000 by omega) fn true
  have AX:=hg.nZ f0 f1 true;have GE:=qN AX (show(O ++ [fn]).length≤2000000 by simp;omega) fn false
  have KU:=AX.nZ f0 f1 false;have hg3:=KU.yF (f:=p) (t:=(O.length:Int)) (k:=8) (n:=(i:Int)) (a:=0) p0 (by simp<;>omega) (fun h=>absurd h (by decide))
  have hg4:=hg3.yF (f:=(O.length:Int)) (t:=((O ++ [fn]).length:Int)) (k:=9) (n:=(i:Int)) (a:=1) (by omega) (by simp<;>omega) (fun h=>absurd h (by decide))
  have hg5:=hg4.yF (f:=(O.length:Int)) (t:=q) (k:=9) (n:=(i:Int)) (a:=0) (by omega) (by simp<;>omega) (fun h=>absurd h (by decide))
  have hp3:=qN hg5 (show(O ++ [fn] ++ [fn]).length≤2000000 by simp;omega) fn false
  have hg6:=hg5.nZ f0 f1 false;obtain⟨O2,H2,E2,fr2,Ck,w3,w4,w5,w5'⟩:=cc fn _ _ _ En (fr.set i p) (to.set i q) ((O ++ [fn]).length:Int) ((O ++ [fn] ++ [fn]).length:Int) hg6 f0 f1 (by simp<;>omega) (by simp<;>omega) (by simpa using sV) (by simpa using Il) (by simp<;>omega) (by simp<;>omega)
  have k1:=w4.lo;have k2:=w4.hi;have k3:=w4.eh;simp only [List.length_append,List.length_cons,List.length_nil] at k1 k2 k3;refine⟨O2,H2,E2 ++ [(((O ++ [fn] ++ [fn]).length:Int),(O.length:Int),10,(i:Int),0)],fr2,Ck,?_,⟨w4.fg.yF (by omega) (by simp;omega) (fun h=>absurd h (by decide)),by omega,by omega,by simp;omega⟩,w5,w5'⟩
  simp only [go_sem,tR (k + 1),fT,aa,zJ,NC,I4,Int.toNat_natCast,E6,show((16:Int) == 14)=false from rfl,show((16:Int) == 15)=false from rfl,SS,pB,hp,GE,tO (show E.length≤2000000 by omega),tO (show(E ++ [(p,(O.length:Int),8,(i:Int),0)]).length≤2000000 by simp;omega),tO (show(E ++ [(p,(O.length:Int),8,(i:Int),0)] ++ [((O.length:Int),((O ++ [fn]).length:Int),9,(i:Int),1)]).length≤2000000 by simp;omega),hp3,hK,show bH [a,b,c] 2=some c from rfl,w3,tO (show E2.length≤2000000 by omega)]
 by_cases h19:x.1=19
 ·rw [h19] at dn
  obtain⟨a,hK,ha⟩:∃ a,x.2.2.2.2 = [a]∧sW (kd ns a)=true:=by
   rcases h:x.2.2.2.2 with _ |⟨a,_ |⟨b,r⟩⟩
   ·rw [h] at dn;simp [b9] at dn
   ·rw [h] at dn;simp [b9] at dn;exact⟨a,rfl,dn⟩
   ·rw [h] at dn;simp [b9] at dn
  obtain⟨ea,ca⟩:=Mj a (by rw [hK];simp) ha
  unfold CFS at ca;rw [ea] at ca;rw [hK,oJ] at hw;refine Ev.succ (ca.mono fun k ca fn O H E En fr to p q hg f0 f1 p0 p1 sV Il hO hE=>?_);obtain⟨y1,NC⟩:=at_len sV EJ;obtain⟨y2,I4⟩:=at_len Il EJ;have hp:=qN hg (show O.length≤2000000 by omega) fn false
  obtain⟨O1,H1,E1,w1,w2⟩:=ca fn (O ++ [fn]) (H ++ [false]) E En (fr.set i p) (to.set i q) p q (O.length:Int) (hg.nZ f0 f1 _) f0 f1 p0 (by simp;omega) (by simp;omega) (by omega)
  have l1:=w2.lo;have l2:=w2.hi;have l3:=w2.eh;simp only [List.length_append,List.length_cons,List.length_nil] at l1 l2;refine⟨O1,H1,E1 ++ [((O.length:Int),(O.length:Int),4,(i:Int),0)],fr.set i p,to.set i q,?_,⟨w2.fg.yF (by omega) (by omega) (fun h=>absurd h (by decide)),by omega,by omega,by simp;omega⟩,by simpa using sV,by simpa using Il⟩
  simp only [go_sem,tR,fT,aa,zJ,NC,I4,Int.toNat_natCast,h19,show((19:Int) == 14)=false from rfl,show((19:Int) == 15)=false from rfl,show((19:Int) == 16)=false from rfl,hp,hK,show bH [a] 0=some a from rfl,w1,tO (show E1.length≤2000000 by omega)]
 have one:∀(mk:Int→Int→Int×Int×Int×Int×Int),(∀ p q,(mk p q).1=p∧((mk p q).2.2.1=5→0≤(mk p q).2.2.2.2∧(mk p q).2.2.2.2 < (t.2.2.length:Int)))→
   (Ev fun k=>∀ fn O H E En fr to p q y1 y2,E.length≤2000000→bH fr (i:Int)=some y1→bH to (i:Int)=some y2→jL (k + 1) t.1 t.2.1 t.2.2 ns fn O En H E fr to (i:Int) p q=some (O,H,E ++ [mk p q],fr.set i p,to.set i q,()))→SFS nf t.2.2.length ns t.1 t.2.1 t.2.2 i:=fun mk h1 h2=>
  Ev.succ (h2.mono fun k h2 fn O H E En fr to p q hg f0 f1 p0 p1 sV Il hO hE=>by
   obtain⟨y1,NC⟩:=at_len sV EJ;obtain⟨y2,I4⟩:=at_len Il EJ;obtain⟨g1,g2⟩:=h1 p q;refine⟨O,H,E ++ [mk p q],_,_,h2 fn O H E En fr to p q y1 y2 (by omega) NC I4,⟨?_,by omega,by omega,by simp;omega⟩,by simpa using sV,by simpa using Il⟩
   exact hg.yF (f:=(mk p q).1) (t:=(mk p q).2.1) (k:=(mk p q).2.2.1) (n:=(mk p q).2.2.2.1) (a:=(mk p q).2.2.2.2) (by rw [g1];exact p0) (by rw [g1];exact p1) g2)
 by_cases h21:x.1=21
 ·refine one (fun p q=>(p,p,6,(i:Int),0)) (fun p q=>⟨rfl,fun h=>by simp at h⟩) (Ev.of fun k fn O H E En fr to p q y1 y2 hE NC I4=>?_)
  simp only [go_sem,tR,fT,aa,zJ,NC,I4,Int.toNat_natCast,h21,show((21:Int) == 14)=false from rfl,show((21:Int) == 15)=false from rfl,show((21:Int) == 16)=false from rfl,show((21:Int) == 19)=false from rfl,tO hE]
 by_cases h20:x.1=20
 ·refine one (fun p q=>(p,p,7,(i:Int),0)) (fun p q=>⟨rfl,fun h=>by simp at h⟩) (Ev.of fun k fn O H E En fr to p q y1 y2 hE NC I4=>?_)
  simp only [go_sem,tR,fT,aa,zJ,NC,I4,Int.toNat_natCast,h20,show((20:Int) == 14)=false from rfl,show((20:Int) == 15)=false from rfl,show((20:Int) == 16)=false from rfl,show((20:Int) == 19)=false from rfl,show((20:Int) == 21)=false from rfl,tO hE]
 by_cases Dd:x.1=22
 ·rw [Dd] at dn
  obtain⟨u,r,hK,hu⟩:∃ u r,x.2.2.2.2=u :: r∧kd ns u=23:=by
   cases h:x.2.2.2.2 with
   |nil=>rw [h] at dn;simp [b9] at dn
   |cons u r=>rw [h] at dn;simp [b9] at dn;exact⟨u,r,rfl,dn.1⟩
  have hu2:=hn.cB u (by rw [hK];simp)
  obtain⟨y,e1,e2,e3⟩:=uB (ns:=ns) hu2.1 (by omega)
  obtain⟨_,x',D3,hk',hc',ha'⟩:=F9;rw [hx] at D3;obtain rfl:=Option.some.inj D3;have h5:=hc' Dd u (by rw [hK];rfl)
  obtain⟨n,f,n1,n2,n3⟩:=nk5 h5;have XC:Du ns u=y.2.2.2.1:=by simp only [Du,e1]
  rw [XC] at n3;have Ks:0≤nq (fun z:an×Int×XS×XS×Int=>z.1 == y.2.2.2.1) t.2.2 0:=Bv.2 ⟨f,List.mem_of_getElem? n2,beq_iff_eq.2 n3⟩;have ae2:=YI Ks;have hF:=QH t y.2.2.2.1 (by have:=ht.f;omega)
  refine one (fun p q=>(p,q,5,(i:Int),nq (fun z:an×Int×XS×XS×Int=>z.1 == y.2.2.2.1) t.2.2 0)) (fun p q=>⟨rfl,fun _=>⟨Ks,ae2⟩⟩) (hF.mono fun k e fn O H E En fr to p q y1 y2 hE NC I4=>?_);simp only [go_sem,tR,fT,aa,zJ,NC,I4,Int.toNat_natCast,Dd,show((22:Int) == 14)=false from rfl,show((22:Int) == 15)=false from rfl,show((22:Int) == 16)=false from rfl,show((22:Int) == 19)=false from rfl,show((22:Int) == 21)=false from rfl,show((22:Int) == 20)=false from rfl,hK,show bH (u :: r) 0=some u from rfl,e3,show kc k (t.1,t.2.1,t.2.2) y.2.2.2.1=_ from e,tO hE]
 refine one (fun p q=>(p,q,2,(i:Int),0)) (fun p q=>⟨rfl,fun h=>by simp at h⟩) (Ev.of fun k fn O H E En fr to p q y1 y2 hE NC I4=>?_)
 simp only [go_sem,tR,fT,aa,zJ,NC,I4,Int.toNat_natCast,beq_eq_false_iff_ne.2 h14,beq_eq_false_iff_ne.2 h15,beq_eq_false_iff_ne.2 E6,beq_eq_false_iff_ne.2 h19,beq_eq_false_iff_ne.2 h21,beq_eq_false_iff_ne.2 h20,beq_eq_false_iff_ne.2 Dd,tO hE]
theorem VU(ht:iD t)(fo:jl ns):∀ n i,i < n→i < ns.length→GO ns t nmf i→(kd ns (i:Int)=8→BFS nf t.2.2.length ns t.1 t.2.1 t.2.2 i)∧SFS nf t.2.2.length ns t.1 t.2.1 t.2.2 i:=by
 intro n;induction n with
 |zero=>intro i h;omega
 |succ n ih=>
  intro i hi hl F9;have hx:ns[i]? = some ns[i]:=by simp [hl]
  have hn:=fo i _ hx;have hw:=Nb hx hn.cB;have hkc:∀ j∈ns[i].2.2.2.2,GO ns t nmf j.toNat:=by obtain⟨_,x',D3,hk',_,_⟩:=F9;rw [hx] at D3;obtain rfl:=Option.some.inj D3;exact hk'
  have I7:∀ j∈ns[i].2.2.2.2,((j.toNat:Nat):Int)=j∧j.toNat < n∧j.toNat < ns.length:=fun j hj=>by have:=hn.cB j hj;exact⟨Int.toNat_of_nonneg this.1,by omega,by omega⟩
  refine⟨fun h8=>aby hx hn hw (fun j hj=>?_) fun j hj=>⟨(I7 j hj).1,(ih j.toNat (I7 j hj).2.1 (I7 j hj).2.2 (hkc j hj)).2⟩,acD ht fo F9 hx hn hw fun j hj=>⟨(I7 j hj).1,fun h8=>(ih j.toNat (I7 j hj).2.1 (I7 j hj).2.2 (hkc j hj)).1 (by rw [(I7 j hj).1];exact h8)⟩⟩
  have hj:=hn.cB j hj;obtain⟨y,e1,e2,e3⟩:=uB (ns:=ns) hj.1 (by omega)
  have:=Nb e1 (fo _ _ e1).cB;rw [Int.toNat_of_nonneg hj.1] at this;omega
end
end Go.Fx.R5
namespace Go.Fx.R5
open Go Go.Fx
theorem aao{k:Int}{l:XI}(h:b9 k l=true)(hm:(23:Int)∈l):(k=22∨k=12)∧∃ r,l=23 :: r:=by
 unfold b9 at h;by_cases c1:k=24∨k=25∨k=27∨k=29∨k=23∨k=34∨k=17∨k=20∨k=2∨k=3∨k=5∨k=6∨k=7
 ·rw [if_pos c1] at h
  cases l with
  |nil=>cases hm
  |cons a r=>cases h
 rw [if_neg c1] at h;by_cases c2:k=26∨k=11∨k=13∨k=18∨k=21
 ·rw [if_pos c2] at h
  rcases l with _ |⟨a,_ |⟨b,r⟩⟩
  ·cases hm
  ·obtain rfl:=List.mem_singleton.1 hm;exact absurd h (by decide)
  ·cases h
 rw [if_neg c2] at h;by_cases c3:k=9
 ·rw [if_pos c3] at h
  rcases l with _ |⟨a,_ |⟨b,r⟩⟩
  ·cases hm
  ·obtain rfl:=List.mem_singleton.1 hm;exact absurd h (by decide)
  ·cases h
 rw [if_neg c3] at h;by_cases c4:k=28∨k=30∨k=10
 ·rw [if_pos c4] at h
  rcases l with _ |⟨a,_ |⟨b,_ |⟨c,r⟩⟩⟩
  ·cases hm
  ·cases h
  ·simp only [Bool.and_eq_true] at h
   rcases List.mem_cons.1 hm with rfl | hm
   ·exact absurd h.1 (by decide)
   ·obtain rfl:=List.mem_singleton.1 hm;exact absurd h.2 (by decide)
  ·cases h
 rw [if_neg c4] at h;by_cases c5:k=12
 ·rw [if_pos c5] at h
  rcases l with _ |⟨a,_ |⟨b,_ |⟨c,r⟩⟩⟩
  ·cases hm
  ·cases h
  ·simp only [Bool.and_eq_true,beq_iff_eq] at h
   exact⟨.inr c5,[b],by rw [h.1]⟩
  ·cases h
 rw [if_neg c5] at h;by_cases c6:k=22
 ·rw [if_pos c6] at h
  cases l with
  |nil=>cases hm
  |cons a r=>simp only [Bool.and_eq_true,beq_iff_eq] at h;exact⟨.inl c6,r,by rw [h.1]⟩
 rw [if_neg c6] at h;by_cases c7:k=31∨k=32
 ·rw [if_pos c7] at h
  rcases l with _ |⟨a,_ |⟨b,_ |⟨c,r⟩⟩⟩
  ·cases hm
  ·cases h
  ·simp only [Bool.and_eq_true] at h
   rcases List.mem_cons.1 hm with rfl | hm
   ·exact absurd h.1 (by decide)
   ·obtain rfl:=List.mem_singleton.1 hm;exact absurd h.2 (by decide)
  ·cases h
 rw [if_neg c7] at h;by_cases c8:k=33∨k=19
 ·rw [if_pos c8] at h
  rcases l with _ |⟨a,_ |⟨b,r⟩⟩
  ·cases hm
  ·obtain rfl:=List.mem_singleton.1 hm;exact absurd h (by decide)
  ·cases h
 rw [if_neg c8] at h;by_cases c9:k=14
 ·rw [if_pos c9] at h
  rcases l with _ |⟨a,_ |⟨b,_ |⟨c,_ |⟨d,r⟩⟩⟩⟩
  ·cases hm
  ·cases h
  ·simp only [Bool.and_eq_true] at h
   rcases List.mem_cons.1 hm with rfl | hm
   ·exact absurd h.1 (by decide)
   ·obtain rfl:=List.mem_singleton.1 hm;exact absurd h.2 (by decide)
  ·simp only [Bool.and_eq_true] at h
   rcases List.mem_cons.1 hm with rfl | hm
   ·exact absurd h.1.1 (by decide)
   ·rcases List.mem_cons.1 hm with rfl | hm
    ·exact absurd h.1.2 (by decide)
    ·obtain rfl:=List.mem_singleton.1 hm;exact absurd h.2 (by decide)
  ·cases h
 rw [if_neg c9] at h;by_cases c10:k=15
 ·rw [if_pos c10] at h
  rcases l with _ |⟨a,_ |⟨b,_ |⟨c,r⟩⟩⟩
  ·cases hm
  ·cases h
  ·simp only [Bool.and_eq_true] at h
   rcases List.mem_cons.1 hm with rfl | hm
   ·exact absurd h.1 (by decide)
   ·obtain rfl:=List.mem_singleton.1 hm;exact absurd h.2 (by decide)
  ·cases h
 rw [if_neg c10] at h;by_cases Nl:k=16
 ·rw [if_pos Nl] at h
  rcases l with _ |⟨a,_ |⟨b,_ |⟨c,_ |⟨d,r⟩⟩⟩⟩
  ·cases hm
  ·cases h
  ·cases h
  ·simp only [Bool.and_eq_true] at h
   rcases List.mem_cons.1 hm with rfl | hm
   ·exact absurd h.1.1 (by decide)
   ·rcases List.mem_cons.1 hm with rfl | hm
    ·exact absurd h.1.2 (by decide)
    ·obtain rfl:=List.mem_singleton.1 hm;exact absurd h.2 (by decide)
  ·cases h
 rw [if_neg Nl] at h;by_cases c12:k=8
 ·rw [if_pos c12] at h
  exact absurd (List.all_eq_true.1 h 23 hm) (by decide)
 rw [if_neg c12] at h;by_cases c13:k=4
 ·rw [if_pos c13] at h
  simp only [Bool.and_eq_true,beq_iff_eq] at h;have gY:l≠[]:=List.ne_nil_of_mem hm;have e:=List.dropLast_concat_getLast gY;rw [←e] at hm;rcases List.mem_append.1 hm with hm | hm
  ·exact absurd (List.all_eq_true.1 h.1 23 hm) (by decide)
  ·have h2:=h.2
   rw [List.getLast?_eq_some_getLast gY] at h2;rw [←List.mem_singleton.1 hm] at h2;cases h2
 rw [if_neg c13] at h;by_cases c14:k=1
 ·rw [if_pos c14] at h
  exact absurd (List.all_eq_true.1 h 23 hm) (by decide)
 rw [if_neg c14] at h;cases h
section
variable {ns:List eq} {t:yE}
theorem nk1{fn s:an}(h:(nk t fn s).1=1):0≤(nk t fn s).2∧(nk t fn s).2 < t.1.length:=by
 have key:(NH t s).1=1→0≤(NH t s).2∧(NH t s).2 < t.1.length:=fun h=>by
  unfold NH at h ⊢;by_cases g1:0≤nq (fun x:an×Int=>x.1 == s) t.1 0
  ·have:=YI g1
   simp [g1];omega
  ·by_cases g2:0≤nq (fun x=>x == s) t.2.1 0
   ·simp [g1,g2] at h
   ·by_cases g3:0≤nq (fun x:an×Int×XS×XS×Int=>x.1 == s) t.2.2 0<;>simp [g1,g2,g3] at h
 unfold nk at h ⊢;cases hf:t.2.2.find? (fun x=>x.1 == fn) with
 |none=>simp only [hf] at h ⊢;exact key h
 |some x=>
  simp only [hf] at h ⊢;by_cases g1:0≤nq (fun y=>y == s) x.2.2.1 0
  ·simp [g1] at h
  ·by_cases g2:0≤nq (fun y=>y == s) x.2.2.2.1 0
   ·simp [g1,g2] at h
   ·simp only [go_sem,g1,g2] at h ⊢;exact key h
structure KP(ns:List eq)(ki pl:XI):Prop where
 k:ki.length=ns.length
 p:pl.length=ns.length
 o:Th ns 6 pl
theorem KP.set{ki pl:XI}(h:KP ns ki pl){i:Nat}{x:eq}(hx:ns[i]? = some x)(a b:Int)(hb:x.1=23→0≤b∧b < 6):KP ns (ki.set i a) (pl.set i b):=by
 refine⟨by simpa using h.k,by simpa using h.p,fun j y hy h23=>?_⟩
 have EJ:=(List.getElem?_eq_some_iff.1 hx).1;by_cases e:i=j
 ·subst e
  rw [hx] at hy;cases hy;refine⟨b,?_,(hb h23).1,(hb h23).2⟩;rw [List.getElem?_set_self (by rw [h.p];exact EJ)]
 ·obtain⟨v,v1,v2⟩:=h.o j y hy h23
  exact⟨v,by rw [List.getElem?_set_ne e];exact v1,v2⟩
def Bd(ns:List eq)(t:yE)(rec:an×Int×XS×XS×Int)(i:Nat):Prop:=Ev fun k=>∀ ki pl,KP ns ki pl→
 ∃ ki' pl',gh k ns t.1 t.2.1 t.2.2 ki pl [] [] [] [] [] [] [] rec (i:Int)=some (ki',pl',())∧KP ns ki' pl'
theorem N6{rec:an×Int×XS×XS×Int}{K:XI}(zA:K.length≤5000)(hK:∀ j∈K,((j.toNat:Nat):Int)=j∧Bd ns t rec j.toNat):∀ m s,m + s=K.length→co fun q k=>∀ ki pl,KP ns ki pl→
  ∃ ki' pl',gq (gh q) q k rec.1 rec.2.1 rec.2.2.1 rec.2.2.2.1 rec.2.2.2.2 ns t.1 t.2.1 t.2.2 [] [] [] [] [] [] [] K (K.length:Int) ki pl (s:Int)=some (ki',pl',())∧KP ns ki' pl'
 |0,s,h=>by
  have h2:¬ s < K.length:=by omega
  exact co.succ (co.of fun q k ki pl hkp=>⟨ki,pl,by simp only [go_sem,gq,Int.ofNat_lt,h2],hkp⟩)
 |m + 1,s,h=>by
  have bo:s < K.length:=by omega
  obtain⟨ej,hj⟩:=hK _ (List.getElem_mem bo);unfold Bd at hj;rw [ej] at hj;refine co.succ ((hj.tX.and (N6 zA hK m (s + 1) (by omega))).mono fun q k e ki pl hkp=>?_)
  obtain⟨ki1,pl1,w1,w2⟩:=e.1 ki pl hkp;obtain⟨ki2,pl2,w3,w4⟩:=e.2 ki1 pl1 w2;refine⟨ki2,pl2,?_,w4⟩;simp only [go_sem,gq,Int.ofNat_lt,bo,cQ bo,af (show s < _ by omega)]
  rw [show gh q ns t.1 t.2.1 t.2.2 ki pl [] [] [] [] [] [] [] (rec.1,rec.2.1,rec.2.2.1,rec.2.2.2.1,rec.2.2.2.2) K[s]=_ from w1]
  simp only [go_sem,w3]
theorem WX(ht:iD t)(fo:jl ns)(rec:an×Int×XS×XS×Int):∀ n i,i < n→i < ns.length→GO ns t rec.1 i→(∀ x,ns[i]? = some x→x.1=23→0≤(nk t rec.1 x.2.2.2.1).2∧(nk t rec.1 x.2.2.2.1).2 < 6)→Bd ns t rec i:=by
 intro n;induction n with
 |zero=>intro i h;omega
 |succ n ih=>
  intro i hi hl F9 h23;have hx:ns[i]? = some ns[i]:=by simp [hl]
  have hn:=fo i _ hx;have adu:=h23 _ hx;obtain⟨_,x',D3,hkc,hcc,hca⟩:=F9;rw [hx] at D3;obtain rfl:=Option.some.inj D3;have hf6:=ht.f;have ha4:=ht.a;have I7:∀ j∈ns[i].2.2.2.2,((j.toNat:Nat):Int)=j∧Bd ns t rec j.toNat:=fun j hj=>by
   have hj2:=hn.cB j hj;refine⟨Int.toNat_of_nonneg hj2.1,ih j.toNat (by omega) (by omega) (hkc j hj) fun y hy h23=>?_⟩
   have hkd:kd ns j=23:=by simp only [kd,hy];exact h23
   have gX:(23:Int)∈ns[i].2.2.2.2.map (kd ns):=by rw [←hkd];exact List.mem_map_of_mem hj
   obtain⟨hk,r,hr⟩:=aao hn.shp gX;have L6:ns[i].2.2.2.2.head? = some j∨∃ u,ns[i].2.2.2.2.head? = some u∧kd ns u=23:=by
    cases hK:ns[i].2.2.2.2 with
    |nil=>rw [hK] at hj;cases hj
    |cons u r'=>rw [hK] at hr;simp only [List.map_cons,List.cons.injEq] at hr;exact .inr ⟨u,rfl,hr.1⟩
   have XC:Du ns j=y.2.2.2.1:=by simp only [Du,hy]
   have only:ns[i].2.2.2.2.head? = some j:=by
    rcases L6 with h |⟨u,hu,Kv⟩
    ·exact h
    ·cases hK:ns[i].2.2.2.2 with
     |nil=>rw [hK] at hj;cases hj
     |cons u' r'=>
      rw [hK] at hj hu;simp only [List.head?_cons,Option.some.injEq] at hu;subst hu;rcases List.mem_cons.1 hj with rfl | hj
      ·rfl
      ·exfalso
       have hs:=hn.shp;rw [hK] at hs;rcases hk with hk | hk
       ·rw [hk] at hs
        simp only [b9,List.map_cons] at hs;simp at hs;have:=hs.2 j hj;rw [hkd] at this;simp [Aq] at this
       ·rw [hk] at hs
        rcases r' with _ |⟨b,_ |⟨c,r''⟩⟩
        ·cases hj
        ·simp [b9] at hs
         rw [List.mem_singleton.1 hj] at hkd;rw [hkd] at hs;simp [Aq] at hs
        ·simp [b9] at hs
   rw [←XC];rcases hk with hk | hk
   ·obtain⟨m,f,m1,m2,_⟩:=nk5 (hcc hk j only)
    have:=(List.getElem?_eq_some_iff.1 m2).1;rw [m1];omega
   ·have:=nk1 (hca hk j only)
    omega
  have zJ:bH ns (i:Int)=some ns[i]:=bj hx;have hlp:=(N6 (t:=t) (rec:=rec) hn.nm.2 I7 ns[i].2.2.2.2.length 0 rfl).jN;have hnk:=XW ht rec.1 ns[i].2.2.2.1;refine Ev.succ ((hlp.and hnk).mono fun k e ki pl hkp=>?_);obtain⟨e1,e2⟩:=e;cases hnm:(ns[i].2.2.2.1 == ([]:an)) with
  |true=>obtain⟨ki',pl',w1,w2⟩:=e1 ki pl hkp;refine⟨ki',pl',?_,w2⟩;have w1:gq (gh k) k k rec.1 rec.2.1 rec.2.2.1 rec.2.2.2.1 rec.2.2.2.2 ns t.1 t.2.1 t.2.2 [] [] [] [] [] [] [] ns[i].2.2.2.2 (ns[i].2.2.2.2.length:Int) ki pl 0=_:=w1;simp only [go_sem,gh,oe,aa,zJ,hnm,w1]
  |false=>obtain⟨y1,NC⟩:=at_len hkp.k hl;obtain⟨y2,I4⟩:=at_len hkp.p hl;obtain⟨ki',pl',w1,w2⟩:=e1 (ki.set i (nk t rec.1 ns[i].2.2.2.1).1) (pl.set i (nk t rec.1 ns[i].2.2.2.1).2) (hkp.set hx _ _ adu);refine⟨ki',pl',?_,w2⟩;have w1:gq (gh k) k k rec.1 rec.2.1 rec.2.2.1 rec.2.2.2.1 rec.2.2.2.2 ns t.1 t.2.1 t.2.2 [] [] [] [] [] [] [] ns[i].2.2.2.2 (ns[i].2.2.2.2.length:Int) (ki.set i (nk t rec.1 ns[i].2.2.2.1).1) (pl.set i (nk t rec.1 ns[i].2.2.2.1).2) 0=_:=w1;simp only [go_sem,gh,oe,aa,zJ,hnm,show fE k (t.1,t.2.1,t.2.2) rec.1 ns[i].2.2.2.1=_ from e2,Int.toNat_natCast,NC,I4,w1]
end
end Go.Fx.R5
namespace Go.Fx.R5
open Go Go.Fx
section
variable {ns:List eq} {t:yE} {D:AS}
theorem OI(hp:P1 ns t D)(fo:jl ns)(F9:∀ x∈t.2.2,GO ns t x.1 x.2.2.2.2.toNat):∀ m s,m + s=t.2.2.length→co fun q k=>∀ ki pl,KP ns ki pl→
  ∃ ki' pl',oZ q k ns t.1 t.2.1 t.2.2 t.2.2 (t.2.2.length:Int) ki pl (s:Int)=some (ki',pl',())∧KP ns ki' pl'
 |0,s,h=>by
  have h2:¬ s < t.2.2.length:=by omega
  exact co.succ (co.of fun q k ki pl hkp=>⟨ki,pl,by simp only [go_sem,oZ,Int.ofNat_lt,h2],hkp⟩)
 |m + 1,s,h=>by
  have bo:s < t.2.2.length:=by omega
  have hf6:=hp.iw.f;have hb:=hp.bd _ (List.getElem_mem bo);have hc:=F9 _ (List.getElem_mem bo);have hB:=WX hp.iw fo t.2.2[s] (t.2.2[s].2.2.2.2.toNat + 1) t.2.2[s].2.2.2.2.toNat (by omega) (by omega) hc (fun x hx h23=>by
   have:kd ns t.2.2[s].2.2.2.2=x.1:=by simp only [kd,hx]
   rw [hb.2.2.1] at this;omega)
  unfold Bd at hB;rw [Int.toNat_of_nonneg hb.1] at hB;refine co.succ ((hB.tX.and (OI hp fo F9 m (s + 1) (by omega))).mono fun q k e ki pl hkp=>?_)
  obtain⟨ki1,pl1,w1,w2⟩:=e.1 ki pl hkp;obtain⟨ki2,pl2,w3,w4⟩:=e.2 ki1 pl1 w2;refine⟨ki2,pl2,?_,w4⟩;simp only [go_sem,oZ,Int.ofNat_lt,bo,cQ bo,w1,af (show s < _ by omega),w3]
theorem R6(hp:P1 ns t D)(fo:jl ns)(hl:ns.length≤1401):∀ m s,m + s=t.2.2.length→co fun q k=>∀ ki pl,Th ns 6 pl→∀(fn:Int) (O En:XI) (H:XB) (E:ES) (la:SPS),FG t.2.2.length 6 O H E→En.length=s→O.length≤s * 8000→E.length≤s * 8000→la.length=ns.length→
  ∃ fn' O' En' H' E' la',o7 q k ns t.1 t.2.1 t.2.2 ki pl (t.2.2.length:Int) fn O En H E la (s:Int)=some (fn',O',En',H',E',la',())∧FG t.2.2.length 6 O' H' E'∧O'.length≤48000∧E'.length≤48000
 |0,s,h=>by
  have h2:¬ s < t.2.2.length:=by omega
  have hf6:=hp.iw.f;refine co.succ (co.of fun q k ki pl _ fn O En H E la hg hEn hO hE KW=>⟨fn,O,En,H,E,la,by simp only [go_sem,o7,Int.ofNat_lt,h2],hg,by omega,by omega⟩)
 |m + 1,s,h=>by
  have bo:s < t.2.2.length:=by omega
  have hf6:=hp.iw.f;have hb:=hp.bd _ (List.getElem_mem bo);have hw:=hb.2.2.2;have hB:=(VT (nf:=t.2.2.length) (M:=6) (A:=t.1) (G:=t.2.1) (Fs:=t.2.2) fo (t.2.2[s].2.2.2.2.toNat + 1) t.2.2[s].2.2.2.2.toNat (by omega) (by omega)).1 (by rw [Int.toNat_of_nonneg hb.1];exact hb.2.2.1)
  unfold BFI at hB;rw [Int.toNat_of_nonneg hb.1] at hB;refine co.succ ((hB.tX.and (R6 hp fo hl m (s + 1) (by omega))).mono fun q k e ki pl vF fn O En H E la hg hEn hO hE KW=>?_)
  have f0:(0:Int)≤(s:Int):=by omega
  have f1:(s:Int) < (t.2.2.length:Nat):=by omega
  have hp1:=pP hg (show O.length≤2000000 by omega) (s:Int) false
  have AX:=hg.nZ f0 f1 false;have GE:=pP AX (show(O ++ [(s:Int)]).length≤2000000 by simp;omega) (s:Int) false
  have KU:=AX.nZ f0 f1 false;have hen:lq En [(O.length:Int)]=some (En ++ [(O.length:Int)]):=yS (by omega)
  obtain⟨O1,H1,E1,la1,w1,w2,w3⟩:=e.1 ki pl vF (s:Int) (O ++ [(s:Int)] ++ [(s:Int)]) (H ++ [false] ++ [false]) E (En ++ [(O.length:Int)]) la (O.length:Int) ((O ++ [(s:Int)]).length:Int) KU f0 f1 (by omega) (by simp;omega) KW (by simp;omega) (by omega)
  have l1:=w2.lo;have l2:=w2.hi;have l3:=w2.eh;simp only [List.length_append,List.length_cons,List.length_nil] at l1 l2;have hg3:=w2.fg.yF (f:=((O ++ [(s:Int)]).length:Int)) (t:=((O ++ [(s:Int)]).length:Int)) (k:=6) (n:=-1) (a:=0) (by omega) (by simp;omega) (fun h=>absurd h (by decide))
  obtain⟨FY,O2,En2,H2,E2,la2,w4,w5,w6,w7⟩:=e.2 ki pl vF (s:Int) O1 (En ++ [(O.length:Int)]) H1 (E1 ++ [(((O ++ [(s:Int)]).length:Int),((O ++ [(s:Int)]).length:Int),6,-1,0)]) la1 hg3 (by simp;omega) (by omega) (by simp;omega) w3
  refine⟨FY,O2,En2,H2,E2,la2,?_,w5,w6,w7⟩;simp only [go_sem,o7,qZ,Int.ofNat_lt,bo,hp1,hen,GE,cQ bo,w1,sj (show E1.length≤2000000 by omega),af (show s < _ by omega),w4]
end
theorem Sw{E:ES}{n:Nat}(hE:∀ e∈E,0≤e.1∧e.1 < (n:Int))(hl:E.length≤100000)(q:Nat):∀(m s k:Nat) (out:XL),m + s=E.length→m < k→out.length=n→(∀ l∈out,l.length≤s)→∃ NT,o8 q k E (E.length:Int) out (s:Int)=some (NT,())
 |0,s,k + 1,out,h,_,ho,hs=>by
  have h2:¬ s < E.length:=by omega
  exact⟨out,by simp only [go_sem,o8,Int.ofNat_lt,h2]⟩
 |m + 1,s,k + 1,out,h,hk,ho,hs=>by
  have bo:s < E.length:=by omega
  have he:=hE _ (List.getElem_mem bo);have hi:E[s].1.toNat < out.length:=by omega
  have i1:bH out E[s].1=some out[E[s].1.toNat]:=by have:bH out ((E[s].1.toNat:Nat):Int)=some out[E[s].1.toNat]:=cQ hi;rwa [Int.toNat_of_nonneg he.1] at this
  have i2:bH out ((E[s].1.toNat:Nat):Int)=some out[E[s].1.toNat]:=cQ hi;have hol:=hs _ (List.getElem_mem hi);have ha:lq out[E[s].1.toNat] [(s:Int)]=some (out[E[s].1.toNat] ++ [(s:Int)]):=yS (by omega)
  obtain⟨NT,e⟩:=Sw hE hl q m (s + 1) k (out.set E[s].1.toNat (out[E[s].1.toNat] ++ [(s:Int)])) (by omega) (by omega) (by simpa using ho) (fun l hl=>by
   rcases List.mem_or_eq_of_mem_set hl with h | rfl
   ·have:=hs l h;omega
   ·simp;omega)
  refine⟨NT,?_⟩;simp only [go_sem,o8,Int.ofNat_lt,bo,cQ bo,i1,i2,ha,Nat.beq_refl,Bool.and_self,af (show s < _ by omega),e]
theorem VC{c:XB}(hc:c.length=36){a b:Nat}(ha:a < 6)(hb:b < 6):∃ y,bH c ((a:Int) * 6 + (b:Int) * 1)=some y:=by
 obtain⟨y,hy⟩:=at_len (i:=a * 6 + b * 1) hc (by omega)
 exact⟨y,by rw [←hy];congr 1⟩
theorem fd0{O:XI}{H:XB}{E:ES}{nf:Nat}(hg:FG nf 6 O H E)(hn:nf≤6)(hl:E.length≤100000)(q:Nat):∀(m s k:Nat) (c:XB),m + s=E.length→m < k→c.length=36→∃ c',jw q k O E (E.length:Int) c (s:Int)=some (c',())∧c'.length=36
 |0,s,k + 1,c,h,_,hc=>by
  have h2:¬ s < E.length:=by omega
  exact⟨c,by simp only [go_sem,jw,Int.ofNat_lt,h2],hc⟩
 |m + 1,s,k + 1,c,h,hk,hc=>by
  have bo:s < E.length:=by omega
  have he:=hg.ed _ (List.getElem_mem bo);cases h5:(E[s].2.2.1 == 5) with
  |false=>
   obtain⟨c',e1,e2⟩:=fd0 hg hn hl q m (s + 1) k c (by omega) (by omega) hc
   exact⟨c',by simp only [go_sem,jw,aa,Int.ofNat_lt,bo,cQ bo,h5,af (show s < _ by omega),e1],e2⟩
  |true=>
   have ha:=he.2.2 (beq_iff_eq.1 h5);have hi:E[s].1.toNat < O.length:=by omega
   have i1:bH O E[s].1=some O[E[s].1.toNat]:=by have:bH O ((E[s].1.toNat:Nat):Int)=some O[E[s].1.toNat]:=cQ hi;rwa [Int.toNat_of_nonneg he.1] at this
   have ho:=hg.ow _ (List.getElem_mem hi);generalize O[E[s].1.toNat]=o at *;obtain⟨y,hy⟩:=VC hc (a:=o.toNat) (b:=E[s].2.2.2.2.toNat) (by omega) (by omega)
   obtain⟨c',e1,e2⟩:=fd0 hg hn hl q m (s + 1) k (c.set (o.toNat * 6 + E[s].2.2.2.2.toNat * 1) true) (by omega) (by omega) (by simpa using hc)
   refine⟨c',?_,e2⟩;have b1:decide (0≤o)=true:=decide_eq_true ho.1;have b2:decide (o < 6)=true:=decide_eq_true (by omega)
   have b3:decide (0≤E[s].2.2.2.2)=true:=decide_eq_true ha.1;have b4:decide (E[s].2.2.2.2 < 6)=true:=decide_eq_true ha.2;simp only [go_sem,jw,aa,Int.ofNat_lt,bo,cQ bo,h5,i1,b1,b2,b3,b4,Bool.and_self,hy,af (show s < _ by omega),e1]
theorem fd6{kk i n:Nat}(hk:kk < 6)(hi:i < 6)(hn:n≤6)(q:Nat):∀(m s k:Nat) (c:XB),m + s=n→m < k→c.length=36→∃ c',fU q k (kk:Int) (i:Int) (n:Int) c (s:Int)=some (c',())∧c'.length=36
 |0,s,k + 1,c,h,_,hc=>by
  have h2:¬ s < n:=by omega
  exact⟨c,by simp only [go_sem,fU,Int.ofNat_lt,h2],hc⟩
 |m + 1,s,k + 1,c,h,hm,hc=>by
  have bo:s < n:=by omega
  obtain⟨y1,h1⟩:=VC hc hi hk;obtain⟨y2,h2⟩:=VC hc hk (show s < 6 by omega)
  obtain⟨y3,h3⟩:=VC hc hi (show s < 6 by omega)
  obtain⟨c1,e1,e2⟩:=fd6 hk hi hn q m (s + 1) k c (by omega) (by omega) hc
  obtain⟨c2,e3,e4⟩:=fd6 hk hi hn q m (s + 1) k (c.set (i * 6 + s * 1) true) (by omega) (by omega) (by simpa using hc)
  have bi:decide ((0:Int)≤(i:Int))=true:=decide_eq_true (by omega)
  have bi6:decide ((i:Int) < 6)=true:=decide_eq_true (by omega)
  have bk:decide ((0:Int)≤(kk:Int))=true:=decide_eq_true (by omega)
  have bk6:decide ((kk:Int) < 6)=true:=decide_eq_true (by omega)
  have bs:decide ((0:Int)≤(s:Int))=true:=decide_eq_true (by omega)
  have bs6:decide ((s:Int) < 6)=true:=decide_eq_true (by omega)
  have Tt:fU q (k + 1) (kk:Int) (i:Int) (n:Int) c (s:Int)=bif y1 then(bif y2 then fU q k (kk:Int) (i:Int) (n:Int) (c.set (i * 6 + s * 1) true) ((s + 1:Nat):Int) else fU q k (kk:Int) (i:Int) (n:Int) c ((s + 1:Nat):Int)) else fU q k (kk:Int) (i:Int) (n:Int) c ((s + 1:Nat):Int):=by simp only [go_sem,fU,aa,Int.ofNat_lt,bo,bi,bi6,bk,bk6,bs,bs6,Bool.and_self,Int.toNat_natCast,h1,h2,h3,af (show s < _ by omega)]
  rw [Tt];cases y1 with
  |false=>exact⟨c1,e1,e2⟩
  |true=>cases y2 with
   |false=>exact⟨c1,e1,e2⟩
   |true=>exact⟨c2,e3,e4⟩
theorem fd4{kk n:Nat}(hk:kk < 6)(hn:n≤6)(q:Nat)(hq:7≤q):∀(m s k:Nat) (c:XB),m + s=n→m < k→c.length=36→∃ c',kr q k (n:Int) (kk:Int) (n:Int) c (s:Int)=some (c',())∧c'.length=36
 |0,s,k + 1,c,h,_,hc=>by
  have h2:¬ s < n:=by omega
  exact⟨c,by simp only [go_sem,kr,Int.ofNat_lt,h2],hc⟩
 |m + 1,s,k + 1,c,h,hm,hc=>by
  have bo:s < n:=by omega
  obtain⟨c1,e1,e2⟩:=fd6 hk (show s < 6 by omega) hn q n 0 q c (by omega) (by omega) hc
  obtain⟨c2,e3,e4⟩:=fd4 hk hn q hq m (s + 1) k c1 (by omega) (by omega) e2
  have e1:fU q q (kk:Int) (s:Int) (n:Int) c 0=some (c1,()):=e1;exact⟨c2,by simp only [go_sem,kr,Int.ofNat_lt,bo,e1,af (show s < _ by omega),e3],e4⟩
theorem fd2{n:Nat}(hn:n≤6)(q:Nat)(hq:7≤q):∀(m s k:Nat) (c:XB),m + s=n→m < k→c.length=36→∃ c',kq q k (n:Int) (n:Int) c (s:Int)=some (c',())∧c'.length=36
 |0,s,k + 1,c,h,_,hc=>by
  have h2:¬ s < n:=by omega
  exact⟨c,by simp only [go_sem,kq,Int.ofNat_lt,h2],hc⟩
 |m + 1,s,k + 1,c,h,hm,hc=>by
  have bo:s < n:=by omega
  obtain⟨c1,e1,e2⟩:=fd4 (show s < 6 by omega) hn q hq n 0 q c (by omega) (by omega) hc
  obtain⟨c2,e3,e4⟩:=fd2 hn q hq m (s + 1) k c1 (by omega) (by omega) e2
  have e1:kr q q (n:Int) (s:Int) (n:Int) c 0=some (c1,()):=e1;exact⟨c2,by simp only [go_sem,kq,Int.ofNat_lt,bo,e1,af (show s < _ by omega),e3],e4⟩
theorem abK{c:XB}(hc:c.length=36){i n:Nat}(hi:i < n)(hn:n≤6)(q:Nat):∀(m s k:Nat) (d:XB),m + s=n→m < k→d.length=n→∃ d',gg q k c (i:Int) (n:Int) d (s:Int)=some (d',())∧d'.length=n
 |0,s,k + 1,d,h,_,hd=>by
  have h2:¬ s < n:=by omega
  exact⟨d,by simp only [go_sem,gg,Int.ofNat_lt,h2],hd⟩
 |m + 1,s,k + 1,d,h,hm,hd=>by
  have bo:s < n:=by omega
  obtain⟨y1,h1⟩:=VC hc (show s < 6 by omega) (show s < 6 by omega)
  obtain⟨y2,h2⟩:=VC hc (show s < 6 by omega) (show i < 6 by omega)
  obtain⟨y3,h3⟩:=at_len hd hi;obtain⟨d1,e1,e2⟩:=abK hc hi hn q m (s + 1) k d (by omega) (by omega) hd
  obtain⟨d2,e3,e4⟩:=abK hc hi hn q m (s + 1) k (d.set i true) (by omega) (by omega) (by simpa using hd)
  have bi:decide ((0:Int)≤(i:Int))=true:=decide_eq_true (by omega)
  have bi6:decide ((i:Int) < 6)=true:=decide_eq_true (by omega)
  have bs:decide ((0:Int)≤(s:Int))=true:=decide_eq_true (by omega)
  have bs6:decide ((s:Int) < 6)=true:=decide_eq_true (by omega)
  have Tt:gg q (k + 1) c (i:Int) (n:Int) d (s:Int)=bif (y1 && ((i:Int) == (s:Int) || y2)) then gg q k c (i:Int) (n:Int) (d.set i true) ((s + 1:Nat):Int) else gg q k c (i:Int) (n:Int) d ((s + 1:Nat):Int):=by
   simp only [go_sem,gg,aa,Int.ofNat_lt,bo,bi,bi6,bs,bs6,Bool.and_self,Int.toNat_natCast,h1,h2,h3,af (show s < _ by omega)]
   cases y1<;>cases ((i:Int) == (s:Int))<;>rfl
  rw [Tt];cases (y1 && ((i:Int) == (s:Int) || y2)) with
  |false=>exact⟨d1,e1,e2⟩
  |true=>exact⟨d2,e3,e4⟩
theorem fd8{c:XB}(hc:c.length=36){n:Nat}(hn:n≤6)(q:Nat)(hq:7≤q):∀(m s k:Nat) (d:XB),m + s=n→m < k→d.length=n→∃ d',kv q k (n:Int) c (n:Int) d (s:Int)=some (d',())∧d'.length=n
 |0,s,k + 1,d,h,_,hd=>by
  have h2:¬ s < n:=by omega
  exact⟨d,by simp only [go_sem,kv,Int.ofNat_lt,h2],hd⟩
 |m + 1,s,k + 1,d,h,hm,hd=>by
  have bo:s < n:=by omega
  obtain⟨d1,e1,e2⟩:=abK hc bo hn q n 0 q d (by omega) (by omega) hd
  obtain⟨d2,e3,e4⟩:=fd8 hc hn q hq m (s + 1) k d1 (by omega) (by omega) e2
  have e1:gg q q c (s:Int) (n:Int) d 0=some (d1,()):=e1;exact⟨d2,by simp only [go_sem,kv,Int.ofNat_lt,bo,e1,af (show s < _ by omega),e3],e4⟩
theorem Jf{α:Type}(n:Nat)(x:α)(h:n≤1000000):mkl (n:Int) x=some (List.replicate n x):=by
 have h1:decide ((0:Int)≤(n:Int))=true:=decide_eq_true (by omega)
 have h2:decide ((n:Int)≤4294967296)=true:=decide_eq_true (by omega)
 simp only [go_sem,mkl,h1,h2,Bool.and_self,Int.toNat_natCast]
theorem Ek{α:Type}{l:List α}{n:Nat}(h:l.length=n):sub l 0 (n:Int)=some l:=by
 have:=GB (l:=l) (m:=0) (n:=n) (by omega) (by omega)
 rw [show(0:Int)=((0:Nat):Int) from rfl,this,←h,List.take_length];rfl
theorem Nw{F:FS}{O:XI}{H:XB}{E:ES}(hg:FG F.length 6 O H E)(hn:F.length≤6)(hl:E.length≤100000){k:Nat}(hk:200000≤k):∃ d,uM k F O E=some (d,()):=by
 obtain⟨c1,e1,e2⟩:=fd0 hg hn hl k E.length 0 k (List.replicate 36 false) (by omega) (by omega) (by simp)
 obtain⟨c2,e3,e4⟩:=fd2 hn k (by omega) F.length 0 k c1 (by omega) (by omega) e2
 obtain⟨d,e5,e6⟩:=fd8 e4 hn k (by omega) F.length 0 k (List.replicate F.length false) (by omega) (by omega) (by simp)
 have e1:jw k k O E (E.length:Int) (List.replicate 36 false) 0=_:=e1;have e3:kq k k (F.length:Int) (F.length:Int) c1 0=_:=e3;have e5:kv k k (F.length:Int) c2 (F.length:Int) (List.replicate F.length false) 0=_:=e5;exact⟨d,by simp only [go_sem,uM,e1,e3,Jf F.length false (by omega),Ek (List.length_replicate (n:=F.length) (a:=false)),e5]⟩
section
variable {ns:List eq} {t:yE} {D:AS}
theorem V9(hp:P1 ns t D)(fo:jl ns)(F9:∀ x∈t.2.2,GO ns t x.1 x.2.2.2.2.toNat)(hl:ns.length≤1401):Ev fun k=>∀ bF,pf k bF=some (ns,(0,0),())→iQ k ns=some (t,(0,0),())→
  ∃ ki pl O En H E la out d,sD k bF=some (.inl (ns,t.1,t.2.1,t.2.2,ki,pl,O,En,H,E,la,out,d,(0,0),())):=by
 have hf6:=hp.iw.f;refine((OI hp fo F9 t.2.2.length 0 rfl).jN.and ((R6 hp fo hl t.2.2.length 0 rfl).jN.and (⟨200000,fun k hk=>hk⟩:Ev fun k=>200000≤k))).mono fun k e bF hT hN=>?_;obtain⟨e1,e2,hk⟩:=e;have h0:KP ns (List.replicate ns.length 0) (List.replicate ns.length 0):=⟨by simp,by simp,fun j x hj _=>⟨0,by
  have:=(List.getElem?_eq_some_iff.1 hj).1;simp [this],by omega,by omega⟩⟩
 obtain⟨ki,pl,w1,w2⟩:=e1 _ _ h0;obtain⟨fn,O,En,H,E,la,w3,w4,w5,w6⟩:=e2 ki pl w2.o 0 [] [] [] [] (List.replicate ns.length (0,0,0,0)) ⟨rfl,by simp,by simp⟩ rfl (by simp) (by simp) (by simp)
 obtain⟨out,w7⟩:=Sw (n:=O.length) (fun e he=>⟨(w4.ed e he).1,(w4.ed e he).2.1⟩) (by omega) k E.length 0 k (List.replicate O.length []) (by omega) (by omega) (by simp) (by simp)
 obtain⟨d,w8⟩:=Nw w4 hf6 (by omega) hk
 have w1:oZ k k ns t.1 t.2.1 t.2.2 t.2.2 (t.2.2.length:Int) (List.replicate ns.length 0) (List.replicate ns.length 0) 0=_:=w1;have w3:o7 k k ns t.1 t.2.1 t.2.2 ki pl (t.2.2.length:Int) 0 [] [] [] [] (List.replicate ns.length (0,0,0,0)) 0=_:=w3;have w7:o8 k k E (E.length:Int) (List.replicate O.length []) 0=_:=w7;refine⟨ki,pl,O,En,H,E,la,out,d,?_⟩;simp only [go_sem,sD,hT,hN,Jf ns.length (0:Int) (by omega),Ek (List.length_replicate (n:=ns.length) (a:=(0:Int))),w1,Jf ns.length ((0,0,0,0):Int×Int×Int×Int) (by omega),Ek (List.length_replicate (n:=ns.length) (a:=((0,0,0,0):Int×Int×Int×Int))),w3,Jf O.length ([]:XI) (by omega),Ek (List.length_replicate (n:=O.length) (a:=([]:XI))),w7,w8]
end
end Go.Fx.R5
namespace Go.Fx.R5
open Go Go.Fx
theorem acY{ns:List eq}(hl:ns.length≤1000000)(q:Nat):∀(m s k:Nat) (fr to:XI),m + s=ns.length→m < k→fr.length=s→to.length=s→∃ Oo Pm,nV q k ns fr to (s:Int)=some (Oo,Pm,())∧Oo.length=ns.length∧Pm.length=ns.length
 |0,s,k + 1,fr,to,h,_,hf,ht=>by
  have h2:¬ s < ns.length:=by omega
  exact⟨fr,to,by simp only [go_sem,nV,Int.ofNat_lt,h2],by omega,by omega⟩
 |m + 1,s,k + 1,fr,to,h,hk,hf,ht=>by
  have bo:s < ns.length:=by omega
  obtain⟨Oo,Pm,e1,e2,e3⟩:=acY hl q m (s + 1) k (fr ++ [-1]) (to ++ [-1]) (by omega) (by omega) (by simp;omega) (by simp;omega)
  exact⟨Oo,Pm,by simp only [go_sem,nV,Int.ofNat_lt,bo,yS (show fr.length≤2000000 by omega),yS (show to.length≤2000000 by omega),af (show s < _ by omega),e1],e2,e3⟩
section
variable {ns:List eq} {t:yE} {D:AS}
theorem acZ(hp:P1 ns t D)(fo:jl ns)(F9:∀ x∈t.2.2,GO ns t x.1 x.2.2.2.2.toNat)(hl:ns.length≤1401):∀ m s,m + s=t.2.2.length→co fun q k=>∀(fn:Int) (O En:XI) (H:XB) (E:ES) (fr to:XI),FG t.2.2.length t.2.2.length O H E→En.length=s→O.length≤s * 8000→E.length≤s * 8000→fr.length=ns.length→to.length=ns.length→
  ∃ fn' O' En' H' E' Oo Pm,nW q k t.2.2 t.1 t.2.1 t.2.2 ns fn O En H E fr to (s:Int)=some (fn',O',En',H',E',Oo,Pm,())∧FG t.2.2.length t.2.2.length O' H' E'∧E'.length≤48000∧En'.length=t.2.2.length
 |0,s,h=>by
  have h2:¬ s < t.2.2.length:=by omega
  have hf6:=hp.iw.f;refine co.succ (co.of fun q k fn O En H E fr to hg hEn hO hE sV Il=>⟨fn,O,En,H,E,fr,to,by simp only [go_sem,nW,Int.ofNat_lt,h2],hg,by omega,by omega⟩)
 |m + 1,s,h=>by
  have bo:s < t.2.2.length:=by omega
  have hf6:=hp.iw.f;have hb:=hp.bd _ (List.getElem_mem bo);have hw:=hb.2.2.2;have hB:=(VU (nf:=t.2.2.length) (nmf:=t.2.2[s].1) hp.iw fo (t.2.2[s].2.2.2.2.toNat + 1) t.2.2[s].2.2.2.2.toNat (by omega) (by omega) (F9 _ (List.getElem_mem bo))).1 (by rw [Int.toNat_of_nonneg hb.1];exact hb.2.2.1)
  unfold BFS at hB;rw [Int.toNat_of_nonneg hb.1] at hB;refine co.succ ((hB.tX.and (acZ hp fo F9 hl m (s + 1) (by omega))).mono fun q k e fn O En H E fr to hg hEn hO hE sV Il=>?_)
  have f0:(0:Int)≤(s:Int):=by omega
  have f1:(s:Int) < (t.2.2.length:Nat):=by omega
  have hp1:=qN hg (show O.length≤2000000 by omega) (s:Int) false
  have AX:=hg.nZ f0 f1 false;have GE:=qN AX (show(O ++ [(s:Int)]).length≤2000000 by simp;omega) (s:Int) false
  have KU:=AX.nZ f0 f1 false;have hen:lq En [(O.length:Int)]=some (En ++ [(O.length:Int)]):=yS (by omega)
  obtain⟨O1,H1,E1,fr1,to1,w1,w2,w3,w3'⟩:=e.1 (s:Int) (O ++ [(s:Int)] ++ [(s:Int)]) (H ++ [false] ++ [false]) E (En ++ [(O.length:Int)]) fr to (O.length:Int) ((O ++ [(s:Int)]).length:Int) KU f0 f1 (by omega) (by simp;omega) sV Il (by simp;omega) (by omega)
  have l1:=w2.lo;have l2:=w2.hi;have l3:=w2.eh;simp only [List.length_append,List.length_cons,List.length_nil] at l1 l2;have hg3:=w2.fg.yF (f:=((O ++ [(s:Int)]).length:Int)) (t:=((O ++ [(s:Int)]).length:Int)) (k:=6) (n:=-1) (a:=0) (by omega) (by simp;omega) (fun h=>absurd h (by decide))
  obtain⟨FY,O2,En2,H2,E2,fr2,Ck,w4,w5,w6,w7⟩:=e.2 (s:Int) O1 (En ++ [(O.length:Int)]) H1 (E1 ++ [(((O ++ [(s:Int)]).length:Int),((O ++ [(s:Int)]).length:Int),6,-1,0)]) fr1 to1 hg3 (by simp;omega) (by omega) (by simp;omega) w3 w3'
  refine⟨FY,O2,En2,H2,E2,fr2,Ck,?_,w5,w6,w7⟩;simp only [go_sem,nW,Int.ofNat_lt,bo,hp1,hen,GE,cQ bo,w1,tO (show E1.length≤2000000 by omega),af (show s < _ by omega),w4]
end
section
variable {O En:XI} {H:XB} {E:ES}
theorem Tk{α:Type}{l:List α}{v:Int}(h0:0≤v)(h1:v < l.length):∃ y,bH l v=some y∧bH l ((v.toNat:Nat):Int)=some y:=by
 obtain⟨y,hy⟩:=at_len (l:=l) (i:=v.toNat) rfl (by omega)
 exact⟨y,by rw [←hy,Int.toNat_of_nonneg h0],hy⟩
theorem T1{n:Nat}(hg:FG n n O H E)(hl:E.length≤100000)(fn:Int)(q:Nat):∀(m s k:Nat) (r:XB),m + s=E.length→m < k→r.length=n→∃ r',gL q k O E fn r (s:Int)=some (r',())∧r'.length=n
 |0,s,k + 1,r,h,_,hr=>by
  have h2:¬ s < E.length:=by omega
  exact⟨r,by simp only [go_sem,gL,Int.ofNat_lt,h2],hr⟩
 |m + 1,s,k + 1,r,h,hk,hr=>by
  have bo:s < E.length:=by omega
  have he:=hg.ed _ (List.getElem_mem bo);obtain⟨r1,e1,e2⟩:=T1 hg hl fn q m (s + 1) k r (by omega) (by omega) hr
  cases h5:(E[s].2.2.1 == 5) with
  |false=>exact⟨r1,by simp only [go_sem,gL,aa,Int.ofNat_lt,bo,cQ bo,h5,af (show s < _ by omega),e1],e2⟩
  |true=>
   have ha:=he.2.2 (beq_iff_eq.1 h5);obtain⟨o,o1,o2⟩:=Tk (l:=O) he.1 he.2.1;have hom:o∈O:=by
    simp only [go_sem,bH,Int.toNat_natCast,show decide (0≤((E[s].1.toNat:Nat):Int))=true from decide_eq_true (by omega)] at o2
    exact List.mem_of_getElem? o2
   have ho:=hg.ow o hom;obtain⟨b,b1,b2⟩:=Tk (l:=r) (v:=o) ho.1 (by omega)
   obtain⟨c,c1,c2⟩:=Tk (l:=r) (v:=E[s].2.2.2.2) ha.1 (by omega)
   obtain⟨r2,e3,e4⟩:=T1 hg hl fn q m (s + 1) k (r.set E[s].2.2.2.2.toNat true) (by omega) (by omega) (by simpa using hr)
   have Tt:gL q (k + 1) O E fn r (s:Int)=bif (o == fn || b) then gL q k O E fn (r.set E[s].2.2.2.2.toNat true) ((s + 1:Nat):Int) else gL q k O E fn r ((s + 1:Nat):Int):=by
    simp only [go_sem,gL,aa,Int.ofNat_lt,bo,cQ bo,h5,o1,b1,b2,c1,c2,af (show s < _ by omega)]
    cases (o == fn)<;>rfl
   rw [Tt];cases (o == fn || b) with
   |false=>exact⟨r1,e1,e2⟩
   |true=>exact⟨r2,e3,e4⟩
theorem YP{n:Nat}(hg:FG n n O H E)(hn:n≤6)(hEn:En.length=n)(hl:E.length≤100000)(fn:Int)(q:Nat)(hq:100001≤q):∀(m s k:Nat) (r:XB),m + s=n→m < k→r.length=n→∃ r',lP q k O En E fn r (s:Int)=some (r',())∧r'.length=n
 |0,s,k + 1,r,h,_,hr=>by
  have h2:¬ s < En.length:=by omega
  exact⟨r,by simp only [go_sem,lP,Int.ofNat_lt,h2],hr⟩
 |m + 1,s,k + 1,r,h,hk,hr=>by
  have bo:s < En.length:=by omega
  obtain⟨r1,e1,e2⟩:=T1 hg hl fn q E.length 0 q r (by omega) (by omega) hr
  obtain⟨r2,e3,e4⟩:=YP hg hn hEn hl fn q hq m (s + 1) k r1 (by omega) (by omega) e2
  have e1:gL q q O E fn r 0=_:=e1;exact⟨r2,by simp only [go_sem,lP,Int.ofNat_lt,bo,e1,af (show s < _ by omega),e3],e4⟩
theorem SG{n:Nat}(hg:FG n n O H E)(hn:n≤6)(hEn:En.length=n)(hl:E.length≤100000)(fn:Int){k:Nat}(hk:100001≤k):∃ r,wP k (O,En,H,E) fn=some (r,())∧r.length=n:=by
 obtain⟨r,e1,e2⟩:=YP hg hn hEn hl fn k hk n 0 k (List.replicate n false) (by omega) (by omega) (by simp)
 have e1:lP k k O En E fn (List.replicate n false) 0=_:=e1;exact⟨r,by simp only [go_sem,wP,hEn,Jf n false (by omega),Ek (List.length_replicate (n:=n) (a:=false)),e1],e2⟩
theorem mz{n:Nat}{r:XB}(hr:r.length=n)(hn:n≤6)(q:Nat):∀(m s k:Nat) (d:XB),m + s=n→m < k→d.length=n→∃ d',mN q k r d (s:Int)=some (d',())∧d'.length=n
 |0,s,k + 1,d,h,_,hd=>by
  have h2:¬ s < r.length:=by omega
  exact⟨d,by simp only [go_sem,mN,Int.ofNat_lt,h2],hd⟩
 |m + 1,s,k + 1,d,h,hk,hd=>by
  have bo:s < r.length:=by omega
  obtain⟨y,hy⟩:=at_len (l:=d) hd (show s < n by omega)
  obtain⟨z,hz⟩:=at_len (l:=r) hr (show s < n by omega)
  obtain⟨d1,e1,e2⟩:=mz hr hn q m (s + 1) k (d.set s (y || z)) (by omega) (by omega) (by simpa using hd)
  refine⟨d1,?_,e2⟩;rw [←e1];simp only [go_sem,mN,aa,Int.ofNat_lt,bo,Int.toNat_natCast,hy,hz,af (show s < _ by omega)]
  cases y<;>rfl
theorem W6{n:Nat}(hg:FG n n O H E)(hn:n≤6)(hEn:En.length=n)(hl:E.length≤100000)(q:Nat)(hq:100001≤q):∀(m s k:Nat) (d:XB),m + s=n→m < k→d.length=n→∃ d',iV q k O En H E d (s:Int)=some (d',())∧d'.length=n
 |0,s,k + 1,d,h,_,hd=>by
  have h2:¬ s < En.length:=by omega
  exact⟨d,by simp only [go_sem,iV,Int.ofNat_lt,h2],hd⟩
 |m + 1,s,k + 1,d,h,hk,hd=>by
  have bo:s < En.length:=by omega
  obtain⟨r,e1,e2⟩:=SG hg hn hEn hl (s:Int) hq;obtain⟨x,hx⟩:=at_len (l:=r) e2 (show s < n by omega)
  obtain⟨y,hy⟩:=at_len (l:=d) hd (show s < n by omega)
  obtain⟨d1,e3,e4⟩:=mz e2 hn q n 0 q (d.set s true) (by omega) (by omega) (by simpa using hd)
  have e3:mN q q r (d.set s true) 0=_:=e3;obtain⟨d2,e5,e6⟩:=W6 hg hn hEn hl q hq m (s + 1) k d (by omega) (by omega) hd
  obtain⟨d3,e7,e8⟩:=W6 hg hn hEn hl q hq m (s + 1) k d1 (by omega) (by omega) e4
  have Tt:iV q (k + 1) O En H E d (s:Int)=bif x then iV q k O En H E d1 ((s + 1:Nat):Int) else iV q k O En H E d ((s + 1:Nat):Int):=by
   simp only [go_sem,iV,aa,Int.ofNat_lt,bo,e1,hx,hy,Int.toNat_natCast,e3,af (show s < _ by omega)]
   cases x<;>rfl
  rw [Tt];cases x with
  |false=>exact⟨d2,e5,e6⟩
  |true=>exact⟨d3,e7,e8⟩
end
section
variable {ns:List eq} {t:yE} {D:AS}
theorem Wk(hp:P1 ns t D)(fo:jl ns)(F9:∀ x∈t.2.2,GO ns t x.1 x.2.2.2.2.toNat)(hl:ns.length≤1401):Ev fun k=>∀ bF,gK k bF=some (ns,(0,0),())→dW k bF=some (t,(0,0),())→
  ∃ O En H E d,tS k bF=some (.inl (t.1,t.2.1,t.2.2,ns,O,En,H,E,d,true,())):=by
 have hf6:=hp.iw.f;refine((acZ hp fo F9 hl t.2.2.length 0 rfl).jN.and (⟨200000,fun k hk=>hk⟩:Ev fun k=>200000≤k)).mono fun k e bF hT hN=>?_;obtain⟨e2,hk⟩:=e;obtain⟨fr,to,w1,w2,w3⟩:=acY (ns:=ns) (by omega) k ns.length 0 k [] [] rfl (by omega) rfl rfl
 obtain⟨fn,O,En,H,E,Oo,Pm,w4,w5,w6,w7⟩:=e2 0 [] [] [] [] fr to ⟨rfl,by simp,by simp⟩ rfl (by simp) (by simp) w2 w3
 obtain⟨d,w8,_⟩:=W6 w5 hf6 w7 (by omega) k (by omega) t.2.2.length 0 k (List.replicate t.2.2.length false) (by omega) (by omega) (by simp)
 have w1:nV k k ns [] [] 0=_:=w1;have w4:nW k k t.2.2 t.1 t.2.1 t.2.2 ns 0 [] [] [] [] fr to 0=_:=w4;have w8:iV k k O En H E (List.replicate t.2.2.length false) 0=_:=w8;refine⟨O,En,H,E,d,?_⟩;simp only [go_sem,tS,hN,hT,Gx,Gw,w1,w4,DQ,w7,Jf t.2.2.length false (by omega),Ek (List.length_replicate (n:=t.2.2.length) (a:=false)),w8]
end
theorem zH(q:Nat)(A:AS):∀ k l i,lW q k A (A.length:Int) l i=gD q k A l i
 |0,_,_=>rfl
 |k + 1,l,i=>by simp only [lW,gD,zH q A k];cases bH A i<;>rfl
theorem st2(q:Nat)(ns:List eq):∀ k l i,lX q k ns (ns.length:Int) l i=fH q k ns l i
 |0,_,_=>rfl
 |k + 1,l,i=>by simp only [lX,fH,aa,st2 q ns k];cases bH ns i<;>rfl
theorem Uc(k:Nat)(ns:List eq)(A:AS):qE k ns A=nr k A ns:=by simp only [qE,nr,zH,st2]
theorem Ub(A:AS)(ns:List eq)(ha:A.length≤4)(hn:ns.length≤1401){k:Nat}(hk:2000≤k):∃ l:XI,nr k A ns=some (l,())∧l.length≤20000:=by
 have l0:∀(m s k':Nat) (l:XI),m + s=A.length→m < k'→l.length≤2 * s→∃ l',gD k k' A l (s:Int)=some (l',())∧l'.length≤8:=by
  intro m;induction m with
  |zero=>
   intro s k' l h hk' hl;obtain⟨k',rfl⟩:∃ j,k' = j + 1:=⟨k' - 1,by omega⟩
   have h2:¬ s < A.length:=by omega
   exact⟨l,by simp only [go_sem,gD,Int.ofNat_lt,h2],by omega⟩
  |succ m ih=>
   intro s k' l h hk' hl;obtain⟨k',rfl⟩:∃ j,k' = j + 1:=⟨k' - 1,by omega⟩
   have bo:s < A.length:=by omega
   obtain⟨l',e1,e2⟩:=ih (s + 1) k' (l ++ [dq (A[s].2 - 1),A[s].2]) (by omega) (by omega) (by simp;omega)
   have ha:lq l [dq (A[s].2 - 1),A[s].2]=some (l ++ [dq (A[s].2 - 1),A[s].2]):=p6 (by simp;omega)
   exact⟨l',by simp only [go_sem,gD,Int.ofNat_lt,bo,cQ bo,ha,af (show s < _ by omega),e1],e2⟩
 have l2:∀(m s k':Nat) (l:XI),m + s=ns.length→m < k'→l.length≤8 + 6 * s→∃ l',fH k k' ns l (s:Int)=some (l',())∧l'.length≤20000:=by
  intro m;induction m with
  |zero=>
   intro s k' l h hk' hl;obtain⟨k',rfl⟩:∃ j,k' = j + 1:=⟨k' - 1,by omega⟩
   have h2:¬ s < ns.length:=by omega
   exact⟨l,by simp only [go_sem,fH,Int.ofNat_lt,h2],by omega⟩
  |succ m ih=>
   intro s k' l h hk' hl;obtain⟨k',rfl⟩:∃ j,k' = j + 1:=⟨k' - 1,by omega⟩
   have bo:s < ns.length:=by omega
   cases h24:(ns[s].1 == 24) with
   |false=>
    obtain⟨l',e1,e2⟩:=ih (s + 1) k' l (by omega) (by omega) (by omega)
    exact⟨l',by simp only [go_sem,fH,aa,Int.ofNat_lt,bo,cQ bo,h24,af (show s < _ by omega),e1],e2⟩
   |true=>
    have ha:∀ a b c d e f:Int,lq l [a,b,c,d,e,f]=some (l ++ [a,b,c,d,e,f]):=fun a b c d e f=>p6 (by simp;omega)
    obtain⟨l',e1,e2⟩:=ih (s + 1) k' (l ++ [dq (ns[s].2.2.1 - 1),ns[s].2.2.1,dq (ns[s].2.2.1 + 1),dq (dq (0 - ns[s].2.2.1) - 1),dq (0 - ns[s].2.2.1),dq (1 - ns[s].2.2.1)]) (by omega) (by omega) (by simp;omega)
    exact⟨l',by simp only [go_sem,fH,aa,Int.ofNat_lt,bo,cQ bo,h24,ha,af (show s < _ by omega),e1],e2⟩
 obtain⟨a,e1,e2⟩:=l0 A.length 0 k [] rfl (by omega) (by simp)
 obtain⟨b,e3,e4⟩:=l2 ns.length 0 k a rfl (by omega) (by omega)
 have e1:gD k k A [] 0=_:=e1;have e3:fH k k ns a 0=_:=e3;exact⟨b,by simp only [go_sem,nr,e1,e3],e4⟩
theorem V8(bF:an):(∃ c p,c≠0∧Ev fun k=>dW k bF=some (([],[],[]),(c,p),())∧sD k bF=some (.inr ((c,p),())))∨
  ∃ ns t D,Tj ns∧P1 ns t D∧Ev fun k=>(gK k bF=some (ns,(0,0),())∧dW k bF=some (t,(0,0),()))∧
   (∃ ki pl O En H E la out d,sD k bF=some (.inl (ns,t.1,t.2.1,t.2.2,ki,pl,O,En,H,E,la,out,d,(0,0),())))∧∃ O En H E d,tS k bF=some (.inl (t.1,t.2.1,t.2.2,ns,O,En,H,E,d,true,())):=by
 rcases TW bF with ⟨ns,hT,he⟩ |⟨c,p,hc,he⟩
 ·rcases Uf hT with ⟨c,p,hc,hN⟩ |⟨t,D,hp,F9,hN⟩
  ·refine .inl ⟨c,p,hc,(he.and hN).mono fun k e=>⟨e.2.2 bF e.1.1,?_⟩⟩
   simp only [go_sem,sD,e.1.2,e.2.1,bne_iff_ne.2 hc]
  ·have hl:ns.length≤1401:=hT.len
   refine .inr ⟨ns,t,D,hT,hp,((he.and hN).and ((V9 hp hT.all F9 hl).and (Wk hp hT.all F9 hl))).mono fun k e=>?_⟩;obtain⟨⟨⟨e1,e2⟩,e3,e4⟩,e5,e6⟩:=e;exact⟨⟨e1,e4 bF e1⟩,e5 bF e2 e3,e6 bF e1 (e4 bF e1)⟩
 ·refine .inl ⟨c,p,hc,he.mono fun k e=>⟨by simp only [go_sem,dW,e.1,bne_iff_ne.2 hc],?_⟩⟩
  simp only [go_sem,sD,e.2,bne_iff_ne.2 hc]
end Go.Fx.R5
namespace Go.Fx.R5
open Go Go.Fx
theorem Zz(a:XI)(hl:a.length≤100000){k:Nat}(hk:100001≤k):vu k a a=some (true,()):=by
 have key:∀(m s k':Nat),m + s=a.length→m < k'→mG k k' a a (s:Int)=some (.inl ()):=by
  intro m;induction m with
  |zero=>
   intro s k' h hk';obtain⟨k',rfl⟩:∃ j,k' = j + 1:=⟨k' - 1,by omega⟩
   have h2:¬ s < a.length:=by omega
   simp only [go_sem,mG,Int.ofNat_lt,h2]
  |succ m ih=>
   intro s k' h hk';obtain⟨k',rfl⟩:∃ j,k' = j + 1:=⟨k' - 1,by omega⟩
   have bo:s < a.length:=by omega
   simp only [go_sem,mG,Int.ofNat_lt,bo,cQ bo,af (show s < _ by omega),ih (s + 1) k' (by omega) (by omega)]
 have e:mG k k a a 0=_:=key a.length 0 k rfl (by omega)
 simp only [go_sem,vu,e]
def mk1(n:Nat):XI:=(List.range n).map fun i=>((i + 1:Nat):Int)
theorem D9(n:Nat):(mk1 n).length=n:=by simp [mk1]
theorem Yj(n:Nat):mk1 (n + 1)=mk1 n ++ [((n + 1:Nat):Int)]:=by simp [mk1,List.range_succ]
theorem afg(a:XI)(hl:a.length≤100000){k:Nat}(hk:100001≤k):uR k a 1=some (((a.length + 1:Nat):Int),mk1 a.length,()):=by
 have key:∀(m s k':Nat),m + s=a.length→m < k'→kA k k' (mk1 s ++ a.drop s) ((s + 1:Nat):Int) (s:Int)=some (mk1 a.length,((a.length + 1:Nat):Int),()):=by
  intro m;induction m with
  |zero=>
   intro s k' h hk';obtain⟨k',rfl⟩:∃ j,k' = j + 1:=⟨k' - 1,by omega⟩
   have hs:s=a.length:=by omega
   subst hs;have h2:¬ a.length < (mk1 a.length ++ a.drop a.length).length:=by simp [D9]
   simp only [go_sem,kA,Int.ofNat_lt,h2];simp
  |succ m ih=>
   intro s k' h hk';obtain⟨k',rfl⟩:∃ j,k' = j + 1:=⟨k' - 1,by omega⟩
   have bo:s < a.length:=by omega
   have L7:s < (mk1 s ++ a.drop s).length:=by simp [D9];omega
   have I3:(mk1 s ++ a.drop s).set s ((s + 1:Nat):Int)=mk1 (s + 1) ++ a.drop (s + 1):=by rw [List.set_append_right _ _ (by rw [D9];omega),D9,Nat.sub_self,List.drop_eq_getElem_cons bo,List.set_cons_zero,Yj,List.append_assoc];rfl
   simp only [go_sem,kA,Int.ofNat_lt,L7,cQ L7,Int.toNat_natCast,I3,af (show s + 1 < _ by omega),af (show s < _ by omega),ih (s + 1) k' (by omega) (by omega)]
 have e:kA k k a 1 0=_:=key a.length 0 k rfl (by omega)
 simp only [go_sem,uR,e]
theorem abS(n:Nat)(hl:n≤100000){k:Nat}(hk:100001≤k):rz k (mk1 n) 1=some (((n + 1:Nat):Int),()):=by
 have key:∀(m s k':Nat),m + s=n→m < k'→kz k k' (mk1 n) ((s + 1:Nat):Int) (s:Int)=some (.inl (((n + 1:Nat):Int),())):=by
  intro m;induction m with
  |zero=>
   intro s k' h hk';obtain⟨k',rfl⟩:∃ j,k' = j + 1:=⟨k' - 1,by omega⟩
   have hs:s=n:=by omega
   subst hs;have h2:¬ s < (mk1 s).length:=by rw [D9];omega
   simp only [go_sem,kz,Int.ofNat_lt,h2]
  |succ m ih=>
   intro s k' h hk';obtain⟨k',rfl⟩:∃ j,k' = j + 1:=⟨k' - 1,by omega⟩
   have L7:s < (mk1 n).length:=by rw [D9];omega
   have hv:(mk1 n)[s]=((s + 1:Nat):Int):=by simp [mk1]
   simp only [go_sem,kz,Int.ofNat_lt,L7,cQ L7,hv,af (show s + 1 < _ by omega),af (show s < _ by omega),ih (s + 1) k' (by omega) (by omega)]
 have e:kz k k (mk1 n) 1 0=_:=key n 0 k rfl (by omega)
 simp only [go_sem,rz,e]
end Go.Fx.R5
namespace Go.Fx.R5
open Go Go.Fx
theorem ML(q:Nat)(out:XI)(x:Int):∀(m s k:Nat),m + s=out.length→m < k→out.length≤1000→
  (iz q k out x (s:Int)=some (.inl ())∧fQ q k x out (out.length:Int) (s:Int)=some (.inl ())∧∀ y∈out.drop s,y≠x)∨
  ∃ j:Nat,iz q k out x (s:Int)=some (.inr ((j:Int),()))∧fQ q k x out (out.length:Int) (s:Int)=some (.inr (true,()))
 |0,s,k + 1,h,_,_=>by
  have h2:¬ s < out.length:=by omega
  refine .inl ⟨?_,?_,?_⟩
  ·simp only [go_sem,iz,Int.ofNat_lt,h2]
  ·simp only [go_sem,fQ,Int.ofNat_lt,h2]
  ·rw [List.drop_eq_nil_of_le (by omega)];simp
 |m + 1,s,k + 1,h,hk,hl=>by
  have bo:s < out.length:=by omega
  simp only [go_sem,iz,fQ,Int.ofNat_lt,bo,cQ bo,af (show s < _ by omega)]
  cases he:(out[s] == x) with
  |true=>exact .inr ⟨s,rfl,rfl⟩
  |false=>
   rcases ML q out x m (s + 1) k (by omega) (by omega) hl with ⟨a,b,c⟩ | h
   ·refine .inl ⟨a,b,fun y hy=>?_⟩
    rw [List.drop_eq_getElem_cons bo] at hy;rcases List.mem_cons.1 hy with rfl | hy
    ·exact ne_of_beq_false he
    ·exact c y hy
   ·exact .inr h
theorem YG(out:XI)(x:Int){k:Nat}(hk:out.length < k)(hl:out.length≤1000):∃ p,rJ k out x=some (p,())∧ot k out x=some (!decide (p < 0),())∧(p < 0→x∉out):=by
 rcases ML k out x out.length 0 k rfl hk hl with ⟨a,b,c⟩ |⟨j,a,b⟩
 ·have a:iz k k out x 0=_:=a
  have b:fQ k k x out (out.length:Int) 0=_:=b;exact⟨-1,by simp only [go_sem,rJ,a],by simp only [go_sem,ot,b];rfl,fun _ hx=>c x (by simpa using hx) rfl⟩
 ·have a:iz k k out x 0=_:=a
  have b:fQ k k x out (out.length:Int) 0=_:=b;have h2:¬ ((j:Int) < 0):=by omega
  exact⟨j,by simp only [go_sem,rJ,a],by simp only [go_sem,ot,b,h2],fun h=>absurd h h2⟩
theorem Yt(x:Int):∃ b,BA x=some (b,())∧Bn x=some (b,()):=by
 refine⟨decide (x≥-2147483648) && decide (x≤2147483647),?_,?_⟩
 ·simp only [BA,sP,aa]
  cases decide (x≥-2147483648)<;>rfl
 ·simp only [Bn,aa]
  cases decide (x≥-2147483648)<;>rfl
theorem DW(q:Nat)(hq:9≤q)(l:XI)(hl:l.length≤100000):∀(m s k:Nat) (out:XI),m + s=l.length→m < k→4≤out.length→out.length≤8→out.Nodup→
  ∃ b,kb q k l out (s:Int)=some (b,())∧gT q k l (l.length:Int) out (s:Int)=some (b,())∧4≤b.length∧b.length≤8∧b.Nodup
 |0,s,k + 1,out,h,_,h4,h8,hn=>by
  have h2:¬ s < l.length:=by omega
  exact⟨out,by simp only [go_sem,kb,aa,Int.ofNat_lt,h2],by simp only [go_sem,gT,Int.ofNat_lt,h2],h4,h8,hn⟩
 |m + 1,s,k + 1,out,h,hk,h4,h8,hn=>by
  have bo:s < l.length:=by omega
  have i2:=cQ bo;have i3:bH l ((Int.toNat (s:Int):Nat):Int)=some l[s]:=by simpa using i2
  by_cases h9:out.length=8
  ·have h5:¬ ((out.length:Int) < 8):=by omega
   have h6:((out.length:Int) == 8)=true:=by rw [h9];rfl
   exact⟨out,by simp only [go_sem,kb,aa,Int.ofNat_lt,bo,h5],
    by simp only [go_sem,gT,aa,Int.ofNat_lt,bo,i2,i3,h6],h4,h8,hn⟩
  ·have h5:(out.length:Int) < 8:=by omega
   have h6:((out.length:Int) == 8)=false:=beq_eq_false_iff_ne.2 (by omega)
   obtain⟨p,p1,p2,p3⟩:=YG out l[s] (k:=q) (by omega) (by omega)
   obtain⟨o,o1,o2⟩:=Yt l[s];simp only [go_sem,kb,gT,aa,Int.ofNat_lt,bo,h5,i2,i3,h6,p1,p2,o1,o2,af (show s < _ by omega),p6 (show out.length + [l[s]].length≤4294967296 by simp;omega)]
   cases o with
   |false=>
    obtain⟨b,e1,e2⟩:=DW q hq l hl m (s + 1) k out (by omega) (by omega) h4 h8 hn
    refine⟨b,?_,e2⟩;cases decide (p < 0)<;>simpa using e1
   |true=>
    by_cases hp:p < 0
    ·obtain⟨b,e1,e2⟩:=DW q hq l hl m (s + 1) k (out ++ [l[s]]) (by omega) (by omega) (by simp;omega) (by simp;omega) (by
      rw [List.nodup_append];exact⟨hn,by simp,fun a ha b hb=>by rw [List.mem_singleton.1 hb];exact fun e=>p3 hp (e ▸ ha)⟩)
     exact⟨b,by simpa [hp] using e1,by simpa [hp] using e2⟩
    ·obtain⟨b,e1,e2⟩:=DW q hq l hl m (s + 1) k out (by omega) (by omega) h4 h8 hn
     exact⟨b,by simpa [hp] using e1,by simpa [hp] using e2⟩
theorem aeq(q:Nat)(b:XI):∀(k:Nat) (n s c:Int),ou q k b n s c=qs q k b n s c
 |0,_,_,_=>rfl
 |k + 1,n,s,c=>by simp only [ou,qs,aeq q b k]
theorem aer(q:Nat)(b:XI):∀(k:Nat) (n:Int) (o:XI) (i:Int),ov q k b n o i=qt q k b n o i
 |0,_,_,_=>rfl
 |k + 1,n,o,i=>by simp only [ov,qt,aer q b k]
theorem Zg(k:Nat)(b:XI)(n:Int):uN k b n=oK k b n:=by simp only [uN,oK,aeq,aer]
def tix(L n:Nat):List Nat:=
 if n < 1 then [] else if n < 1 + L then [n - 1] else if n < 1 + L + L * L then [(n - 1 - L) / L,(n - 1 - L) % L] else
  [(n - 1 - L - L * L) / (L * L),(n - 1 - L - L * L) / L % L,(n - 1 - L - L * L) % L]
theorem aeG{α:Type}{f g:Nat→α}{n:Nat}(h:(List.range 60).map f=(List.range 60).map g)(hn:n < 60):f n=g n:=by
 have:=congrArg (·[n]?) h
 simpa [hn] using this
theorem M4(l:XI)(k:Nat){n:Nat}(hn:n < 60)(h:((List.range 60).map fun n=>oK (k + 6) l ((n:Nat):Int))=(List.range 60).map fun n=>some ((tix l.length n).map fun i=>l.getD i 0,())):
 oK (k + 6) l (n:Int)=some ((tix l.length n).map fun i=>l.getD i 0,()):=aeG h hn
theorem acR(b:XI)(h4:4≤b.length)(h8:b.length≤8)(n:Nat)(hn:n < 60)(k:Nat):oK (k + 6) b (n:Int)=some ((tix b.length n).map fun i=>b.getD i 0,()):=by
 match b,h4,h8 with
 |[a,b,c,d],_,_=>exact M4 _ k hn (by kernel_rfl)
 |[a,b,c,d,e],_,_=>exact M4 _ k hn (by kernel_rfl)
 |[a,b,c,d,e,f],_,_=>exact M4 _ k hn (by kernel_rfl)
 |[a,b,c,d,e,f,g],_,_=>exact M4 _ k hn (by kernel_rfl)
 |[a,b,c,d,e,f,g,h],_,_=>exact M4 _ k hn (by kernel_rfl)
theorem aav:∀ L n:Nat,(tix L n).length≤3:=fun L n=>by
 unfold tix
 repeat' split
 all_goals simp
theorem V3(bF:an):(∃ c p,c≠0∧Ev fun k=>dW k bF=some (([],[],[]),(c,p),())∧∀ n:Int,pi k bF n=some ([],())∧nA k bF n=some ([],()))∨
  ∃ t,Ev fun k=>dW k bF=some (t,(0,0),())∧∃ b:XI,(4≤b.length∧b.length≤8∧b.Nodup)∧∀ n:Int,
   pi k bF n=some (bif decide (0≤n) && decide (n≤59) then(tix b.length n.toNat).map fun i=>b.getD i 0 else [],())∧
   nA k bF n=some (bif decide (0≤n) && decide (n≤59) then(tix b.length n.toNat).map fun i=>b.getD i 0 else [],()):=by
 rcases V8 bF with ⟨c,p,hc,he⟩ |⟨ns,t,D,hT,hp,he⟩
 ·refine .inl ⟨c,p,hc,he.mono fun k e=>⟨e.1,fun n=>⟨?_,?_⟩⟩⟩
  ·simp only [go_sem,pi,aa,e.1,bne_iff_ne.2 hc]
  ·simp only [go_sem,nA,aa,e.2,bne_iff_ne.2 hc]
   cases decide (n < 0)<;>cases decide (n≥60)<;>rfl
 ·refine .inr ⟨t,(he.and (⟨30000,fun k hk=>hk⟩:Ev fun k=>30000≤k)).mono fun k e=>⟨e.1.1.2,?_⟩⟩
  obtain⟨⟨⟨_,w0⟩,⟨ki,pl,O,En,H,E,la,out,d,w1⟩,O',En',H',E',d',w2⟩,hk⟩:=e;obtain⟨l,w3,w4⟩:=Ub t.1 ns hp.iw.a hT.len (k:=k) (by omega)
  obtain⟨b,w5,w6,h4,h8,hn⟩:=DW k (by omega) l (by omega) l.length 0 k [0,1,-1,2] rfl (by omega) (by simp) (by simp) (by decide)
  have w5:kb k k l [0,1,-1,2] 0=_:=w5;have w6:gT k k l (l.length:Int) [0,1,-1,2] 0=_:=w6;obtain⟨k',rfl⟩:∃ j,k=j + 6:=⟨k - 6,by omega⟩
  refine⟨b,⟨h4,h8,hn⟩,fun n=>?_⟩;have key:∀ n:Int,0≤n→n≤59→oK (k' + 6) b n=some ((tix b.length n.toNat).map fun i=>b.getD i 0,()):=fun n h0 h1=>by
   have:=acR b h4 h8 n.toNat (by omega) k'
   rwa [Int.toNat_of_nonneg h0] at this
  simp only [go_sem,pi,nA,sP,aa,w0,w1,BB,uJ,w2,w3,w5,uA,Uc,w6,Zg];by_cases h0:0≤n
  ·have g0:¬ n < 0:=by omega
   by_cases h1:n≤59
   ·have g1:¬ n≥60:=by omega
    simp only [go_sem,h0,h1,g0,g1,ge_iff_le,Bool.and_self,key n h0 h1,and_self]
   ·have g1:n≥60:=by omega
    simp only [go_sem,h0,h1,g0,g1,ge_iff_le,Bool.and_false,and_self]
  ·have g0:n < 0:=by omega
   simp only [go_sem,h0,g0,ge_iff_le,Bool.false_and,and_self]
end Go.Fx.R5
namespace Go.Fx.R5
open Go Go.Fx
theorem RV(bF:an)(n:Int):∃ k,og k bF n=some (true,()):=by
 have hb:Ev fun k=>∃ l:XI,pi k bF n=some (l,())∧nA k bF n=some (l,())∧l.length≤3:=by
  rcases V3 bF with ⟨c,p,hc,he⟩ |⟨t,he⟩
  ·exact he.mono fun k e=>⟨[],(e.2 n).1,(e.2 n).2,by simp⟩
  ·refine he.mono fun k e=>?_
   obtain⟨_,b,_,h⟩:=e;refine⟨_,(h n).1,(h n).2,?_⟩;cases decide (0≤n) && decide (n≤59)
   ·simp
   ·simpa using aav _ _
 by_cases LZ:(bF.length:Int) > 1048576
 ·exact⟨0,by simp only [go_sem,og,LZ]⟩
 ·refine Ev.wa ((hb.and (⟨100001,fun k hk=>hk⟩:Ev fun k=>100001≤k)).mono fun k e=>?_)
  obtain⟨⟨l,e1,e2,hl⟩,hk⟩:=e;have h1:decide ((((l.length + 1:Nat):Int)) < 0)=false:=decide_eq_false (by omega)
  simp only [go_sem,og,LZ,e1,e2,Zz l (by omega) hk,afg l (by omega) hk,abS l.length (by omega) hk,h1]
end Go.Fx.R5
