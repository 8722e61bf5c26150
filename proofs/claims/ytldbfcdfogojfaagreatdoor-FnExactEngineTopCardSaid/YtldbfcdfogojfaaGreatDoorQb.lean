/- Proved here: laws.FnExactEngineTop returns true at every input (the tied card), no condition beyond the card. -/
import Derived.Test.YtldbfcdfogojfaaGreatDoorQa
set_option linter.unusedVariables false
set_option linter.unusedSimpArgs false
set_option linter.unusedSectionVars false
set_option linter.defProp false
set_option maxRecDepth 100000
namespace Go.Fx.R5
open Go Go.Fx
section
variable {t:y4} {fn:ak} {ns:List ey} {P:Int} {Is Rs:XS} {B:Int}
theorem abk{rn ra rc}(q k:Nat)(nm:ak)(a b c:Int)(A:AS)(G:XS)(F:FS)(bu:XS)(cd p:Int):bL rn ra rc q (k+4) 16 nm [a,b,c] A G F ns fn bu cd p 0 =
  (rn A G F ns fn bu cd p a).bind fun r=>(rn A G F ns fn r.1 r.2.1 r.2.2.1 b).bind fun r2=>(lA r2.1 [nm]).bind fun l=>(rn A G F ns fn l r2.2.1 r2.2.2.1 c).bind fun r3=>some (r3.1,r3.2.1,r3.2.2.1,()):=by
 rw[bL];simp only[go_sem,ara,aBa,show decide ((0:Int)<((0+1+1+1:Nat):Int))=true from rfl,show((16:Int)==16)=true from rfl,show((0:Int)==2)=false from rfl,aa,show bA [a,b,c] 0=some a from rfl,show cm (0+1)=1 from rfl]
 rfl
theorem ad1(ht:iq t){i:Nat}{x:ey}(hx:ns[i]? = some x)(hn:nU ns i x)(F9:x.1=16)(IH:JN t fn ns P Is Rs B i x.2.2.2.2):NB t fn ns P Is Rs B i:=by
 intro l hli;have jr:=W7 (fn:=fn) ht (l:=l) (by omega) hx
 have kX:=Hs (fn:=fn) ht l x;have dq:=hn.shp;rw[F9] at dq;obtain⟨a,b,c,hK⟩:∃ a b c,x.2.2.2.2=[a,b,c]:=by
  rcases h:x.2.2.2.2 with _|⟨a,_|⟨b,_|⟨c,_|⟨d,r⟩⟩⟩⟩
  ·rw[h] at dq;simp[ce] at dq
  ·rw[h] at dq;simp[ce] at dq
  ·rw[h] at dq;simp[ce] at dq
  ·exact⟨a,b,c,rfl⟩
  ·rw[h] at dq;simp[ce] at dq
 obtain⟨ya,ea1,ea2,ea3,ea4,ea5⟩:=Hx IH.v (n:=0) (j:=a) (by rw[hK];rfl)
 obtain⟨yb,eb1,eb2,eb3,eb4,eb5⟩:=Hx IH.v (n:=1) (j:=b) (by rw[hK];rfl)
 obtain⟨yc,ec1,ec2,ec3,ec4,ec5⟩:=Hx IH.v (n:=2) (j:=c) (by rw[hK];rfl)
 have na:=IH.n a (by rw[hK];simp)
 have nb:=IH.n b (by rw[hK];simp)
 have nc:=IH.n c (by rw[hK];simp)
 have hoc:oE t fn l x=Il t fn l x.2.2.2.1 3 3:=by simp only[oE,F9,Int.reduceEq,reduceIte,bia]
 simp only[F9,show ¬ (16:Int)=9 by decide,aca] at kX
 have g16:((16:Int)==16)=true:=rfl;have sw:∀ c0 p0:Int,c0≠0→(Ev fun k=>∃ bl,bL (dE k) (dz k) (eE k) k k 16 x.2.2.2.1 x.2.2.2.2 t.1 t.2.1 t.2.2 ns fn l 0 0 0=some (bl,c0,p0,())∧bl.length≤l.length+i+1)→oE t fn l x=0→
   (Ev fun k=>∀ D,Lo l D→∃ bm,bT k ns t.1 t.2.1 t.2.2 fn P Is Rs B D x=some ((c0,p0),bm,()))→
   ∃ c p,(c=0→p=0∧Ie ns t fn i)∧Ev fun k=>UV l (i+1) c p (dE k t.1 t.2.1 t.2.2 ns fn l 0 0 (i:Int))∧∀ D,Lo l D→aa2 l c p (co k ns t.1 t.2.1 t.2.2 fn P Is Rs B D (i:Int)):=fun c0 p0 hc0 hS ho hI=>by
  rw[ho] at jr kX;refine⟨c0,p0,fun hz=>absurd hz hc0,Ev.succ ((jr.and (kX.and (hS.and hI))).mono fun k e=>?_)⟩;obtain⟨w1,w2,⟨bl,w3,w3'⟩,w4⟩:=e;refine⟨⟨bl,?_,by omega,fun hz=>absurd hz hc0⟩,fun D hr=>?_⟩
  ·rw[nP];simp only[go_sem,cJ,bj hx,F9,show((16:Int)==9)=false from rfl,show((16:Int)==12)=false from rfl,show((16:Int)==22)=false from rfl,show((16:Int)==16)=true from rfl,w1,show Me 0 x.2.1=0 from rfl,aa]
   rw[show bL _ _ _ k k 16 x.2.2.2.1 x.2.2.2.2 t.1 t.2.1 t.2.2 ns fn l 0 0 0=_ from w3]
   simp only[go_sem,Q6.2 hc0]
  ·obtain⟨bm,w5⟩:=w4 D hr
   refine⟨bm,?_,fun hz=>absurd hz hc0⟩;rw[kh];simp only[go_sem,aV,bj hx,aa,F9,show((16:Int)==9)=false from rfl,show((16:Int)==12)=false from rfl,show((16:Int)==22)=false from rfl,show((16:Int)==16)=true from rfl,w2 D hr,w5]
 have Ah:=IH.l;by_cases h0:oE t fn l x=0
 rotate_left
 ·
  refine⟨oE t fn l x,x.2.1,fun hz=>absurd hz h0,Ev.succ ((jr.and (kX.and (⟨10,fun k hk=>hk⟩:Ev fun k=>10≤k))).mono fun k e=>?_)⟩;obtain⟨w1,w2,hk⟩:=e;rw[Hd h0] at w1;obtain⟨j,rfl⟩:∃ j,k=j+4:=⟨k - 4,by omega⟩
  have fa:=IK (t:=t) (fn:=fn) (p:=x.2.1) h0 ea3 (j+3) l;have fb:=IK (t:=t) (fn:=fn) (p:=x.2.1) h0 eb3 (j+3) l;have fc:=IK (t:=t) (fn:=fn) (p:=x.2.1) h0 ec3 (j+3) (l++[x.2.2.2.1]);rw[ea5] at fa;rw[eb5] at fb;rw[ec5] at fc;have fp:lA l [x.2.2.2.1]=some (l++[x.2.2.2.1]):=pZ (by simp;omega)
  refine⟨⟨l++[x.2.2.2.1],?_,by simp,fun hz=>absurd hz h0⟩,fun D hr=>⟨D,?_,fun _=>hr⟩⟩
  ·rw[nP (j+4)];simp only[go_sem,cJ,bj hx,F9,show((16:Int)==9)=false from rfl,show((16:Int)==12)=false from rfl,show((16:Int)==22)=false from rfl,show((16:Int)==16)=true from rfl,w1,aa,hK]
   rw[abk];simp only[go_sem,show j+4=j+3+1 from rfl,fa,fb,fp,fc,Q6.2 h0]
  ·rw[kh (j+4)];simp only[go_sem,aV,bj hx,aa,F9,show((16:Int)==9)=false from rfl,show((16:Int)==12)=false from rfl,show((16:Int)==22)=false from rfl,show((16:Int)==16)=true from rfl,w2 D hr,aYa.2 h0]
 obtain⟨ca,pa,hca,hea⟩:=na.2 l (by omega)
 rw[ea5] at hea;have LS:(⟨10,fun k hk=>hk⟩:Ev fun k=>10≤k)=⟨10,fun k hk=>hk⟩:=rfl;have LS:Ev fun k=>10≤k:=⟨10,fun k hk=>hk⟩;have p9:sub [a,b,c] 0 2=some [a,b]:=rfl;have i2:bA [a,b,c] 2=some c:=rfl;by_cases hza:ca=0
 rotate_left
 ·refine sw ca pa hza ((hea.and LS).mono fun k e=>?_) h0 (Ev.succ ((hea.and LS).mono fun k e D hr=>?_))
  ·obtain⟨⟨⟨bl,w1,w2,_⟩,_⟩,hk⟩:=e
   obtain⟨j,rfl⟩:∃ j,k=j+4:=⟨k - 4,by omega⟩
   have fb:=IK (t:=t) (fn:=fn) (p:=pa) hza eb3 (j+3) bl;have fc:=IK (t:=t) (fn:=fn) (p:=pa) hza ec3 (j+3) (bl++[x.2.2.2.1]);rw[eb5] at fb;rw[ec5] at fc;have fp:lA bl [x.2.2.2.1]=some (bl++[x.2.2.2.1]):=pZ (by simp;omega)
   have:=na.1;refine⟨bl++[x.2.2.2.1],?_,by simp;omega⟩
   rw[hK,abk];rw[show j+4=j+3+1 from rfl] at w1
   simp only[go_sem,show j+4=j+3+1 from rfl,w1,fb,fp,fc]
  ·obtain⟨⟨_,w1⟩,hk⟩:=e
   obtain⟨bm,w2,_⟩:=w1 D hr;obtain⟨j,rfl⟩:∃ j,k=j+1:=⟨k - 1,by omega⟩
   refine⟨bm,?_⟩;rw[NL (j+1)];simp only[go_sem,gI,hK,p9];rw[cG];simp only[go_sem,ara,aBa,show decide ((0:Int)<((0+1+1:Nat):Int))=true from rfl,show bA [a,b] 0=some a from rfl,w2,aYa.2 hza]
 subst hza;obtain⟨rfl,agq⟩:=hca rfl;obtain⟨cb,pb,hcb,heb⟩:=nb.2 l (by omega)
 rw[eb5] at heb;by_cases hzb:cb=0
 rotate_left
 ·refine sw cb pb hzb ((hea.and (heb.and LS)).mono fun k e=>?_) h0 (Ev.succ ((hea.and (heb.and LS)).mono fun k e D hr=>?_))
  ·obtain⟨⟨⟨bl0,w1,_,w1'⟩,_⟩,⟨⟨bl,w2,w3,_⟩,_⟩,hk⟩:=e
   obtain rfl:=w1' rfl;obtain⟨j,rfl⟩:∃ j,k=j+4:=⟨k - 4,by omega⟩
   have fc:=IK (t:=t) (fn:=fn) (p:=pb) hzb ec3 (j+3) (bl++[x.2.2.2.1]);rw[ec5] at fc;have fp:lA bl [x.2.2.2.1]=some (bl++[x.2.2.2.1]):=pZ (by simp;omega)
   have:=nb.1;refine⟨bl++[x.2.2.2.1],?_,by simp;omega⟩
   rw[hK,abk];rw[show j+4=j+3+1 from rfl] at w1 w2
   simp only[go_sem,show j+4=j+3+1 from rfl,w1,w2,fp,fc]
  ·obtain⟨⟨_,w1⟩,⟨_,w3⟩,hk⟩:=e
   obtain⟨bm0,w2,w2'⟩:=w1 D hr;obtain⟨bm,w4,_⟩:=w3 bm0 (w2' rfl);obtain⟨j,rfl⟩:∃ j,k=j+2:=⟨k - 2,by omega⟩
   refine⟨bm,?_⟩;rw[NL (j+2)];simp only[go_sem,gI,hK,p9];rw[cG];simp only[go_sem,ara,aBa,show decide ((0:Int)<((0+1+1:Nat):Int))=true from rfl,show bA [a,b] 0=some a from rfl,w2,show cm (0+1)=1 from rfl]
   rw[cG];simp only[go_sem,show decide ((1:Int)<((0+1+1:Nat):Int))=true from rfl,show bA [a,b] 1=some b from rfl,w4,aYa.2 hzb]
 subst hzb;obtain⟨rfl,agr⟩:=hcb rfl;have hnl:x.2.2.2.1∉l:=fun hm=>by
  rw[hoc] at h0;unfold Il at h0;by_cases hw:W t fn x.2.2.2.1 3 3=0
  ·simp[hw,hm] at h0
  ·simp[hw] at h0
 have NH:∀{D:AS},Lo l D→Lo (l++[x.2.2.2.1]) (qF D x.2.2.2.1 1):=fun hr s=>by
  rw[E9,ala,Q7];by_cases e:x.2.2.2.1=s
  ·simp[e]
  ·simp[e,hr s,bxa e]
 have afn:∀{D:AS},Lo (l++[x.2.2.2.1]) D→Lo l (qF D x.2.2.2.1 0):=fun hr s=>by
  rw[E9];by_cases e:x.2.2.2.1=s
  ·subst e;simp[hnl]
  ·have:=hr s
   rw[ala,Q7] at this;simp[e,this,bxa e]
 obtain⟨cc,pc,hcc,hec⟩:=nc.2 (l++[x.2.2.2.1]) (by have:=nc.1;simp;omega)
 rw[ec5] at hec;have hlp:lA l [x.2.2.2.1]=some (l++[x.2.2.2.1]):=pZ (by simp;omega)
 have hS:Ev fun k=>∃ bl,bL (dE k) (dz k) (eE k) k k 16 x.2.2.2.1 x.2.2.2.2 t.1 t.2.1 t.2.2 ns fn l 0 0 0=some (bl,cc,pc,())∧bl.length≤l.length+i+1∧(cc=0→bl=l++[x.2.2.2.1]):=(hea.and (heb.and (hec.and LS))).mono fun k e=>by
  obtain⟨⟨⟨bl0,w1,_,w1'⟩,_⟩,⟨⟨bl1,w2,_,w2'⟩,_⟩,⟨⟨bl,w3,w4,w5⟩,_⟩,hk⟩:=e;obtain rfl:=w1' rfl;obtain rfl:=w2' rfl;obtain⟨j,rfl⟩:∃ j,k=j+4:=⟨k - 4,by omega⟩
  have:=nc.1;refine⟨bl,?_,by simp at w4;omega,w5⟩
  rw[hK,abk];simp only[go_sem,w1,w2,hlp,w3]
 have hI:Ev fun k=>∀ D,Lo l D→∃ bm,bT k ns t.1 t.2.1 t.2.2 fn P Is Rs B D x=some ((cc,pc),bm,())∧(cc=0→Lo l bm):=Ev.succ ((hea.and (heb.and (hec.and LS))).mono fun k e D hr=>by
  obtain⟨⟨_,w1⟩,⟨_,w3⟩,⟨_,w5⟩,hk⟩:=e;obtain⟨bm0,w2,w2'⟩:=w1 D hr;obtain⟨bm1,w4,w4'⟩:=w3 bm0 (w2' rfl);obtain⟨bm2,w6,w6'⟩:=w5 (qF bm1 x.2.2.2.1 1) (NH (w4' rfl));obtain⟨j,rfl⟩:∃ j,k=j+3:=⟨k - 3,by omega⟩
  refine⟨qF bm2 x.2.2.2.1 0,?_,fun hz=>afn (w6' hz)⟩;rw[NL (j+3)];simp only[go_sem,gI,hK,p9];rw[cG];simp only[go_sem,ara,aBa,show decide ((0:Int)<((0+1+1:Nat):Int))=true from rfl,show bA [a,b] 0=some a from rfl,w2,show cm (0+1)=1 from rfl]
  rw[cG];simp only[go_sem,show decide ((1:Int)<((0+1+1:Nat):Int))=true from rfl,show bA [a,b] 1=some b from rfl,w4,show cm (1+1)=2 from rfl]
  rw[cG];simp only[go_sem,show decide ((2:Int)<((0+1+1:Nat):Int))=false from rfl,i2,w6])
 by_cases hzc:cc=0
 rotate_left
 ·exact sw cc pc hzc (hS.mono fun k e=>by obtain⟨bl,w1,w2,_⟩:=e;exact⟨bl,w1,w2⟩) h0 (hI.mono fun k e D hr=>by obtain⟨bm,w1,_⟩:=e D hr;exact⟨bm,w1⟩)
 subst hzc;obtain⟨rfl,ags⟩:=hcc rfl;rw[h0] at jr kX;refine⟨0,0,fun _=>⟨rfl,Ie.mk i x hx (fun j hj=>?_) (fun h=>absurd (F9.symm.trans h) (by decide)) (fun h=>absurd (F9.symm.trans h) (by decide))⟩,Ev.succ ((jr.and (kX.and (hS.and hI))).mono fun k e=>?_)⟩
 ·rw[hK] at hj
  simp only[aka,bNa,bya] at hj;rcases hj with rfl|rfl|rfl
  ·exact agq
  ·exact agr
  ·exact ags
 ·obtain⟨w1,w2,⟨bl,w3,_,w4⟩,w5⟩:=e
  obtain rfl:=w4 rfl;refine⟨⟨l,?_,by omega,fun _=>rfl⟩,fun D hr=>?_⟩
  ·have hs:sub (l++[x.2.2.2.1]) 0 (cm (((l++[x.2.2.2.1]).length:Int) - 1))=some l:=by
    have:=HT (l:=l++[x.2.2.2.1]) (m:=0) (n:=l.length) (by omega) (by simp)
    rw[ata,b6a,dT (by omega) (by omega),show((l.length+1:Nat):Int) - 1=(l.length:Int) by omega]
    rw[show(0:Int)=((0:Nat):Int) from rfl,this];simp
   rw[nP];simp only[go_sem,cJ,bj hx,F9,show((16:Int)==9)=false from rfl,show((16:Int)==12)=false from rfl,show((16:Int)==22)=false from rfl,show((16:Int)==16)=true from rfl,w1,show Me 0 x.2.1=0 from rfl,aa]
   rw[show bL _ _ _ k k 16 x.2.2.2.1 x.2.2.2.2 t.1 t.2.1 t.2.2 ns fn l 0 0 0=_ from w3]
   simp only[go_sem,hs]
  ·obtain⟨bm,w6,w7⟩:=w5 D hr
   refine⟨bm,?_,w7⟩;rw[kh];simp only[go_sem,aV,bj hx,aa,F9,show((16:Int)==9)=false from rfl,show((16:Int)==12)=false from rfl,show((16:Int)==22)=false from rfl,show((16:Int)==16)=true from rfl,w2 D hr,w6]
theorem X5(ht:iq t)(fd:jl ns):∀ n i,i<n→i<ns.length→NB t fn ns P Is Rs B i:=by
 intro n;induction n with
 |zero=>intro i h;omega
 |succ n ih=>
  intro i hi hl;have hx:ns[i]? = some ns[i]:=by simp[hl]
  have hn:=fd i _ hx;have IH:JN t fn ns P Is Rs B i ns[i].2.2.2.2:=⟨fun j hj=>by have:=hn.cE j hj;omega,hn.nm.2,fun j hj=>by
   have:=hn.cE j hj;exact⟨this.2,ih j.toNat (by omega) (by omega)⟩⟩
  by_cases h9:ns[i].1=9
  ·exact ad2 ht hx hn fd h9 IH
  by_cases D0:ns[i].1=22
  ·exact abE ht hx hn fd D0 IH
  by_cases KY:ns[i].1=12
  ·exact abD ht hx hn fd KY IH
  by_cases F9:ns[i].1=16
  ·exact ad1 ht hx hn F9 IH
  exact Z2 ht hx h9 D0 KY F9 IH
end
end Go.Fx.R5
namespace Go.Fx.R5
open Go Go.Fx
section
variable {t:y4} {ns:List ey} {D:AS}
theorem Xp(ht:iq t)(fd:jl ns)(hl:ns.length≤3900){fn:ak}{P:Int}{Is Rs:XS}{b:Int}(h0:0≤b)(h1:b<ns.length)(h8:kd ns b=8):∃ c p,(c=0→p=0∧Ie ns t fn b.toNat)∧Ev fun k=>
  (∃ bl,dE k t.1 t.2.1 t.2.2 ns fn [] 0 0 b=some (bl,c,p,()))∧∃ bm,bI k ns t.1 t.2.1 t.2.2 fn P Is Rs b ([]:AS) b=some ((c,p),bm,()):=by
 obtain⟨x,e1,e2,e3⟩:=uB h0 h1;have hb:((b.toNat:Nat):Int)=b:=aMa h0;rw[e2] at h8;obtain⟨c,p,hc,he⟩:=X5 (fn:=fn) (P:=P) (Is:=Is) (Rs:=Rs) (B:=b) ht fd (b.toNat+1) b.toNat (by omega) (by omega) [] (by simp;omega)
 rw[hb] at he;have NH:Lo [] ([]:AS):=fun s=>by simp[qg]
 have kX:=Hs (fn:=fn) ht [] x;simp only[h8,oE,Int.reduceEq,reduceIte,bia] at kX;refine⟨c,p,hc,(he.and (he.abM.and kX)).mono fun k e=>?_⟩;obtain⟨⟨⟨bl,w1,_⟩,_⟩,⟨_,w2⟩,w3⟩:=e;refine⟨⟨bl,w1⟩,?_⟩;obtain⟨bm,w4,_⟩:=w2 [] NH;rw[kh] at w4;simp only[go_sem,aV,e3,aa,h8,show((8:Int)==9)=false from rfl,show((8:Int)==12)=false from rfl,show((8:Int)==22)=false from rfl,show((8:Int)==16)=false from rfl,w3 [] NH] at w4
 cases hbw:bI k ns t.1 t.2.1 t.2.2 fn P Is Rs b ([]:AS) b with
 |none=>rw[hbw] at w4;cases w4
 |some r=>obtain⟨⟨c',p'⟩,bm',u⟩:=r;rw[hbw] at w4;simp only[go_sem,OF,aia] at w4;exact⟨bm',by rw[w4.1.1,w4.1.2]⟩
theorem Ns(hp:P1 ns t D)(fd:jl ns)(hl:ns.length≤3900):∀ m i,m+i=t.2.2.length→
  (∃(c p:Int),c≠0∧ct fun q k=>eP q k ns 0 0 t.1 t.2.1 t.2.2 (i:Int)=some (.inr (c,p,()))∧fe q k t.2.2 ns t.2.2 (t.2.2.length:Int) t.1 t.2.1 0 0 (i:Int)=some (.inr (c,p,())))∨
  ((∀ x∈t.2.2.drop i,Ie ns t x.1 x.2.2.2.2.toNat)∧ct fun q k=>eP q k ns 0 0 t.1 t.2.1 t.2.2 (i:Int)=some (.inl (0,0,t.1,t.2.1,t.2.2,()))∧
   fe q k t.2.2 ns t.2.2 (t.2.2.length:Int) t.1 t.2.1 0 0 (i:Int)=some (.inl (t.1,t.2.1,0,0,())))
 |0,i,h=>by
  have h2:¬ i<t.2.2.length:=by omega
  have e:t.2.2.drop i=[]:=by simp;omega
  refine .inr ⟨by rw[e];simp,ct.succ (ct.of fun q k=>⟨?_,?_⟩)⟩
  ·simp only[go_sem,eP,Q3,h2]
  ·simp only[go_sem,fe,Q3,h2]
 |m+1,i,h=>by
  have bq:i<t.2.2.length:=by omega
  have hf6:=hp.ia.f;have hb:=hp.bd _ (aWa bq);obtain⟨c,p,hc,he⟩:=Xp (fn:=t.2.2[i].1) (P:=t.2.2[i].2.1) (Is:=t.2.2[i].2.2.1) (Rs:=t.2.2[i].2.2.2.1) hp.ia fd hl hb.1 hb.2.1 hb.2.2.1;by_cases h0:c=0
  ·subst h0
   obtain⟨rfl,Hm⟩:=hc rfl;have s1:∀{q k r},(∃ bl,dE q t.1 t.2.1 t.2.2 ns t.2.2[i].1 [] 0 0 t.2.2[i].2.2.2.2=some (bl,0,0,()))→eP q k ns 0 0 t.1 t.2.1 t.2.2 ((i+1:Nat):Int)=r→eP q (k+1) ns 0 0 t.1 t.2.1 t.2.2 (i:Int)=r:=fun⟨bl,a1⟩ a2=>by simp only[go_sem,eP,Q3,bq,cX bq,a1,ae (show i<_ by omega),a2]
   have s2:∀{q k r},(∃ bm,bI q ns t.1 t.2.1 t.2.2 t.2.2[i].1 t.2.2[i].2.1 t.2.2[i].2.2.1 t.2.2[i].2.2.2.1 t.2.2[i].2.2.2.2 ([]:AS) t.2.2[i].2.2.2.2=some ((0,0),bm,()))→fe q k t.2.2 ns t.2.2 (t.2.2.length:Int) t.1 t.2.1 0 0 ((i+1:Nat):Int)=r→
     fe q (k+1) t.2.2 ns t.2.2 (t.2.2.length:Int) t.1 t.2.1 0 0 (i:Int)=r:=fun⟨bm,a1⟩ a2=>by
    simp only[go_sem,fe,Q3,bq,cX bq,a1,ae (show i<_ by omega),a2]
   rcases Ns hp fd hl m (i+1) (by omega) with ⟨c,p,g,hh⟩|⟨g,hh⟩
   ·exact .inl ⟨c,p,g,ct.succ ((he.tZ.and hh).mono fun q k e=>⟨s1 e.1.1 e.2.1,s2 e.1.2 e.2.2⟩)⟩
   ·refine .inr ⟨fun x hx=>?_,ct.succ ((he.tZ.and hh).mono fun q k e=>⟨s1 e.1.1 e.2.1,s2 e.1.2 e.2.2⟩)⟩
    rw[aSa bq] at hx;rcases aka.1 hx with rfl|hx
    ·exact Hm
    ·exact g x hx
  ·refine .inl ⟨c,p,h0,ct.succ (he.tZ.mono fun q k e=>?_)⟩
   obtain⟨⟨bl,w1⟩,bm,w2⟩:=e;refine⟨?_,?_⟩
   ·simp only[go_sem,eP,Q3,bq,cX bq,w1,aYa.2 h0]
   ·simp only[go_sem,fe,Q3,bq,cX bq,w2,aYa.2 h0]
theorem VR(hT:UW ns):(∃(c p:Int),c≠0∧Ev fun k=>iQ k ns=some (([],[],[]),(c,p),())∧∀ bV,gF k bV=some (ns,(0,0),())→fk k bV=some (([],[],[]),(c,p),()))∨
  ∃(t:y4) (D:AS),P1 ns t D∧(∀ x∈t.2.2,Ie ns t x.1 x.2.2.2.2.toNat)∧Ev fun k=>iQ k ns=some (t,(0,0),())∧∀ bV,gF k bV=some (ns,(0,0),())→fk k bV=some (t,(0,0),()):=by
 obtain⟨fd,jI,ns0,l,hns,hk,hws⟩:=hT;have hks:jz ns l≤ns.length:=by rw[pz (by rw[hns];exact aJa _ _) hk.v,hns];simp;omega
 have hk:iO FQ ns l:=hk.up (by rw[hns];exact aJa _ _)
 have acI:ns[ns.length - 1]? = some (1,0,0,[],l):=by rw[hns];simp
 have Ah:l.length≤5000:=(fd _ _ acI).nm.2;have vQ:0<ns.length:=by rw[hns];simp
 have Ho:bA ns (cm ((ns.length:Int) - 1))=some (1,0,0,[],l):=by
  rw[dT (by omega) (by omega),show(ns.length:Int) - 1=((ns.length - 1:Nat):Int) by omega]
  exact bj acI
 have h0:P1 ns ([],[],[]) []:=⟨⟨by simp,by simp,by simp,by simp,by simp⟩,by simp,by simp,by simp,fun s=>by simp[qg,pm]⟩
 rcases P0 fd (by omega) hk Ah hks l.length 0 ([],[],[]) [] rfl h0 (by intro f hf;simp at hf) with ⟨c,p,hc,he⟩|⟨t1,D1,hp1,hf1,Mg,he1⟩
 ·refine .inl ⟨c,p,hc,he.jN.mono fun k e=>?_⟩
  have w1:dg k k ns l 0 0 [] [] [] 0=_:=e.1;have w2:dH k k ns l (l.length:Int) [] [] [] 0 0 [] 0=_:=e.2;refine⟨by simp only[go_sem,iQ,Ho,w2],fun bV hp=>by simp only[go_sem,fk,hp,Ho,w1]⟩
 ·have he1:=he1.jN
  rcases Vk fd (by omega) hk Ah l.length 0 0 t1 rfl hp1 (by simp only[aBa] at Mg;omega) (fun n x _ hx=>hf1 x (aZa hx)) with ⟨c,p,hc,he⟩|⟨F2,HX,he2⟩
  ·refine .inl ⟨c,p,hc,(he1.and he.jN).mono fun k e=>?_⟩
   obtain⟨⟨w1,w2⟩,w3,w4⟩:=e;have w1:dg k k ns l 0 0 [] [] [] 0=_:=w1;have w2:dH k k ns l (l.length:Int) [] [] [] 0 0 [] 0=_:=w2;have w3:cU k k ns l 0 0 t1.1 t1.2.1 t1.2.2 0 0=_:=w3;have w4:dm k k ns l (l.length:Int) t1.2.2 0 0 D1 0 0=_:=w4;refine⟨by simp only[go_sem,iQ,Ho,w2,w4],fun bV hp=>by simp only[go_sem,fk,hp,Ho,w1,w3]⟩
  ·have he2:=he2.jN
   have hf6:=HX.ia.f;have hM:=adQ (t1.1,t1.2.1,F2) (by omega)
   have hS:=Sl (t1.1,t1.2.1,F2) [109,97,105,110] (by omega)
   by_cases Zp:0≤nC (fun x:ak×Int×XS×XS×Int=>x.1==([109,97,105,110]:ak)) F2 0∧∀ n x,nC (fun x:ak×Int×XS×XS×Int=>x.1==([109,97,105,110]:ak)) F2 0=(n:Nat)→F2[n]? = some x→x.2.1=0
   ·obtain⟨n,x,n1,n2,_⟩:=Jl Zp.1
    have hz:=Zp.2 n x n1 n2;have b1:decide ((n:Int)<0)=false:=bqa (by omega)
    have b2:decide (x.2.1 > 0)=false:=by rw[hz];rfl
    have b3:(x.2.1 != 0)=false:=by rw[hz];rfl
    rcases Ns HX fd (by omega) F2.length 0 rfl with ⟨c,p,hc,he⟩|⟨Hm,he⟩
    ·refine .inl ⟨c,p,hc,(he1.and (he2.and ((hM.and hS).and he.jN))).mono fun k e=>?_⟩
     obtain⟨⟨w1,w2⟩,⟨w3,w4⟩,⟨w5,w6⟩,w7,w8⟩:=e;have w1:dg k k ns l 0 0 [] [] [] 0=_:=w1;have w2:dH k k ns l (l.length:Int) [] [] [] 0 0 [] 0=_:=w2;have w3:cU k k ns l 0 0 t1.1 t1.2.1 t1.2.2 0 0=_:=w3;have w4:dm k k ns l (l.length:Int) t1.2.2 0 0 D1 0 0=_:=w4;have w7:eP k k ns 0 0 t1.1 t1.2.1 F2 0=_:=w7;have w8:fe k k F2 ns F2 (F2.length:Int) t1.1 t1.2.1 0 0 0=_:=w8;refine⟨?_,fun bV hp=>?_⟩
     ·simp only[go_sem,iQ,Ho,w2,w4,w5,aa,n1,b1,bj n2,aya,b2,w8]
     ·simp only[go_sem,fk,hp,Ho,w1,w3,w6,aa,n1,b1,bj n2,aya,b3,w7]
    ·refine .inr ⟨(t1.1,t1.2.1,F2),D1,HX,fun y hy=>Hm y (by simpa using hy),(he1.and (he2.and ((hM.and hS).and he.jN))).mono fun k e=>?_⟩
     obtain⟨⟨w1,w2⟩,⟨w3,w4⟩,⟨w5,w6⟩,w7,w8⟩:=e;have w1:dg k k ns l 0 0 [] [] [] 0=_:=w1;have w2:dH k k ns l (l.length:Int) [] [] [] 0 0 [] 0=_:=w2;have w3:cU k k ns l 0 0 t1.1 t1.2.1 t1.2.2 0 0=_:=w3;have w4:dm k k ns l (l.length:Int) t1.2.2 0 0 D1 0 0=_:=w4;have w7:eP k k ns 0 0 t1.1 t1.2.1 F2 0=_:=w7;have w8:fe k k F2 ns F2 (F2.length:Int) t1.1 t1.2.1 0 0 0=_:=w8;refine⟨?_,fun bV hp=>?_⟩
     ·simp only[go_sem,iQ,Ho,w2,w4,w5,aa,n1,b1,bj n2,aya,b2,w8]
     ·simp only[go_sem,fk,hp,Ho,w1,w3,w6,aa,n1,b1,bj n2,aya,b3,w7]
   ·refine .inl ⟨13,0,by decide,(he1.and (he2.and (hM.and hS))).mono fun k e=>?_⟩
    obtain⟨⟨w1,w2⟩,⟨w3,w4⟩,w5,w6⟩:=e;have w1:dg k k ns l 0 0 [] [] [] 0=_:=w1;have w2:dH k k ns l (l.length:Int) [] [] [] 0 0 [] 0=_:=w2;have w3:cU k k ns l 0 0 t1.1 t1.2.1 t1.2.2 0 0=_:=w3;have w4:dm k k ns l (l.length:Int) t1.2.2 0 0 D1 0 0=_:=w4;by_cases LS:0≤nC (fun x:ak×Int×XS×XS×Int=>x.1==([109,97,105,110]:ak)) F2 0
    ·obtain⟨n,x,n1,n2,_⟩:=Jl LS
     have hx:=HX.ia.i x (aZa n2);have hz:x.2.1≠0:=fun hz=>Zp ⟨LS,fun n' x' a1 a2=>by
      have:n' = n:=by omega
      subst this;rw[n2] at a2;cases a2;exact hz⟩
     have b1:decide ((n:Int)<0)=false:=bqa (by omega)
     have b2:decide (x.2.1 > 0)=true:=decide_eq_true (by omega)
     have b3:(x.2.1 != 0)=true:=aYa.2 hz;refine⟨?_,fun bV hp=>?_⟩
     ·simp only[go_sem,iQ,Ho,w2,w4,w5,aa,n1,b1,bj n2,aya,b2]
     ·simp only[go_sem,fk,hp,Ho,w1,w3,w6,aa,n1,b1,bj n2,aya,b3]
    ·have n1:=(WW LS).1
     refine⟨?_,fun bV hp=>?_⟩
     ·simp only[go_sem,iQ,Ho,w2,w4,w5,aa,n1,show decide ((-1:Int)<0)=true from rfl]
     ·simp only[go_sem,fk,hp,Ho,w1,w3,w6,aa,n1,show decide ((-1:Int)<0)=true from rfl]
end
end Go.Fx.R5
namespace Go.Fx.R5
open Go Go.Fx
abbrev ES:=XE
abbrev SPS:=XQ
structure FG(nf M:Nat)(O:XI)(H:XB)(E:ES):Prop where
 oh:H.length=O.length
 ow:∀ x∈O,0≤x∧x<(nf:Int)
 ed:∀ e∈E,0≤e.1∧e.1<(O.length:Int)∧(e.2.2.1=5→0≤e.2.2.2.2∧e.2.2.2.2<(M:Int))
structure SK(nf M:Nat)(O:XI)(E:ES)(w:Nat)(O':XI)(H':XB)(E':ES):Prop where
 fg:FG nf M O' H' E'
 lo:O.length≤O'.length
 hi:O'.length≤O.length+5 * w
 eh:E'.length≤E.length+5 * w
section
variable {nf M:Nat} {O:XI} {H:XB} {E:ES}
theorem FG.oe(h:FG nf M O H E){fn:Int}(h0:0≤fn)(h1:fn<nf)(b:Bool):FG nf M (O++[fn]) (H++[b]) E:=
 ⟨by simp[h.oh],fun x hx=>by
  rcases ala.1 hx with hx|hx
  ·exact h.ow x hx
  ·rw[Q7.1 hx];exact⟨h0,h1⟩,fun e he=>by
  have:=h.ed e he;exact⟨this.1,by simp;omega,this.2.2⟩⟩
theorem FG.y9(h:FG nf M O H E){f t k n a:Int}(h0:0≤f)(h1:f<O.length)(h5:k=5→0≤a∧a<(M:Int)):FG nf M O H (E++[(f,t,k,n,a)]):=
 ⟨h.oh,h.ow,fun e he=>by
  rcases ala.1 he with he|he
  ·exact h.ed e he
  ·rw[Q7.1 he];exact⟨h0,h1,h5⟩⟩
theorem SK.refl(h:FG nf M O H E):SK nf M O E 0 O H E:=⟨h,by omega,by omega,by omega⟩
theorem zp{α:Type}{l:List α}{x:α}(h:l.length≤2000000):lA l [x]=some (l++[x]):=pZ (by simp;omega)
theorem pR(h:FG nf M O H E)(hl:O.length≤2000000)(fn:Int)(b:Bool):dl fn O H b=some ((O.length:Int),O++[fn],H++[b],()):=by
 simp only[go_sem,dl,zp hl,zp (show H.length≤2000000 by rw[h.oh];exact hl)]
 rw[ata,b6a,dT (by omega) (by omega)]
 simp
theorem sf(hl:E.length≤2000000)(f t k n a:Int):dv E f t k n a=some (E++[(f,t,k,n,a)],()):=by simp only[go_sem,dv,zp hl]
theorem qK(h:FG nf M O H E)(hl:O.length≤2000000)(fn:Int)(b:Bool):fV fn O H b=some ((O.length:Int),O++[fn],H++[b],()):=pR h hl fn b
theorem tR(hl:E.length≤2000000)(f t k n a:Int):eZ E f t k n a=some (E++[(f,t,k,n,a)],()):=sf hl f t k n a
end
section
variable {nf M:Nat} {ns:List ey} {A:AS} {G:XS} {Fs:FS}
def CFI(nf M:Nat)(ns:List ey)(A:AS)(G:XS)(Fs:FS)(i:Nat):Prop:=Ev fun k=>∀(fn:Int) (O:XI) (H:XB) (E:ES) (En:XI) (la:SPS) (ki pl:XI) (p y z:Int),FG nf M O H E→0≤fn→fn<nf→0≤p→p<O.length→O.length+5 * wt ns (i:Int)≤1000000→E.length+5 * wt ns (i:Int)≤1000000→
 ∃ O' H' E',im k fn O En H E la ns A G Fs ki pl [] [] [] [] [] [] [] (i:Int) p y z=some (O',H',E',())∧SK nf M O E (wt ns (i:Int)) O' H' E'
theorem aba(fd:jl ns):∀ n i,i<n→i<ns.length→(∀ x,ns[i]? = some x→sV x.1=true)→CFI nf M ns A G Fs i:=by
 intro n;induction n with
 |zero=>intro i h;omega
 |succ n ih=>
  intro i hi hl hcd;have hx:ns[i]? = some ns[i]:=by simp[hl]
  have hn:=fd i _ hx;have hcd:=hcd _ hx;have hw:=OM hx hn.cE;have Aw:bA ns (i:Int)=some ns[i]:=bj hx;generalize ns[i]=x at *;have Kr:∀ j∈x.2.2.2.2,sV (kd ns j)=true→CFI nf M ns A G Fs j.toNat∧((j.toNat:Nat):Int)=j:=fun j hj hc=>by
   have hj2:=hn.cE j hj;obtain⟨y,e1,e2,e3⟩:=uB (ns:=ns) hj2.1 (by omega)
   exact⟨ih j.toNat (by omega) (by omega) fun y' Gc=>by rw[e1] at Gc;cases Gc;rw[←e2];exact hc,aMa hj2.1⟩
  have dq:=hn.shp;by_cases h33:x.1=33
  ·rw[h33] at dq
   obtain⟨a,hK⟩:∃ a,x.2.2.2.2=[a]:=by
    rcases h:x.2.2.2.2 with _|⟨a,_|⟨b,r⟩⟩
    ·rw[h] at dq;simp[ce] at dq
    ·exact⟨a,rfl⟩
    ·rw[h] at dq;simp[ce] at dq
   rw[hK] at dq;obtain⟨ca,ea⟩:=Kr a (by rw[hK];simp) (by simpa[ce] using dq)
   unfold CFI at ca;rw[ea] at ca;rw[hK,oJ] at hw;refine Ev.succ (ca.mono fun k e fn O H E En la ki pl p y z hg f0 f1 p0 p1 hO hE=>?_);obtain⟨O',H',E',w1,w2⟩:=e fn O H E En la ki pl p z y hg f0 f1 p0 p1 (by omega) (by omega)
   refine⟨O',H',E',?_,⟨w2.fg,w2.lo,by have:=w2.hi;omega,by have:=w2.eh;omega⟩⟩
   simp only[go_sem,im,lw,Aw,h33,hK,show bA [a] 0=some a from rfl,w1]
  by_cases wK:x.1=31∨x.1=32
  ·obtain⟨a,b,hK⟩:∃ a b,x.2.2.2.2=[a,b]:=by
    rcases h:x.2.2.2.2 with _|⟨a,_|⟨b,_|⟨c,r⟩⟩⟩
    ·rcases wK with wK|wK<;>(rw[h,wK] at dq;simp[ce] at dq)
    ·rcases wK with wK|wK<;>(rw[h,wK] at dq;simp[ce] at dq)
    ·exact⟨a,b,rfl⟩
    ·rcases wK with wK|wK<;>(rw[h,wK] at dq;simp[ce] at dq)
   have hab:sV (kd ns a)=true∧sV (kd ns b)=true:=by rcases wK with wK|wK<;>(rw[hK,wK] at dq;simpa[ce] using dq)
   obtain⟨ca,ea⟩:=Kr a (by rw[hK];simp) hab.1
   obtain⟨cb,eb⟩:=Kr b (by rw[hK];simp) hab.2
   unfold CFI at ca cb;rw[ea] at ca;rw[eb] at cb;rw[hK,ye] at hw;refine Ev.succ ((ca.and cb).mono fun k e fn O H E En la ki pl p y z hg f0 f1 p0 p1 hO hE=>?_);obtain⟨ca,cb⟩:=e;have hp:=pR hg (show O.length≤2000000 by omega) fn false
   rcases wK with wK|wK
   ·obtain⟨O1,H1,E1,w1,w2⟩:=ca fn (O++[fn]) (H++[false]) E En la ki pl p (O.length:Int) z (hg.oe f0 f1 _) f0 f1 p0 (by simp;omega) (by simp;omega) (by omega)
    have l1:=w2.lo;have l2:=w2.hi;have l3:=w2.eh;simp only[ata,ara,aBa] at l1 l2;obtain⟨O2,H2,E2,w3,w4⟩:=cb fn O1 H1 E1 En la ki pl (O.length:Int) y z w2.fg f0 f1 (by omega) (by omega) (by omega) (by omega)
    have k1:=w4.lo;have k2:=w4.hi;have k3:=w4.eh;refine⟨O2,H2,E2,?_,⟨w4.fg,by omega,by omega,by omega⟩⟩
    simp only[go_sem,im,lw,Aw,wK,show((31:Int)==33)=false from rfl,hK,hp,show bA [a,b] 0=some a from rfl,w1,show bA [a,b] 1=some b from rfl,w3]
   ·obtain⟨O1,H1,E1,w1,w2⟩:=ca fn (O++[fn]) (H++[false]) E En la ki pl p y (O.length:Int) (hg.oe f0 f1 _) f0 f1 p0 (by simp;omega) (by simp;omega) (by omega)
    have l1:=w2.lo;have l2:=w2.hi;have l3:=w2.eh;simp only[ata,ara,aBa] at l1 l2;obtain⟨O2,H2,E2,w3,w4⟩:=cb fn O1 H1 E1 En la ki pl (O.length:Int) y z w2.fg f0 f1 (by omega) (by omega) (by omega) (by omega)
    have k1:=w4.lo;have k2:=w4.hi;have k3:=w4.eh;refine⟨O2,H2,E2,?_,⟨w4.fg,by omega,by omega,by omega⟩⟩
    simp only[go_sem,im,lw,Aw,wK,show((32:Int)==33)=false from rfl,show((32:Int)==31)=false from rfl,hK,hp,show bA [a,b] 0=some a from rfl,w1,show bA [a,b] 1=some b from rfl,w3]
  ·simp only[cha] at wK
   refine Ev.succ (Ev.of fun k fn O H E En la ki pl p y z hg f0 f1 p0 p1 hO hE=>?_);refine⟨O,H,E++[(p,y,3,(i:Int),1)]++[(p,z,3,(i:Int),0)],?_,⟨(hg.y9 p0 p1 (fun h=>absurd h (by decide))).y9 p0 p1 (fun h=>absurd h (by decide)),by omega,by omega,by simp;omega⟩⟩
   simp only[go_sem,im,lw,Aw,Q6.2 h33,Q6.2 wK.1,Q6.2 wK.2,sf (show E.length≤2000000 by omega),sf (show(E++[(p,y,3,(i:Int),1)]).length≤2000000 by simp;omega)]
end
section
variable {nf M:Nat} {ns:List ey} {A:AS} {G:XS} {Fs:FS}
def CFS(nf M:Nat)(ns:List ey)(A:AS)(G:XS)(Fs:FS)(i:Nat):Prop:=Ev fun k=>∀(fn:Int) (O:XI) (H:XB) (E:ES) (En:XI) (fr to:XI) (p y z:Int),FG nf M O H E→0≤fn→fn<nf→0≤p→p<O.length→O.length+5 * wt ns (i:Int)≤1000000→E.length+5 * wt ns (i:Int)≤1000000→
 ∃ O' H' E',jK k A G Fs ns fn O En H E fr to (i:Int) p y z=some (O',H',E',())∧SK nf M O E (wt ns (i:Int)) O' H' E'
theorem abb(fd:jl ns):∀ n i,i<n→i<ns.length→(∀ x,ns[i]? = some x→sV x.1=true)→CFS nf M ns A G Fs i:=by
 intro n;induction n with
 |zero=>intro i h;omega
 |succ n ih=>
  intro i hi hl hcd;have hx:ns[i]? = some ns[i]:=by simp[hl]
  have hn:=fd i _ hx;have hcd:=hcd _ hx;have hw:=OM hx hn.cE;have Aw:bA ns (i:Int)=some ns[i]:=bj hx;generalize ns[i]=x at *;have Kr:∀ j∈x.2.2.2.2,sV (kd ns j)=true→CFS nf M ns A G Fs j.toNat∧((j.toNat:Nat):Int)=j:=fun j hj hc=>by
   have hj2:=hn.cE j hj;obtain⟨y,e1,e2,e3⟩:=uB (ns:=ns) hj2.1 (by omega)
   exact⟨ih j.toNat (by omega) (by omega) fun y' Gc=>by rw[e1] at Gc;cases Gc;rw[←e2];exact hc,aMa hj2.1⟩
  have dq:=hn.shp;by_cases h33:x.1=33
  ·rw[h33] at dq
   obtain⟨a,hK⟩:∃ a,x.2.2.2.2=[a]:=by
    rcases h:x.2.2.2.2 with _|⟨a,_|⟨b,r⟩⟩
    ·rw[h] at dq;simp[ce] at dq
    ·exact⟨a,rfl⟩
    ·rw[h] at dq;simp[ce] at dq
   rw[hK] at dq;obtain⟨ca,ea⟩:=Kr a (by rw[hK];simp) (by simpa[ce] using dq)
   unfold CFS at ca;rw[ea] at ca;rw[hK,oJ] at hw;refine Ev.succ (ca.mono fun k e fn O H E En fr to p y z hg f0 f1 p0 p1 hO hE=>?_);obtain⟨O',H',E',w1,w2⟩:=e fn O H E En fr to p z y hg f0 f1 p0 p1 (by omega) (by omega)
   refine⟨O',H',E',?_,⟨w2.fg,w2.lo,by have:=w2.hi;omega,by have:=w2.eh;omega⟩⟩
   simp only[go_sem,jK,nD,Aw,h33,hK,show bA [a] 0=some a from rfl,w1]
  by_cases wK:x.1=31∨x.1=32
  ·obtain⟨a,b,hK⟩:∃ a b,x.2.2.2.2=[a,b]:=by
    rcases h:x.2.2.2.2 with _|⟨a,_|⟨b,_|⟨c,r⟩⟩⟩
    ·rcases wK with wK|wK<;>(rw[h,wK] at dq;simp[ce] at dq)
    ·rcases wK with wK|wK<;>(rw[h,wK] at dq;simp[ce] at dq)
    ·exact⟨a,b,rfl⟩
    ·rcases wK with wK|wK<;>(rw[h,wK] at dq;simp[ce] at dq)
   have hab:sV (kd ns a)=true∧sV (kd ns b)=true:=by rcases wK with wK|wK<;>(rw[hK,wK] at dq;simpa[ce] using dq)
   obtain⟨ca,ea⟩:=Kr a (by rw[hK];simp) hab.1
   obtain⟨cb,eb⟩:=Kr b (by rw[hK];simp) hab.2
   unfold CFS at ca cb;rw[ea] at ca;rw[eb] at cb;rw[hK,ye] at hw;refine Ev.succ ((ca.and cb).mono fun k e fn O H E En fr to p y z hg f0 f1 p0 p1 hO hE=>?_);obtain⟨ca,cb⟩:=e;have hp:=qK hg (show O.length≤2000000 by omega) fn false
   rcases wK with wK|wK
   ·obtain⟨O1,H1,E1,w1,w2⟩:=ca fn (O++[fn]) (H++[false]) E En fr to p (O.length:Int) z (hg.oe f0 f1 _) f0 f1 p0 (by simp;omega) (by simp;omega) (by omega)
    have l1:=w2.lo;have l2:=w2.hi;have l3:=w2.eh;simp only[ata,ara,aBa] at l1 l2;obtain⟨O2,H2,E2,w3,w4⟩:=cb fn O1 H1 E1 En fr to (O.length:Int) y z w2.fg f0 f1 (by omega) (by omega) (by omega) (by omega)
    have k1:=w4.lo;have k2:=w4.hi;have k3:=w4.eh;refine⟨O2,H2,E2,?_,⟨w4.fg,by omega,by omega,by omega⟩⟩
    simp only[go_sem,jK,nD,Aw,wK,show((31:Int)==33)=false from rfl,hK,hp,show bA [a,b] 0=some a from rfl,w1,show bA [a,b] 1=some b from rfl,w3]
   ·obtain⟨O1,H1,E1,w1,w2⟩:=ca fn (O++[fn]) (H++[false]) E En fr to p y (O.length:Int) (hg.oe f0 f1 _) f0 f1 p0 (by simp;omega) (by simp;omega) (by omega)
    have l1:=w2.lo;have l2:=w2.hi;have l3:=w2.eh;simp only[ata,ara,aBa] at l1 l2;obtain⟨O2,H2,E2,w3,w4⟩:=cb fn O1 H1 E1 En fr to (O.length:Int) y z w2.fg f0 f1 (by omega) (by omega) (by omega) (by omega)
    have k1:=w4.lo;have k2:=w4.hi;have k3:=w4.eh;refine⟨O2,H2,E2,?_,⟨w4.fg,by omega,by omega,by omega⟩⟩
    simp only[go_sem,jK,nD,Aw,wK,show((32:Int)==33)=false from rfl,show((32:Int)==31)=false from rfl,hK,hp,show bA [a,b] 0=some a from rfl,w1,show bA [a,b] 1=some b from rfl,w3]
  ·simp only[cha] at wK
   refine Ev.succ (Ev.of fun k fn O H E En fr to p y z hg f0 f1 p0 p1 hO hE=>?_);refine⟨O,H,E++[(p,y,3,(i:Int),1)]++[(p,z,3,(i:Int),0)],?_,⟨(hg.y9 p0 p1 (fun h=>absurd h (by decide))).y9 p0 p1 (fun h=>absurd h (by decide)),by omega,by omega,by simp;omega⟩⟩
   simp only[go_sem,jK,nD,Aw,Q6.2 h33,Q6.2 wK.1,Q6.2 wK.2,tR (show E.length≤2000000 by omega),tR (show(E++[(p,y,3,(i:Int),1)]).length≤2000000 by simp;omega)]
end
end Go.Fx.R5
namespace Go.Fx.R5
open Go Go.Fx
def UU(ns:List ey)(M:Nat)(pl:XI):Prop:=∀(j:Nat) (x:ey),ns[j]? = some x→x.1=23→∃ v,pl[j]? = some v∧0≤v∧v<(M:Int)
structure acl(nf M:Nat)(O:XI)(E:ES)(w:Nat)(O':XI)(H':XB)(E':ES):Prop where
 fg:FG nf M O' H' E'
 lo:O.length≤O'.length
 hi:O'.length+1≤O.length+5 * w
 eh:E'.length+1≤E.length+5 * w
theorem E7(ns:List ey)(a:Int)(l:XI):jz ns (a::l)=wt ns a+jz ns l:=by simp[jz]
section
variable {nf M:Nat} {ns:List ey} {A:AS} {G:XS} {Fs:FS}
theorem TB(k:Nat):jw (k+1)=mJ (jw k) (gj k) k:=rfl
theorem tf(k:Nat):gj (k+1)=cQ (jw k) (gj k) k:=rfl
def SFI(nf M:Nat)(ns:List ey)(A:AS)(G:XS)(Fs:FS)(i:Nat):Prop:=Ev fun k=>∀(ki pl:XI),UU ns M pl→∀(fn:Int) (O:XI) (H:XB) (E:ES) (En:XI) (la:SPS) (p q:Int),FG nf M O H E→0≤fn→fn<nf→0≤p→p<O.length→la.length=ns.length→O.length+5 * wt ns (i:Int)≤1000000→E.length+5 * wt ns (i:Int)≤1000000→
 ∃ O' H' E' la',gj k fn O En H E la ns A G Fs ki pl [] [] [] [] [] [] [] (i:Int) p q=some (O',H',E',la',())∧acl nf M O E (wt ns (i:Int)) O' H' E'∧la'.length=ns.length
def BFI(nf M:Nat)(ns:List ey)(A:AS)(G:XS)(Fs:FS)(i:Nat):Prop:=Ev fun k=>∀(ki pl:XI),UU ns M pl→∀(fn:Int) (O:XI) (H:XB) (E:ES) (En:XI) (la:SPS) (p q:Int),FG nf M O H E→0≤fn→fn<nf→0≤p→p<O.length→la.length=ns.length→O.length+5 * wt ns (i:Int)≤1000000→E.length+5 * wt ns (i:Int)≤1000000→
 ∃ O' H' E' la',jw k fn O En H E la ns A G Fs ki pl [] [] [] [] [] [] [] (i:Int) p q=some (O',H',E',la',())∧SK nf M O E (wt ns (i:Int)) O' H' E'∧la'.length=ns.length
theorem SU{K:XI}(Ah:K.length≤5000)(vQ:∀ j∈K,1≤wt ns j)(hK:∀ j∈K,((j.toNat:Nat):Int)=j∧SFI nf M ns A G Fs j.toNat):∀ m s,m+s=K.length→ct fun qq k=>∀(ki pl:XI),UU ns M pl→∀(fn:Int) (O:XI) (H:XB) (E:ES) (En:XI) (la:SPS) (p q:Int),FG nf M O H E→0≤fn→fn<nf→(s<K.length→0≤p∧p<O.length)→la.length=ns.length→
  O.length+5 * jz ns (K.drop s)≤1000000→E.length+5 * jz ns (K.drop s)≤1000000→
  ∃ O' H' E' la',gP (jw qq) (gj qq) qq k ns A G Fs ki pl [] [] [] [] [] [] [] fn En q K K (K.length:Int) O H E la p (s:Int)=some (O',H',E',la',())∧SK nf M O E (jz ns (K.drop s)) O' H' E'∧la'.length=ns.length
 |0,s,h=>by
  have h2:¬ s<K.length:=by omega
  refine ct.succ (ct.of fun qq k ki pl ze fn O H E En la p q hg f0 f1 hp Mj hO hE=>⟨O,H,E,la,?_,⟨hg,by omega,by omega,by omega⟩,Mj⟩)
  simp only[go_sem,gP,Q3,h2]
 |m+1,s,h=>by
  have bq:s<K.length:=by omega
  have hd:K.drop s=K[s]::K.drop (s+1):=aSa bq;obtain⟨ej,hj⟩:=hK _ (aWa bq);have hks:jz ns (K.drop s)=wt ns K[s]+jz ns (K.drop (s+1)):=by rw[hd,E7]
  unfold SFI at hj;rw[ej] at hj;refine ct.succ ((hj.tZ.and (SU Ah vQ hK m (s+1) (by omega))).mono fun qq k e ki pl ze fn O H E En la p q hg f0 f1 hp Mj hO hE=>?_)
  obtain⟨e1,e2⟩:=e;obtain⟨p0,p1⟩:=hp bq;have hw1:cm ((K.length:Int) - 1)=((K.length - 1:Nat):Int):=by rw[dT (by omega) (by omega)];omega
  rw[hks] at hO hE;by_cases hl:s<K.length - 1
  ·have hpt:=pR hg (show O.length≤2000000 by omega) fn false
   have BI:=hg.oe f0 f1 false;by_cases abm:(O++[fn]).length+5 * wt ns K[s]≤1000000
   ·obtain⟨O1,H1,E1,la1,w1,w2,w3⟩:=e1 ki pl ze fn (O++[fn]) (H++[false]) E En la p (O.length:Int) BI f0 f1 p0 (by simp;omega) Mj abm (by omega)
    have l1:=w2.lo;have l2:=w2.hi;have l3:=w2.eh;simp only[ata,ara,aBa] at l1 l2;obtain⟨O2,H2,E2,la2,w4,w5,w6⟩:=e2 ki pl ze fn O1 H1 E1 En la1 (O.length:Int) q w2.fg f0 f1 (fun _=>⟨by omega,by omega⟩) w3 (by omega) (by omega)
    have k1:=w5.lo;have k2:=w5.hi;have k3:=w5.eh;refine⟨O2,H2,E2,la2,?_,⟨w5.fg,by omega,by rw[hks];omega,by rw[hks];omega⟩,w6⟩
    simp only[go_sem,gP,aa,Q3,bq,cX bq,hw1,hl,hpt,w1,ae (show s<_ by omega),w4]
   ·exfalso
    simp only[ata,ara,aBa] at abm;have Zo:s+1<K.length:=by omega
    have hd2:K.drop (s+1)=K[s+1]::K.drop (s+1+1):=aSa Zo;rw[hd2,E7] at hO;have:=vQ K[s+1] (aWa Zo);omega
  ·obtain⟨O1,H1,E1,la1,w1,w2,w3⟩:=e1 ki pl ze fn O H E En la p q hg f0 f1 p0 p1 Mj (by omega) (by omega)
   have l1:=w2.lo;have l2:=w2.hi;have l3:=w2.eh;obtain⟨O2,H2,E2,la2,w4,w5,w6⟩:=e2 ki pl ze fn O1 H1 E1 En la1 q q w2.fg f0 f1 (fun hh=>by omega) w3 (by omega) (by omega)
   have k1:=w5.lo;have k2:=w5.hi;have k3:=w5.eh;refine⟨O2,H2,E2,la2,?_,⟨w5.fg,by omega,by rw[hks];omega,by rw[hks];omega⟩,w6⟩
   simp only[go_sem,gP,aa,Q3,bq,cX bq,hw1,hl,w1,ae (show s<_ by omega),w4]
theorem adf{i:Nat}{x:ey}(hx:ns[i]? = some x)(hn:nU ns i x)(hw:wt ns (i:Int)=1+jz ns x.2.2.2.2)(vQ:∀ j∈x.2.2.2.2,1≤wt ns j)(hK:∀ j∈x.2.2.2.2,((j.toNat:Nat):Int)=j∧SFI nf M ns A G Fs j.toNat):BFI nf M ns A G Fs i:=by
 refine Ev.succ ((SU (by have:=hn.nm.2;omega) vQ hK x.2.2.2.2.length 0 rfl).jN.mono fun k e ki pl ze fn O H E En la p q hg f0 f1 p0 p1 Mj hO hE=>?_)
 rw[bEa] at e;by_cases h0:x.2.2.2.2.length=0
 ·refine⟨O,H,E++[(p,q,1,-1,0)],la,?_,⟨hg.y9 p0 p1 (fun h=>absurd h (by decide)),by omega,by omega,by simp;omega⟩,Mj⟩
  simp only[go_sem,TB,mJ,bj hx,h0,show(((0:Nat):Int)==0)=true from rfl,sf (show E.length≤2000000 by omega)]
 ·obtain⟨O',H',E',la',w1,w2,w3⟩:=e ki pl ze fn O H E En la p q hg f0 f1 (fun _=>⟨p0,p1⟩) Mj (by omega) (by omega)
  refine⟨O',H',E',la',?_,⟨w2.fg,w2.lo,by have:=w2.hi;omega,by have:=w2.eh;omega⟩,w3⟩
  have w1:gP (jw k) (gj k) k k ns A G Fs ki pl [] [] [] [] [] [] [] fn En q x.2.2.2.2 x.2.2.2.2 (x.2.2.2.2.length:Int) O H E la p 0=_:=w1;simp only[go_sem,TB,mJ,bj hx,show((x.2.2.2.2.length:Int)==0)=false from Q6.2 (by omega),w1]
theorem aeh(fd:jl ns){i:Nat}{x:ey}(hx:ns[i]? = some x)(hn:nU ns i x)(hw:wt ns (i:Int)=1+jz ns x.2.2.2.2)(IH:∀ j∈x.2.2.2.2,((j.toNat:Nat):Int)=j∧(kd ns j=8→BFI nf M ns A G Fs j.toNat)):SFI nf M ns A G Fs i:=by
 have dq:=hn.shp;have Aw:bA ns (i:Int)=some x:=bj hx;have FN:i<ns.length:=(aja.1 hx).1;have Pp:∀(la:SPS) (v:Int×Int×Int×Int),la.length=ns.length→∃ y,bA la (i:Int)=some y∧(la.set i v).length=ns.length:=fun la v Mj=>⟨la[i]'(by omega),cX (by omega),by simp[Mj]⟩
 have NR:∀ j∈x.2.2.2.2,sV (kd ns j)=true→((j.toNat:Nat):Int)=j∧CFI nf M ns A G Fs j.toNat:=fun j hj hc=>by
  have hj2:=hn.cE j hj;obtain⟨y,e1,e2,e3⟩:=uB (ns:=ns) hj2.1 (by omega)
  exact⟨aMa hj2.1,aba fd (j.toNat+1) j.toNat (by omega) (by omega) fun y' Gc=>by rw[e1] at Gc;cases Gc;rw[←e2];exact hc⟩
 by_cases h14:x.1=14
 ·rw[h14] at dq
  have hb:∃ a b r,x.2.2.2.2=a::b::r∧sV (kd ns a)=true∧kd ns b=8∧(r=[]∨∃ c,r=[c]∧kd ns c=8):=by
   rcases h:x.2.2.2.2 with _|⟨a,_|⟨b,_|⟨c,_|⟨d,r⟩⟩⟩⟩
   ·rw[h] at dq;simp[ce] at dq
   ·rw[h] at dq;simp[ce] at dq
   ·rw[h] at dq;simp[ce] at dq;exact⟨a,b,[],rfl,dq.1,dq.2,.inl rfl⟩
   ·rw[h] at dq;simp[ce] at dq;exact⟨a,b,[c],rfl,dq.1.1,dq.1.2,.inr ⟨c,rfl,dq.2⟩⟩
   ·rw[h] at dq;simp[ce] at dq
  obtain⟨a,b,r,hK,ha,hb,hr⟩:=hb;obtain⟨ea,ca⟩:=NR a (by rw[hK];simp) ha
  obtain⟨eb,cb⟩:=IH b (by rw[hK];simp)
  have cb:=cb hb;unfold CFI at ca;unfold BFI at cb;rw[ea] at ca;rw[eb] at cb;rcases hr with rfl|⟨c,rfl,hc8⟩
  ·rw[hK,ye] at hw
   refine Ev.succ ((ca.and cb).mono fun k e ki pl ze fn O H E En la p q hg f0 f1 p0 p1 Mj hO hE=>?_);obtain⟨ca,cb⟩:=e;have hp:=pR hg (show O.length≤2000000 by omega) fn false
   obtain⟨O1,H1,E1,w1,w2⟩:=ca fn (O++[fn]) (H++[false]) E En la ki pl p (O.length:Int) q (hg.oe f0 f1 _) f0 f1 p0 (by simp;omega) (by simp;omega) (by omega)
   have l1:=w2.lo;have l2:=w2.hi;have l3:=w2.eh;simp only[ata,ara,aBa] at l1 l2;obtain⟨O2,H2,E2,la2,w3,w4,w5⟩:=cb ki pl ze fn O1 H1 E1 En la (O.length:Int) q w2.fg f0 f1 (by omega) (by omega) Mj (by omega) (by omega)
   have k1:=w4.lo;have k2:=w4.hi;have k3:=w4.eh;obtain⟨y,y1,y2⟩:=Pp la2 (p,q,(O.length:Int),q) w5;refine⟨O2,H2,E2,la2.set i (p,q,(O.length:Int),q),?_,⟨w4.fg,by omega,by omega,by omega⟩,y2⟩
   simp only[go_sem,tf,cQ,aa,Aw,h14,hp,hK,ara,aBa,show(((0+1+1:Nat):Int)==3)=false from rfl,show bA [a,b] 0=some a from rfl,w1,show bA [a,b] 1=some b from rfl,w3,aya,y1]
  ·obtain⟨ec,cc⟩:=IH c (by rw[hK];simp)
   have cc:=cc hc8;unfold BFI at cc;rw[ec] at cc;rw[hK,Qm] at hw;refine Ev.succ ((ca.and (cb.and cc)).mono fun k e ki pl ze fn O H E En la p q hg f0 f1 p0 p1 Mj hO hE=>?_);obtain⟨ca,cb,cc⟩:=e;have hp:=pR hg (show O.length≤2000000 by omega) fn false
   have BI:=hg.oe f0 f1 false;have HX:=pR BI (show(O++[fn]).length≤2000000 by simp;omega) fn false
   have IR:=BI.oe f0 f1 false;obtain⟨O1,H1,E1,w1,w2⟩:=ca fn (O++[fn]++[fn]) (H++[false]++[false]) E En la ki pl p (O.length:Int) ((O++[fn]).length:Int) IR f0 f1 p0 (by simp;omega) (by simp;omega) (by omega)
   have l1:=w2.lo;have l2:=w2.hi;have l3:=w2.eh;simp only[ata,ara,aBa] at l1 l2;obtain⟨O2,H2,E2,la2,w3,w4,w5⟩:=cb ki pl ze fn O1 H1 E1 En la (O.length:Int) q w2.fg f0 f1 (by omega) (by omega) Mj (by omega) (by omega)
   have k1:=w4.lo;have k2:=w4.hi;have k3:=w4.eh;obtain⟨O3,H3,E3,la3,w6,w7,w8⟩:=cc ki pl ze fn O2 H2 E2 En la2 ((O++[fn]).length:Int) q w4.fg f0 f1 (by omega) (by simp;omega) w5 (by omega) (by omega)
   have j1:=w7.lo;have j2:=w7.hi;have j3:=w7.eh;obtain⟨y,y1,y2⟩:=Pp la3 (p,q,(O.length:Int),((O++[fn]).length:Int)) w8;refine⟨O3,H3,E3,la3.set i (p,q,(O.length:Int),((O++[fn]).length:Int)),?_,⟨w7.fg,by omega,by omega,by omega⟩,y2⟩
   simp only[go_sem,tf,cQ,aa,Aw,h14,hp,HX,hK,show((([a,b,c]:XI).length:Int)==3)=true from rfl,show bA [a,b,c] 0=some a from rfl,w1,show bA [a,b,c] 1=some b from rfl,w3,show bA [a,b,c] 2=some c from rfl,w6,aya,y1]
 by_cases h15:x.1=15
 ·rw[h15] at dq
  obtain⟨a,b,hK,ha,hb⟩:∃ a b,x.2.2.2.2=[a,b]∧sV (kd ns a)=true∧kd ns b=8:=by
   rcases h:x.2.2.2.2 with _|⟨a,_|⟨b,_|⟨c,r⟩⟩⟩
   ·rw[h] at dq;simp[ce] at dq
   ·rw[h] at dq;simp[ce] at dq
   ·rw[h] at dq;simp[ce] at dq;exact⟨a,b,rfl,dq.1,dq.2⟩
   ·rw[h] at dq;simp[ce] at dq
  obtain⟨ea,ca⟩:=NR a (by rw[hK];simp) ha
  obtain⟨eb,cb⟩:=IH b (by rw[hK];simp)
  have cb:=cb hb;unfold CFI at ca;unfold BFI at cb;rw[ea] at ca;rw[eb] at cb;rw[hK,ye] at hw;refine Ev.succ ((ca.and cb).mono fun k e ki pl ze fn O H E En la p q hg f0 f1 p0 p1 Mj hO hE=>?_);obtain⟨ca,cb⟩:=e;have hp:=pR hg (show O.length≤2000000 by omega) fn true
  have BI:=hg.oe f0 f1 true;have HX:=pR BI (show(O++[fn]).length≤2000000 by simp;omega) fn false
  have IR:=(BI.oe f0 f1 false).y9 (f:=p) (t:=(O.length:Int)) (k:=1) (n:=-1) (a:=0) p0 (by simp<;>omega) (fun h=>absurd h (by decide))
  obtain⟨O1,H1,E1,w1,w2⟩:=ca fn (O++[fn]++[fn]) (H++[true]++[false]) (E++[(p,(O.length:Int),1,-1,0)]) En la ki pl (O.length:Int) ((O++[fn]).length:Int) q IR f0 f1 (by omega) (by simp;omega) (by simp;omega) (by simp;omega)
  have l1:=w2.lo;have l2:=w2.hi;have l3:=w2.eh;simp only[ata,ara,aBa] at l1 l2 l3;obtain⟨O2,H2,E2,la2,w3,w4,w5⟩:=cb ki pl ze fn O1 H1 E1 En la ((O++[fn]).length:Int) (O.length:Int) w2.fg f0 f1 (by omega) (by simp;omega) Mj (by omega) (by omega)
  have k1:=w4.lo;have k2:=w4.hi;have k3:=w4.eh;obtain⟨y,y1,y2⟩:=Pp la2 (p,q,((O++[fn]).length:Int),q) w5;refine⟨O2,H2,E2,la2.set i (p,q,((O++[fn]).length:Int),q),?_,⟨w4.fg,by omega,by omega,by omega⟩,y2⟩
  simp only[go_sem,tf,cQ,aa,Aw,h15,show((15:Int)==14)=false from rfl,hp,HX,sf (show E.length≤2000000 by omega),hK,show bA [a,b] 0=some a from rfl,w1,show bA [a,b] 1=some b from rfl,w3,aya,y1]
 by_cases F9:x.1=16
 ·rw[F9] at dq
  obtain⟨a,b,c,hK,hb⟩:∃ a b c,x.2.2.2.2=[a,b,c]∧kd ns c=8:=by
   rcases h:x.2.2.2.2 with _|⟨a,_|⟨b,_|⟨c,_|⟨d,r⟩⟩⟩⟩
   ·rw[h] at dq;simp[ce] at dq
   ·rw[h] at dq;simp[ce] at dq
   ·rw[h] at dq;simp[ce] at dq
   ·rw[h] at dq;simp[ce] at dq;exact⟨a,b,c,rfl,dq.2⟩
   ·rw[h] at dq;simp[ce] at dq
  obtain⟨ec,cc⟩:=IH c (by rw[hK];simp)
  have cc:=cc hb;unfold BFI at cc;rw[ec] at cc;rw[hK,Qm] at hw;refine Ev.succ (cc.mono fun k cc ki pl ze fn O H E En la p q hg f0 f1 p0 p1 Mj hO hE=>?_);have hp:=pR hg (show O.length≤2000000 by omega) fn true
  have BI:=hg.oe f0 f1 true;have HX:=pR BI (show(O++[fn]).length≤2000000 by simp;omega) fn false
  have IR:=BI.oe f0 f1 false;have hg3:=IR.y9 (f:=p) (t:=(O.length:Int)) (k:=8) (n:=(i:Int)) (a:=0) p0 (by simp<;>omega) (fun h=>absurd h (by decide))
  have hg4:=hg3.y9 (f:=(O.length:Int)) (t:=((O++[fn]).length:Int)) (k:=9) (n:=(i:Int)) (a:=1) (by omega) (by simp<;>omega) (fun h=>absurd h (by decide))
  have hg5:=hg4.y9 (f:=(O.length:Int)) (t:=q) (k:=9) (n:=(i:Int)) (a:=0) (by omega) (by simp<;>omega) (fun h=>absurd h (by decide))
  have hp3:=pR hg5 (show(O++[fn]++[fn]).length≤2000000 by simp;omega) fn false
  have hg6:=hg5.oe f0 f1 false;obtain⟨O2,H2,E2,la2,w3,w4,w5⟩:=cc ki pl ze fn _ _ _ En la ((O++[fn]).length:Int) ((O++[fn]++[fn]).length:Int) hg6 f0 f1 (by simp<;>omega) (by simp<;>omega) Mj (by simp<;>omega) (by simp<;>omega)
  have k1:=w4.lo;have k2:=w4.hi;have k3:=w4.eh;simp only[ata,ara,aBa] at k1 k2 k3;obtain⟨y,y1,y2⟩:=Pp la2 (p,q,((O++[fn]).length:Int),q) w5;refine⟨O2,H2,E2++[(((O++[fn]++[fn]).length:Int),(O.length:Int),10,(i:Int),0)],la2.set i (p,q,((O++[fn]).length:Int),q),?_,⟨w4.fg.y9 (by omega) (by simp;omega) (fun h=>absurd h (by decide)),by omega,by omega,by simp;omega⟩,y2⟩
  simp only[go_sem,tf,cQ,aa,Aw,F9,show((16:Int)==14)=false from rfl,show((16:Int)==15)=false from rfl,hp,HX,sf (show E.length≤2000000 by omega),sf (show(E++[(p,(O.length:Int),8,(i:Int),0)]).length≤2000000 by simp;omega),sf (show(E++[(p,(O.length:Int),8,(i:Int),0)]++[((O.length:Int),((O++[fn]).length:Int),9,(i:Int),1)]).length≤2000000 by simp;omega),hp3,hK,show bA [a,b,c] 2=some c from rfl,w3,sf (show E2.length≤2000000 by omega),aya,y1]
 by_cases h19:x.1=19
 ·rw[h19] at dq
  obtain⟨a,hK,ha⟩:∃ a,x.2.2.2.2=[a]∧sV (kd ns a)=true:=by
   rcases h:x.2.2.2.2 with _|⟨a,_|⟨b,r⟩⟩
   ·rw[h] at dq;simp[ce] at dq
   ·rw[h] at dq;simp[ce] at dq;exact⟨a,rfl,dq⟩
   ·rw[h] at dq;simp[ce] at dq
  obtain⟨ea,ca⟩:=NR a (by rw[hK];simp) ha
  unfold CFI at ca;rw[ea] at ca;rw[hK,oJ] at hw;refine Ev.succ (ca.mono fun k ca ki pl ze fn O H E En la p q hg f0 f1 p0 p1 Mj hO hE=>?_);have hp:=pR hg (show O.length≤2000000 by omega) fn false
  obtain⟨O1,H1,E1,w1,w2⟩:=ca fn (O++[fn]) (H++[false]) E En la ki pl p q (O.length:Int) (hg.oe f0 f1 _) f0 f1 p0 (by simp;omega) (by simp;omega) (by omega)
  have l1:=w2.lo;have l2:=w2.hi;have l3:=w2.eh;simp only[ata,ara,aBa] at l1 l2;obtain⟨y,y1,y2⟩:=Pp la (p,q,q,(O.length:Int)) Mj;refine⟨O1,H1,E1++[((O.length:Int),(O.length:Int),4,(i:Int),0)],la.set i (p,q,q,(O.length:Int)),?_,⟨w2.fg.y9 (by omega) (by omega) (fun h=>absurd h (by decide)),by omega,by omega,by simp;omega⟩,y2⟩
  simp only[go_sem,tf,cQ,aa,Aw,h19,show((19:Int)==14)=false from rfl,show((19:Int)==15)=false from rfl,show((19:Int)==16)=false from rfl,hp,hK,show bA [a] 0=some a from rfl,w1,sf (show E1.length≤2000000 by omega),aya,y1]
 have one:∀(mk:XI→Int→Int→Int×Int×Int×Int×Int),(∀ pl p q,UU ns M pl→(mk pl p q).1=p∧((mk pl p q).2.2.1=5→0≤(mk pl p q).2.2.2.2∧(mk pl p q).2.2.2.2<(M:Int)))→
   (∀ k ki pl fn O H E En la p q y,UU ns M pl→E.length≤2000000→bA la (i:Int)=some y→gj (k+1) fn O En H E la ns A G Fs ki pl [] [] [] [] [] [] [] (i:Int) p q=some (O,H,E++[mk pl p q],la.set i (p,q,0,0),()))→SFI nf M ns A G Fs i:=fun mk h1 h2=>
  Ev.succ (Ev.of fun k ki pl ze fn O H E En la p q hg f0 f1 p0 p1 Mj hO hE=>by
   obtain⟨y,y1,y2⟩:=Pp la (p,q,0,0) Mj;obtain⟨g1,g2⟩:=h1 pl p q ze;refine⟨O,H,E++[mk pl p q],_,h2 k ki pl fn O H E En la p q y ze (by omega) y1,⟨?_,by omega,by omega,by simp;omega⟩,y2⟩
   have:=hg.y9 (f:=(mk pl p q).1) (t:=(mk pl p q).2.1) (k:=(mk pl p q).2.2.1) (n:=(mk pl p q).2.2.2.1) (a:=(mk pl p q).2.2.2.2) (by rw[g1];exact p0) (by rw[g1];exact p1) g2
   exact this)
 have n14:=Q6.2 h14;have n15:=Q6.2 h15;have n16:=Q6.2 F9;have n19:=Q6.2 h19;by_cases h21:x.1=21
 ·refine one (fun _ p q=>(p,p,6,(i:Int),0)) (fun pl p q _=>⟨rfl,fun h=>by simp at h⟩) (fun k ki pl fn O H E En la p q y _ hE hy=>?_)
  simp only[go_sem,tf,cQ,aa,Aw,h21,show((21:Int)==14)=false from rfl,show((21:Int)==15)=false from rfl,show((21:Int)==16)=false from rfl,show((21:Int)==19)=false from rfl,sf hE,aya,hy]
 have n21:=Q6.2 h21;by_cases h20:x.1=20
 ·refine one (fun _ p q=>(p,p,7,(i:Int),0)) (fun pl p q _=>⟨rfl,fun h=>by simp at h⟩) (fun k ki pl fn O H E En la p q y _ hE hy=>?_)
  simp only[go_sem,tf,cQ,aa,Aw,h20,show((20:Int)==14)=false from rfl,show((20:Int)==15)=false from rfl,show((20:Int)==16)=false from rfl,show((20:Int)==19)=false from rfl,show((20:Int)==21)=false from rfl,sf hE,aya,hy]
 have n20:=Q6.2 h20;by_cases D0:x.1=22
 ·rw[D0] at dq
  obtain⟨u,r,hK,hu⟩:∃ u r,x.2.2.2.2=u::r∧kd ns u=23:=by
   cases h:x.2.2.2.2 with
   |nil=>rw[h] at dq;simp[ce] at dq
   |cons u r=>rw[h] at dq;simp[ce] at dq;exact⟨u,r,rfl,dq.1⟩
  have hu2:=hn.cE u (by rw[hK];simp)
  obtain⟨y,e1,e2,e3⟩:=uB (ns:=ns) hu2.1 (by omega)
  refine one (fun pl p q=>(p,q,5,(i:Int),(pl[u.toNat]?).getD 0)) (fun pl p q ze=>?_) (fun k ki pl fn O H E En la p q y' ze hE hy=>?_)
  ·obtain⟨v,v1,v2,v3⟩:=ze u.toNat y e1 (by rw[←e2];exact hu)
   refine⟨rfl,fun _=>?_⟩;simp only[v1,b8a];exact⟨v2,v3⟩
  obtain⟨v,v1,v2,v3⟩:=ze u.toNat y e1 (by rw[←e2];exact hu)
  have iu:bA pl u=some v:=by rw[←aMa hu2.1];exact bj v1
  have iu2:bA pl ((u.toNat:Nat):Int)=some v:=bj v1;simp only[v1,b8a];simp only[go_sem,tf,cQ,aa,Aw,D0,show((22:Int)==14)=false from rfl,show((22:Int)==15)=false from rfl,show((22:Int)==16)=false from rfl,show((22:Int)==19)=false from rfl,show((22:Int)==21)=false from rfl,show((22:Int)==20)=false from rfl,hK,show bA (u::r) 0=some u from rfl,iu,iu2,sf hE,aya,hy]
 have n22:=Q6.2 D0;refine one (fun _ p q=>(p,q,2,(i:Int),0)) (fun pl p q _=>⟨rfl,fun h=>by simp at h⟩) (fun k ki pl fn O H E En la p q y _ hE hy=>?_)
 simp only[go_sem,tf,cQ,aa,Aw,n14,n15,n16,n19,n21,n20,n22,sf hE,aya,hy]
theorem XG(fd:jl ns):∀ n i,i<n→i<ns.length→(kd ns (i:Int)=8→BFI nf M ns A G Fs i)∧SFI nf M ns A G Fs i:=by
 intro n;induction n with
 |zero=>intro i h;omega
 |succ n ih=>
  intro i hi hl;have hx:ns[i]? = some ns[i]:=by simp[hl]
  have hn:=fd i _ hx;have hw:=OM hx hn.cE;have Kr:∀ j∈ns[i].2.2.2.2,((j.toNat:Nat):Int)=j∧j.toNat<n∧j.toNat<ns.length:=fun j hj=>by have:=hn.cE j hj;exact⟨aMa this.1,by omega,by omega⟩
  refine⟨fun h8=>adf hx hn hw (fun j hj=>?_) fun j hj=>⟨(Kr j hj).1,(ih j.toNat (Kr j hj).2.1 (Kr j hj).2.2).2⟩,aeh fd hx hn hw fun j hj=>⟨(Kr j hj).1,fun h8=>(ih j.toNat (Kr j hj).2.1 (Kr j hj).2.2).1 (by rw[(Kr j hj).1];exact h8)⟩⟩
  have hj:=hn.cE j hj;obtain⟨y,e1,e2,e3⟩:=uB (ns:=ns) hj.1 (by omega)
  have:=OM e1 (fd _ _ e1).cE;rw[aMa hj.1] at this;omega
end
end Go.Fx.R5
namespace Go.Fx.R5
open Go Go.Fx
section
variable {nf M:Nat} {ns:List ey} {A:AS} {G:XS} {Fs:FS}
theorem Uu(k:Nat):iW (k+1)=oG (iW k) (jL k) (mr k) k:=rfl
theorem tS(k:Nat):jL (k+1)=fN (iW k) (jL k) (mr k) k:=rfl
theorem Uv(k:Nat):mr (k+1)=pB (iW k) (jL k) (mr k) k:=rfl
def SFS(nf M:Nat)(ns:List ey)(A:AS)(G:XS)(Fs:FS)(i:Nat):Prop:=Ev fun k=>∀(fn:Int) (O:XI) (H:XB) (E:ES) (En:XI) (fr to:XI) (p q:Int),FG nf M O H E→0≤fn→fn<nf→0≤p→p<O.length→fr.length=ns.length→to.length=ns.length→O.length+5 * wt ns (i:Int)≤1000000→E.length+5 * wt ns (i:Int)≤1000000→
 ∃ O' H' E' Qd to',jL k A G Fs ns fn O En H E fr to (i:Int) p q=some (O',H',E',Qd,to',())∧acl nf M O E (wt ns (i:Int)) O' H' E'∧Qd.length=ns.length∧to'.length=ns.length
def BFS(nf M:Nat)(ns:List ey)(A:AS)(G:XS)(Fs:FS)(i:Nat):Prop:=Ev fun k=>∀(fn:Int) (O:XI) (H:XB) (E:ES) (En:XI) (fr to:XI) (p q:Int),FG nf M O H E→0≤fn→fn<nf→0≤p→p<O.length→fr.length=ns.length→to.length=ns.length→O.length+5 * wt ns (i:Int)≤1000000→E.length+5 * wt ns (i:Int)≤1000000→
 ∃ O' H' E' Qd to',iW k A G Fs ns fn O En H E fr to (i:Int) p q=some (O',H',E',Qd,to',())∧SK nf M O E (wt ns (i:Int)) O' H' E'∧Qd.length=ns.length∧to'.length=ns.length
theorem SV{K:XI}(Ah:K.length≤5000)(vQ:∀ j∈K,1≤wt ns j)(hK:∀ j∈K,((j.toNat:Nat):Int)=j∧SFS nf M ns A G Fs j.toNat):∀ m s,m+s=K.length→ct fun qq k=>∀(fn:Int) (O:XI) (H:XB) (E:ES) (En:XI) (fr to:XI) (p q:Int),FG nf M O H E→0≤fn→fn<nf→(s<K.length→0≤p∧p<O.length)→fr.length=ns.length→to.length=ns.length→
  O.length+5 * jz ns (K.drop s)≤1000000→E.length+5 * jz ns (K.drop s)≤1000000→
  ∃ O' H' E' Qd to',hJ (iW qq) (jL qq) (mr qq) qq k A G Fs ns fn En q K O H E fr to p (s:Int)=some (O',H',E',Qd,to',())∧SK nf M O E (jz ns (K.drop s)) O' H' E'∧Qd.length=ns.length∧to'.length=ns.length
 |0,s,h=>by
  have h2:¬ s<K.length:=by omega
  refine ct.succ (ct.of fun qq k fn O H E En fr to p q hg f0 f1 hp sU JC hO hE=>⟨O,H,E,fr,to,?_,⟨hg,by omega,by omega,by omega⟩,sU,JC⟩)
  simp only[go_sem,hJ,Q3,h2]
 |m+1,s,h=>by
  have bq:s<K.length:=by omega
  have hd:K.drop s=K[s]::K.drop (s+1):=aSa bq;obtain⟨ej,hj⟩:=hK _ (aWa bq);have hks:jz ns (K.drop s)=wt ns K[s]+jz ns (K.drop (s+1)):=by rw[hd,E7]
  unfold SFS at hj;rw[ej] at hj;refine ct.succ ((hj.tZ.and (SV Ah vQ hK m (s+1) (by omega))).mono fun qq k e fn O H E En fr to p q hg f0 f1 hp sU JC hO hE=>?_)
  obtain⟨e1,e2⟩:=e;obtain⟨p0,p1⟩:=hp bq;rw[hks] at hO hE;by_cases hl:s+1<K.length
  ·have hpt:=qK hg (show O.length≤2000000 by omega) fn false
   have BI:=hg.oe f0 f1 false;have hd2:K.drop (s+1)=K[s+1]::K.drop (s+1+1):=aSa hl;have hk2:1≤jz ns (K.drop (s+1)):=by rw[hd2,E7];have:=vQ K[s+1] (aWa hl);omega
   obtain⟨O1,H1,E1,fr1,to1,w1,w2,w3,w3'⟩:=e1 fn (O++[fn]) (H++[false]) E En fr to p (O.length:Int) BI f0 f1 p0 (by simp;omega) sU JC (by simp;omega) (by omega)
   have l1:=w2.lo;have l2:=w2.hi;have l3:=w2.eh;simp only[ata,ara,aBa] at l1 l2;obtain⟨O2,H2,E2,fr2,C9,w4,w5,w6,w6'⟩:=e2 fn O1 H1 E1 En fr1 to1 (O.length:Int) q w2.fg f0 f1 (fun _=>⟨by omega,by omega⟩) w3 w3' (by omega) (by omega)
   have k1:=w5.lo;have k2:=w5.hi;have k3:=w5.eh;refine⟨O2,H2,E2,fr2,C9,?_,⟨w5.fg,by omega,by rw[hks];omega,by rw[hks];omega⟩,w6,w6'⟩
   simp only[go_sem,hJ,aa,Q3,bq,cX bq,ae (show s<_ by omega),hl,hpt,w1,w4]
  ·obtain⟨O1,H1,E1,fr1,to1,w1,w2,w3,w3'⟩:=e1 fn O H E En fr to p q hg f0 f1 p0 p1 sU JC (by omega) (by omega)
   have l1:=w2.lo;have l2:=w2.hi;have l3:=w2.eh;obtain⟨O2,H2,E2,fr2,C9,w4,w5,w6,w6'⟩:=e2 fn O1 H1 E1 En fr1 to1 q q w2.fg f0 f1 (fun hh=>by omega) w3 w3' (by omega) (by omega)
   have k1:=w5.lo;have k2:=w5.hi;have k3:=w5.eh;refine⟨O2,H2,E2,fr2,C9,?_,⟨w5.fg,by omega,by rw[hks];omega,by rw[hks];omega⟩,w6,w6'⟩
   simp only[go_sem,hJ,aa,Q3,bq,cX bq,ae (show s<_ by omega),hl,w1,w4]
theorem at_len{α:Type}{l:List α}{i n:Nat}(hl:l.length=n)(hi:i<n):∃ y,bA l (i:Int)=some y:=⟨l[i]'(by omega),cX (by omega)⟩
theorem adg{i:Nat}{x:ey}(hx:ns[i]? = some x)(hn:nU ns i x)(hw:wt ns (i:Int)=1+jz ns x.2.2.2.2)(vQ:∀ j∈x.2.2.2.2,1≤wt ns j)(hK:∀ j∈x.2.2.2.2,((j.toNat:Nat):Int)=j∧SFS nf M ns A G Fs j.toNat):BFS nf M ns A G Fs i:=by
 have FN:i<ns.length:=(aja.1 hx).1;refine Ev.succ ((SV (by have:=hn.nm.2;omega) vQ hK x.2.2.2.2.length 0 rfl).jN.mono fun k e fn O H E En fr to p q hg f0 f1 p0 p1 sU JC hO hE=>?_)
 rw[bEa] at e;obtain⟨y,hy⟩:=at_len sU FN;by_cases h0:x.2.2.2.2.length=0
 ·have XU:x.2.2.2.2=[]:=cja.1 h0
  have BI:=hg.y9 (f:=p) (t:=q) (k:=1) (n:=-1) (a:=0) p0 p1 (fun h=>absurd h (by decide))
  rw[XU,zy] at e hw;obtain⟨O',H',E',Qd,to',w1,w2,w3,w3'⟩:=e fn O H (E++[(p,q,1,-1,0)]) En (fr.set i p) to p q BI f0 f1 (fun _=>⟨p0,p1⟩) (by simpa using sU) JC (by omega) (by simp;omega)
  have:=w2.eh;simp only[ata,ara,aBa] at this;refine⟨O',H',E',Qd,to',?_,⟨w2.fg,w2.lo,by have:=w2.hi;omega,by omega⟩,w3,w3'⟩
  have w1:hJ (iW k) (jL k) (mr k) k k A G Fs ns fn En q [] O H (E++[(p,q,1,-1,0)]) (fr.set i p) to p 0=_:=w1;simp only[go_sem,Uu,oG,aa,bj hx,hy,aya,XU,show((([]:XI).length:Int)==0)=true from rfl,tR (show E.length≤2000000 by omega),w1]
 ·obtain⟨O',H',E',Qd,to',w1,w2,w3,w3'⟩:=e fn O H E En (fr.set i p) to p q hg f0 f1 (fun _=>⟨p0,p1⟩) (by simpa using sU) JC (by omega) (by omega)
  refine⟨O',H',E',Qd,to',?_,⟨w2.fg,w2.lo,by have:=w2.hi;omega,by have:=w2.eh;omega⟩,w3,w3'⟩
  have w1:hJ (iW k) (jL k) (mr k) k k A G Fs ns fn En q x.2.2.2.2 O H E (fr.set i p) to p 0=_:=w1;simp only[go_sem,Uu,oG,aa,bj hx,hy,aya,show((x.2.2.2.2.length:Int)==0)=false from Q6.2 (by omega),w1]
end
section
variable {nf:Nat} {ns:List ey} {t:y4} {nmf:ak}
theorem aei(ht:iq t)(fd:jl ns){i:Nat}{x:ey}(Hm:Ie ns t nmf i)(hx:ns[i]? = some x)(hn:nU ns i x)(hw:wt ns (i:Int)=1+jz ns x.2.2.2.2)(IH:∀ j∈x.2.2.2.2,((j.toNat:Nat):Int)=j∧(kd ns j=8→BFS nf t.2.2.length ns t.1 t.2.1 t.2.2 j.toNat)):SFS nf t.2.2.length ns t.1 t.2.1 t.2.2 i:=by
 have dq:=hn.shp;have Aw:bA ns (i:Int)=some x:=bj hx;have FN:i<ns.length:=(aja.1 hx).1;have NR:∀ j∈x.2.2.2.2,sV (kd ns j)=true→((j.toNat:Nat):Int)=j∧CFS nf t.2.2.length ns t.1 t.2.1 t.2.2 j.toNat:=fun j hj hc=>by
  have hj2:=hn.cE j hj;obtain⟨y,e1,e2,e3⟩:=uB (ns:=ns) hj2.1 (by omega)
  exact⟨aMa hj2.1,abb fd (j.toNat+1) j.toNat (by omega) (by omega) fun y' Gc=>by rw[e1] at Gc;cases Gc;rw[←e2];exact hc⟩
 by_cases h14:x.1=14
 ·rw[h14] at dq
  have hb:∃ a b r,x.2.2.2.2=a::b::r∧sV (kd ns a)=true∧kd ns b=8∧(r=[]∨∃ c,r=[c]∧kd ns c=8):=by
   rcases h:x.2.2.2.2 with _|⟨a,_|⟨b,_|⟨c,_|⟨d,r⟩⟩⟩⟩
   ·rw[h] at dq;simp[ce] at dq
   ·rw[h] at dq;simp[ce] at dq
   ·rw[h] at dq;simp[ce] at dq;exact⟨a,b,[],rfl,dq.1,dq.2,.inl rfl⟩
   ·rw[h] at dq;simp[ce] at dq;exact⟨a,b,[c],rfl,dq.1.1,dq.1.2,.inr ⟨c,rfl,dq.2⟩⟩
   ·rw[h] at dq;simp[ce] at dq
  obtain⟨a,b,r,hK,ha,hb,hr⟩:=hb;obtain⟨ea,ca⟩:=NR a (by rw[hK];simp) ha
  obtain⟨eb,cb⟩:=IH b (by rw[hK];simp)
  have cb:=cb hb;unfold CFS at ca;unfold BFS at cb;rw[ea] at ca;rw[eb] at cb;rcases hr with rfl|⟨c,rfl,hc8⟩
  ·rw[hK,ye] at hw
   refine Ev.succ ((ca.and cb).mono fun k e fn O H E En fr to p q hg f0 f1 p0 p1 sU JC hO hE=>?_);obtain⟨ca,cb⟩:=e;obtain⟨y1,Pm⟩:=at_len sU FN;obtain⟨y2,Ko⟩:=at_len JC FN;have hp:=qK hg (show O.length≤2000000 by omega) fn false
   obtain⟨O1,H1,E1,w1,w2⟩:=ca fn (O++[fn]) (H++[false]) E En (fr.set i p) (to.set i q) p (O.length:Int) q (hg.oe f0 f1 _) f0 f1 p0 (by simp;omega) (by simp;omega) (by omega)
   have l1:=w2.lo;have l2:=w2.hi;have l3:=w2.eh;simp only[ata,ara,aBa] at l1 l2;obtain⟨O2,H2,E2,fr2,C9,w3,w4,w5,w5'⟩:=cb fn O1 H1 E1 En (fr.set i p) (to.set i q) (O.length:Int) q w2.fg f0 f1 (by omega) (by omega) (by simpa using sU) (by simpa using JC) (by omega) (by omega)
   have k1:=w4.lo;have k2:=w4.hi;have k3:=w4.eh;refine⟨O2,H2,E2,fr2,C9,?_,⟨w4.fg,by omega,by omega,by omega⟩,w5,w5'⟩
   simp only[go_sem,tS,fN,aa,Aw,Pm,Ko,aya,h14,hp,hK,show decide (((([a,b]:XI).length:Int)) > 2)=false from rfl,show bA [a,b] 0=some a from rfl,w1,show bA [a,b] 1=some b from rfl,w3]
  ·obtain⟨ec,cc⟩:=IH c (by rw[hK];simp)
   have cc:=cc hc8;unfold BFS at cc;rw[ec] at cc;rw[hK,Qm] at hw;refine Ev.succ ((ca.and (cb.and cc)).mono fun k e fn O H E En fr to p q hg f0 f1 p0 p1 sU JC hO hE=>?_);obtain⟨ca,cb,cc⟩:=e;obtain⟨y1,Pm⟩:=at_len sU FN;obtain⟨y2,Ko⟩:=at_len JC FN;have hp:=qK hg (show O.length≤2000000 by omega) fn false
   have BI:=hg.oe f0 f1 false;have HX:=qK BI (show(O++[fn]).length≤2000000 by simp;omega) fn false
   have IR:=BI.oe f0 f1 false;obtain⟨O1,H1,E1,w1,w2⟩:=ca fn (O++[fn]++[fn]) (H++[false]++[false]) E En (fr.set i p) (to.set i q) p (O.length:Int) ((O++[fn]).length:Int) IR f0 f1 p0 (by simp;omega) (by simp;omega) (by omega)
   have l1:=w2.lo;have l2:=w2.hi;have l3:=w2.eh;simp only[ata,ara,aBa] at l1 l2;obtain⟨O2,H2,E2,fr2,C9,w3,w4,w5,w5'⟩:=cb fn O1 H1 E1 En (fr.set i p) (to.set i q) (O.length:Int) q w2.fg f0 f1 (by omega) (by omega) (by simpa using sU) (by simpa using JC) (by omega) (by omega)
   have k1:=w4.lo;have k2:=w4.hi;have k3:=w4.eh;obtain⟨O3,H3,E3,fr3,to3,w6,w7,w8,w8'⟩:=cc fn O2 H2 E2 En fr2 C9 ((O++[fn]).length:Int) q w4.fg f0 f1 (by omega) (by simp;omega) w5 w5' (by omega) (by omega)
   have j1:=w7.lo;have j2:=w7.hi;have j3:=w7.eh;refine⟨O3,H3,E3,fr3,to3,?_,⟨w7.fg,by omega,by omega,by omega⟩,w8,w8'⟩
   simp only[go_sem,tS,fN,aa,Aw,Pm,Ko,aya,h14,hp,HX,hK,show decide (((([a,b,c]:XI).length:Int)) > 2)=true from rfl,show bA [a,b,c] 0=some a from rfl,w1,show bA [a,b,c] 1=some b from rfl,w3,show bA [a,b,c] 2=some c from rfl,w6]
 by_cases h15:x.1=15
 ·rw[h15] at dq
  obtain⟨a,b,hK,ha,hb⟩:∃ a b,x.2.2.2.2=[a,b]∧sV (kd ns a)=true∧kd ns b=8:=by
   rcases h:x.2.2.2.2 with _|⟨a,_|⟨b,_|⟨c,r⟩⟩⟩
   ·rw[h] at dq;simp[ce] at dq
   ·rw[h] at dq;simp[ce] at dq
   ·rw[h] at dq;simp[ce] at dq;exact⟨a,b,rfl,dq.1,dq.2⟩
   ·rw[h] at dq;simp[ce] at dq
  obtain⟨ea,ca⟩:=NR a (by rw[hK];simp) ha
  obtain⟨eb,cb⟩:=IH b (by rw[hK];simp)
  have cb:=cb hb;unfold CFS at ca;unfold BFS at cb;rw[ea] at ca;rw[eb] at cb;rw[hK,ye] at hw;refine Ev.succ (Ev.succ ((ca.and cb).mono fun k e fn O H E En fr to p q hg f0 f1 p0 p1 sU JC hO hE=>?_));obtain⟨ca,cb⟩:=e;obtain⟨y1,Pm⟩:=at_len sU FN;obtain⟨y2,Ko⟩:=at_len JC FN;have hp:=qK hg (show O.length≤2000000 by omega) fn true
  have BI:=hg.oe f0 f1 true;have HX:=qK BI (show(O++[fn]).length≤2000000 by simp;omega) fn false
  have IR:=(BI.oe f0 f1 false).y9 (f:=p) (t:=(O.length:Int)) (k:=1) (n:=-1) (a:=0) p0 (by simp<;>omega) (fun h=>absurd h (by decide))
  obtain⟨O1,H1,E1,w1,w2⟩:=ca fn (O++[fn]++[fn]) (H++[true]++[false]) (E++[(p,(O.length:Int),1,-1,0)]) En (fr.set i p) (to.set i q) (O.length:Int) ((O++[fn]).length:Int) q IR f0 f1 (by omega) (by simp;omega) (by simp;omega) (by simp;omega)
  have l1:=w2.lo;have l2:=w2.hi;have l3:=w2.eh;simp only[ata,ara,aBa] at l1 l2 l3;obtain⟨O2,H2,E2,fr2,C9,w3,w4,w5,w5'⟩:=cb fn O1 H1 E1 En (fr.set i p) (to.set i q) ((O++[fn]).length:Int) (O.length:Int) w2.fg f0 f1 (by omega) (by simp;omega) (by simpa using sU) (by simpa using JC) (by omega) (by omega)
  have k1:=w4.lo;have k2:=w4.hi;have k3:=w4.eh;refine⟨O2,H2,E2,fr2,C9,?_,⟨w4.fg,by omega,by omega,by omega⟩,w5,w5'⟩
  simp only[go_sem,tS (k+1),fN,aa,Aw,Pm,Ko,aya,h15,show((15:Int)==14)=false from rfl,Uv,pB,hp,HX,tR (show E.length≤2000000 by omega),hK,show bA [a,b] 0=some a from rfl,w1,show bA [a,b] 1=some b from rfl,w3]
 by_cases F9:x.1=16
 ·rw[F9] at dq
  obtain⟨a,b,c,hK,hb⟩:∃ a b c,x.2.2.2.2=[a,b,c]∧kd ns c=8:=by
   rcases h:x.2.2.2.2 with _|⟨a,_|⟨b,_|⟨c,_|⟨d,r⟩⟩⟩⟩
   ·rw[h] at dq;simp[ce] at dq
   ·rw[h] at dq;simp[ce] at dq
   ·rw[h] at dq;simp[ce] at dq
   ·rw[h] at dq;simp[ce] at dq;exact⟨a,b,c,rfl,dq.2⟩
   ·rw[h] at dq;simp[ce] at dq
  obtain⟨ec,cc⟩:=IH c (by rw[hK];simp)
  have cc:=cc hb;unfold BFS at cc;rw[ec] at cc;rw[hK,Qm] at hw;refine Ev.succ (Ev.succ (cc.mono fun k cc fn O H E En fr to p q hg f0 f1 p0 p1 sU JC hO hE=>?_));obtain⟨y1,Pm⟩:=at_len sU FN;obtain⟨y2,Ko⟩:=at_len JC FN;have hp:=qK hg (show O.length≤2000000 by omega) fn true
  have BI:=hg.oe f0 f1 true;have HX:=qK BI (show(O++[fn]).length≤2000000 by simp;omega) fn false
  have IR:=BI.oe f0 f1 false;have hg3:=IR.y9 (f:=p) (t:=(O.length:Int)) (k:=8) (n:=(i:Int)) (a:=0) p0 (by simp<;>omega) (fun h=>absurd h (by decide))
  have hg4:=hg3.y9 (f:=(O.length:Int)) (t:=((O++[fn]).length:Int)) (k:=9) (n:=(i:Int)) (a:=1) (by omega) (by simp<;>omega) (fun h=>absurd h (by decide))
  have hg5:=hg4.y9 (f:=(O.length:Int)) (t:=q) (k:=9) (n:=(i:Int)) (a:=0) (by omega) (by simp<;>omega) (fun h=>absurd h (by decide))
  have hp3:=qK hg5 (show(O++[fn]++[fn]).length≤2000000 by simp;omega) fn false
  have hg6:=hg5.oe f0 f1 false;obtain⟨O2,H2,E2,fr2,C9,w3,w4,w5,w5'⟩:=cc fn _ _ _ En (fr.set i p) (to.set i q) ((O++[fn]).length:Int) ((O++[fn]++[fn]).length:Int) hg6 f0 f1 (by simp<;>omega) (by simp<;>omega) (by simpa using sU) (by simpa using JC) (by simp<;>omega) (by simp<;>omega)
  have k1:=w4.lo;have k2:=w4.hi;have k3:=w4.eh;simp only[ata,ara,aBa] at k1 k2 k3;refine⟨O2,H2,E2++[(((O++[fn]++[fn]).length:Int),(O.length:Int),10,(i:Int),0)],fr2,C9,?_,⟨w4.fg.y9 (by omega) (by simp;omega) (fun h=>absurd h (by decide)),by omega,by omega,by simp;omega⟩,w5,w5'⟩
  simp only[go_sem,tS (k+1),fN,aa,Aw,Pm,Ko,aya,F9,show((16:Int)==14)=false from rfl,show((16:Int)==15)=false from rfl,Uv,pB,hp,HX,tR (show E.length≤2000000 by omega),tR (show(E++[(p,(O.length:Int),8,(i:Int),0)]).length≤2000000 by simp;omega),tR (show(E++[(p,(O.length:Int),8,(i:Int),0)]++[((O.length:Int),((O++[fn]).length:Int),9,(i:Int),1)]).length≤2000000 by simp;omega),hp3,hK,show bA [a,b,c] 2=some c from rfl,w3,tR (show E2.length≤2000000 by omega)]
 by_cases h19:x.1=19
 ·rw[h19] at dq
  obtain⟨a,hK,ha⟩:∃ a,x.2.2.2.2=[a]∧sV (kd ns a)=true:=by
   rcases h:x.2.2.2.2 with _|⟨a,_|⟨b,r⟩⟩
   ·rw[h] at dq;simp[ce] at dq
   ·rw[h] at dq;simp[ce] at dq;exact⟨a,rfl,dq⟩
   ·rw[h] at dq;simp[ce] at dq
  obtain⟨ea,ca⟩:=NR a (by rw[hK];simp) ha
  unfold CFS at ca;rw[ea] at ca;rw[hK,oJ] at hw;refine Ev.succ (ca.mono fun k ca fn O H E En fr to p q hg f0 f1 p0 p1 sU JC hO hE=>?_);obtain⟨y1,Pm⟩:=at_len sU FN;obtain⟨y2,Ko⟩:=at_len JC FN;have hp:=qK hg (show O.length≤2000000 by omega) fn false
  obtain⟨O1,H1,E1,w1,w2⟩:=ca fn (O++[fn]) (H++[false]) E En (fr.set i p) (to.set i q) p q (O.length:Int) (hg.oe f0 f1 _) f0 f1 p0 (by simp;omega) (by simp;omega) (by omega)
  have l1:=w2.lo;have l2:=w2.hi;have l3:=w2.eh;simp only[ata,ara,aBa] at l1 l2;refine⟨O1,H1,E1++[((O.length:Int),(O.length:Int),4,(i:Int),0)],fr.set i p,to.set i q,?_,⟨w2.fg.y9 (by omega) (by omega) (fun h=>absurd h (by decide)),by omega,by omega,by simp;omega⟩,by simpa using sU,by simpa using JC⟩
  simp only[go_sem,tS,fN,aa,Aw,Pm,Ko,aya,h19,show((19:Int)==14)=false from rfl,show((19:Int)==15)=false from rfl,show((19:Int)==16)=false from rfl,hp,hK,show bA [a] 0=some a from rfl,w1,tR (show E1.length≤2000000 by omega)]
 have one:∀(mk:Int→Int→Int×Int×Int×Int×Int),(∀ p q,(mk p q).1=p∧((mk p q).2.2.1=5→0≤(mk p q).2.2.2.2∧(mk p q).2.2.2.2<(t.2.2.length:Int)))→
   (Ev fun k=>∀ fn O H E En fr to p q y1 y2,E.length≤2000000→bA fr (i:Int)=some y1→bA to (i:Int)=some y2→jL (k+1) t.1 t.2.1 t.2.2 ns fn O En H E fr to (i:Int) p q=some (O,H,E++[mk p q],fr.set i p,to.set i q,()))→SFS nf t.2.2.length ns t.1 t.2.1 t.2.2 i:=fun mk h1 h2=>
  Ev.succ (h2.mono fun k h2 fn O H E En fr to p q hg f0 f1 p0 p1 sU JC hO hE=>by
   obtain⟨y1,Pm⟩:=at_len sU FN;obtain⟨y2,Ko⟩:=at_len JC FN;obtain⟨g1,g2⟩:=h1 p q;refine⟨O,H,E++[mk p q],_,_,h2 fn O H E En fr to p q y1 y2 (by omega) Pm Ko,⟨?_,by omega,by omega,by simp;omega⟩,by simpa using sU,by simpa using JC⟩
   exact hg.y9 (f:=(mk p q).1) (t:=(mk p q).2.1) (k:=(mk p q).2.2.1) (n:=(mk p q).2.2.2.1) (a:=(mk p q).2.2.2.2) (by rw[g1];exact p0) (by rw[g1];exact p1) g2)
 by_cases h21:x.1=21
 ·refine one (fun p q=>(p,p,6,(i:Int),0)) (fun p q=>⟨rfl,fun h=>by simp at h⟩) (Ev.of fun k fn O H E En fr to p q y1 y2 hE Pm Ko=>?_)
  simp only[go_sem,tS,fN,aa,Aw,Pm,Ko,aya,h21,show((21:Int)==14)=false from rfl,show((21:Int)==15)=false from rfl,show((21:Int)==16)=false from rfl,show((21:Int)==19)=false from rfl,tR hE]
 by_cases h20:x.1=20
 ·refine one (fun p q=>(p,p,7,(i:Int),0)) (fun p q=>⟨rfl,fun h=>by simp at h⟩) (Ev.of fun k fn O H E En fr to p q y1 y2 hE Pm Ko=>?_)
  simp only[go_sem,tS,fN,aa,Aw,Pm,Ko,aya,h20,show((20:Int)==14)=false from rfl,show((20:Int)==15)=false from rfl,show((20:Int)==16)=false from rfl,show((20:Int)==19)=false from rfl,show((20:Int)==21)=false from rfl,tR hE]
 by_cases D0:x.1=22
 ·rw[D0] at dq
  obtain⟨u,r,hK,hu⟩:∃ u r,x.2.2.2.2=u::r∧kd ns u=23:=by
   cases h:x.2.2.2.2 with
   |nil=>rw[h] at dq;simp[ce] at dq
   |cons u r=>rw[h] at dq;simp[ce] at dq;exact⟨u,r,rfl,dq.1⟩
  have hu2:=hn.cE u (by rw[hK];simp)
  obtain⟨y,e1,e2,e3⟩:=uB (ns:=ns) hu2.1 (by omega)
  obtain⟨_,x',E4,hk',hc',ha'⟩:=Hm;rw[hx] at E4;obtain rfl:=bta E4;have h5:=hc' D0 u (by rw[hK];rfl)
  obtain⟨n,f,n1,n2,n3⟩:=nk5 h5;have Zr:Em ns u=y.2.2.2.1:=by simp only[Em,e1]
  rw[Zr] at n3;have LS:0≤nC (fun z:ak×Int×XS×XS×Int=>z.1==y.2.2.2.1) t.2.2 0:=Ci.2 ⟨f,aZa n2,bfa.2 n3⟩;have agI:=aam LS;have hF:=Sl t y.2.2.2.1 (by have:=ht.f;omega)
  refine one (fun p q=>(p,q,5,(i:Int),nC (fun z:ak×Int×XS×XS×Int=>z.1==y.2.2.2.1) t.2.2 0)) (fun p q=>⟨rfl,fun _=>⟨LS,agI⟩⟩) (hF.mono fun k e fn O H E En fr to p q y1 y2 hE Pm Ko=>?_);simp only[go_sem,tS,fN,aa,Aw,Pm,Ko,aya,D0,show((22:Int)==14)=false from rfl,show((22:Int)==15)=false from rfl,show((22:Int)==16)=false from rfl,show((22:Int)==19)=false from rfl,show((22:Int)==21)=false from rfl,show((22:Int)==20)=false from rfl,hK,show bA (u::r) 0=some u from rfl,e3,show kc k (t.1,t.2.1,t.2.2) y.2.2.2.1=_ from e,tR hE]
 refine one (fun p q=>(p,q,2,(i:Int),0)) (fun p q=>⟨rfl,fun h=>by simp at h⟩) (Ev.of fun k fn O H E En fr to p q y1 y2 hE Pm Ko=>?_)
 simp only[go_sem,tS,fN,aa,Aw,Pm,Ko,aya,Q6.2 h14,Q6.2 h15,Q6.2 F9,Q6.2 h19,Q6.2 h21,Q6.2 h20,Q6.2 D0,tR hE]
theorem XH(ht:iq t)(fd:jl ns):∀ n i,i<n→i<ns.length→Ie ns t nmf i→(kd ns (i:Int)=8→BFS nf t.2.2.length ns t.1 t.2.1 t.2.2 i)∧SFS nf t.2.2.length ns t.1 t.2.1 t.2.2 i:=by
 intro n;induction n with
 |zero=>intro i h;omega
 |succ n ih=>
  intro i hi hl Hm;have hx:ns[i]? = some ns[i]:=by simp[hl]
  have hn:=fd i _ hx;have hw:=OM hx hn.cE;have hkc:∀ j∈ns[i].2.2.2.2,Ie ns t nmf j.toNat:=by obtain⟨_,x',E4,hk',_,_⟩:=Hm;rw[hx] at E4;obtain rfl:=bta E4;exact hk'
  have Kr:∀ j∈ns[i].2.2.2.2,((j.toNat:Nat):Int)=j∧j.toNat<n∧j.toNat<ns.length:=fun j hj=>by have:=hn.cE j hj;exact⟨aMa this.1,by omega,by omega⟩
  refine⟨fun h8=>adg hx hn hw (fun j hj=>?_) fun j hj=>⟨(Kr j hj).1,(ih j.toNat (Kr j hj).2.1 (Kr j hj).2.2 (hkc j hj)).2⟩,aei ht fd Hm hx hn hw fun j hj=>⟨(Kr j hj).1,fun h8=>(ih j.toNat (Kr j hj).2.1 (Kr j hj).2.2 (hkc j hj)).1 (by rw[(Kr j hj).1];exact h8)⟩⟩
  have hj:=hn.cE j hj;obtain⟨y,e1,e2,e3⟩:=uB (ns:=ns) hj.1 (by omega)
  have:=OM e1 (fd _ _ e1).cE;rw[aMa hj.1] at this;omega
end
end Go.Fx.R5
namespace Go.Fx.R5
open Go Go.Fx
theorem ab2{k:Int}{l:XI}(h:ce k l=true)(hm:(23:Int)∈l):(k=22∨k=12)∧∃ r,l=23::r:=by
 unfold ce at h;by_cases c1:k=24∨k=25∨k=27∨k=29∨k=23∨k=34∨k=17∨k=20∨k=2∨k=3∨k=5∨k=6∨k=7
 ·rw[a4a c1] at h
  cases l with
  |nil=>cases hm
  |cons a r=>cases h
 rw[aza c1] at h;by_cases c2:k=26∨k=11∨k=13∨k=18∨k=21
 ·rw[a4a c2] at h
  rcases l with _|⟨a,_|⟨b,r⟩⟩
  ·cases hm
  ·obtain rfl:=Q7.1 hm;exact absurd h (by decide)
  ·cases h
 rw[aza c2] at h;by_cases c3:k=9
 ·rw[a4a c3] at h
  rcases l with _|⟨a,_|⟨b,r⟩⟩
  ·cases hm
  ·obtain rfl:=Q7.1 hm;exact absurd h (by decide)
  ·cases h
 rw[aza c3] at h;by_cases c4:k=28∨k=30∨k=10
 ·rw[a4a c4] at h
  rcases l with _|⟨a,_|⟨b,_|⟨c,r⟩⟩⟩
  ·cases hm
  ·cases h
  ·simp only[Q4] at h
   rcases aka.1 hm with rfl|hm
   ·exact absurd h.1 (by decide)
   ·obtain rfl:=Q7.1 hm;exact absurd h.2 (by decide)
  ·cases h
 rw[aza c4] at h;by_cases c5:k=12
 ·rw[a4a c5] at h
  rcases l with _|⟨a,_|⟨b,_|⟨c,r⟩⟩⟩
  ·cases hm
  ·cases h
  ·simp only[Q4,bfa] at h
   exact⟨.inr c5,[b],by rw[h.1]⟩
  ·cases h
 rw[aza c5] at h;by_cases c6:k=22
 ·rw[a4a c6] at h
  cases l with
  |nil=>cases hm
  |cons a r=>simp only[Q4,bfa] at h;exact⟨.inl c6,r,by rw[h.1]⟩
 rw[aza c6] at h;by_cases c7:k=31∨k=32
 ·rw[a4a c7] at h
  rcases l with _|⟨a,_|⟨b,_|⟨c,r⟩⟩⟩
  ·cases hm
  ·cases h
  ·simp only[Q4] at h
   rcases aka.1 hm with rfl|hm
   ·exact absurd h.1 (by decide)
   ·obtain rfl:=Q7.1 hm;exact absurd h.2 (by decide)
  ·cases h
 rw[aza c7] at h;by_cases c8:k=33∨k=19
 ·rw[a4a c8] at h
  rcases l with _|⟨a,_|⟨b,r⟩⟩
  ·cases hm
  ·obtain rfl:=Q7.1 hm;exact absurd h (by decide)
  ·cases h
 rw[aza c8] at h;by_cases c9:k=14
 ·rw[a4a c9] at h
  rcases l with _|⟨a,_|⟨b,_|⟨c,_|⟨d,r⟩⟩⟩⟩
  ·cases hm
  ·cases h
  ·simp only[Q4] at h
   rcases aka.1 hm with rfl|hm
   ·exact absurd h.1 (by decide)
   ·obtain rfl:=Q7.1 hm;exact absurd h.2 (by decide)
  ·simp only[Q4] at h
   rcases aka.1 hm with rfl|hm
   ·exact absurd h.1.1 (by decide)
   ·rcases aka.1 hm with rfl|hm
    ·exact absurd h.1.2 (by decide)
    ·obtain rfl:=Q7.1 hm;exact absurd h.2 (by decide)
  ·cases h
 rw[aza c9] at h;by_cases c10:k=15
 ·rw[a4a c10] at h
  rcases l with _|⟨a,_|⟨b,_|⟨c,r⟩⟩⟩
  ·cases hm
  ·cases h
  ·simp only[Q4] at h
   rcases aka.1 hm with rfl|hm
   ·exact absurd h.1 (by decide)
   ·obtain rfl:=Q7.1 hm;exact absurd h.2 (by decide)
  ·cases h
 rw[aza c10] at h;by_cases OU:k=16
 ·rw[a4a OU] at h
  rcases l with _|⟨a,_|⟨b,_|⟨c,_|⟨d,r⟩⟩⟩⟩
  ·cases hm
  ·cases h
  ·cases h
  ·simp only[Q4] at h
   rcases aka.1 hm with rfl|hm
   ·exact absurd h.1.1 (by decide)
   ·rcases aka.1 hm with rfl|hm
    ·exact absurd h.1.2 (by decide)
    ·obtain rfl:=Q7.1 hm;exact absurd h.2 (by decide)
  ·cases h
 rw[aza OU] at h;by_cases c12:k=8
 ·rw[a4a c12] at h
  exact absurd (apa.1 h 23 hm) (by decide)
 rw[aza c12] at h;by_cases c13:k=4
 ·rw[a4a c13] at h
  simp only[Q4,bfa] at h;have gT:l≠[]:=List.ne_nil_of_mem hm;have e:=List.dropLast_concat_getLast gT;rw[←e] at hm;rcases ala.1 hm with hm|hm
  ·exact absurd (apa.1 h.1 23 hm) (by decide)
  ·have h2:=h.2
   rw[List.getLast?_eq_some_getLast gT] at h2;rw[←Q7.1 hm] at h2;cases h2
 rw[aza c13] at h;by_cases c14:k=1
 ·rw[a4a c14] at h
  exact absurd (apa.1 h 23 hm) (by decide)
 rw[aza c14] at h;cases h
section
variable {ns:List ey} {t:y4}
theorem nk1{fn s:ak}(h:(nk t fn s).1=1):0≤(nk t fn s).2∧(nk t fn s).2<t.1.length:=by
 have key:(Pr t s).1=1→0≤(Pr t s).2∧(Pr t s).2<t.1.length:=fun h=>by
  unfold Pr at h ⊢;by_cases g1:0≤nC (fun x:ak×Int=>x.1==s) t.1 0
  ·have:=aam g1
   simp[g1];omega
  ·by_cases g2:0≤nC (fun x=>x==s) t.2.1 0
   ·simp[g1,g2] at h
   ·by_cases g3:0≤nC (fun x:ak×Int×XS×XS×Int=>x.1==s) t.2.2 0<;>simp[g1,g2,g3] at h
 unfold nk at h ⊢;cases hf:t.2.2.find? (fun x=>x.1==fn) with
 |none=>simp only[hf] at h ⊢;exact key h
 |some x=>
  simp only[hf] at h ⊢;by_cases g1:0≤nC (fun y=>y==s) x.2.2.1 0
  ·simp[g1] at h
  ·by_cases g2:0≤nC (fun y=>y==s) x.2.2.2.1 0
   ·simp[g1,g2] at h
   ·simp only[go_sem,g1,g2] at h ⊢;exact key h
structure KP(ns:List ey)(ki pl:XI):Prop where
 k:ki.length=ns.length
 p:pl.length=ns.length
 o:UU ns 6 pl
theorem KP.set{ki pl:XI}(h:KP ns ki pl){i:Nat}{x:ey}(hx:ns[i]? = some x)(a b:Int)(hb:x.1=23→0≤b∧b<6):KP ns (ki.set i a) (pl.set i b):=by
 refine⟨by simpa using h.k,by simpa using h.p,fun j y hy h23=>?_⟩
 have FN:=(aja.1 hx).1;by_cases e:i=j
 ·subst e
  rw[hx] at hy;cases hy;refine⟨b,?_,(hb h23).1,(hb h23).2⟩;rw[List.getElem?_set_self (by rw[h.p];exact FN)]
 ·obtain⟨v,v1,v2⟩:=h.o j y hy h23
  exact⟨v,by rw[List.getElem?_set_ne e];exact v1,v2⟩
def Bd(ns:List ey)(t:y4)(rec:ak×Int×XS×XS×Int)(i:Nat):Prop:=Ev fun k=>∀ ki pl,KP ns ki pl→
 ∃ ki' pl',gb k ns t.1 t.2.1 t.2.2 ki pl [] [] [] [] [] [] [] rec (i:Int)=some (ki',pl',())∧KP ns ki' pl'
theorem PQ{rec:ak×Int×XS×XS×Int}{K:XI}(Ah:K.length≤5000)(hK:∀ j∈K,((j.toNat:Nat):Int)=j∧Bd ns t rec j.toNat):∀ m s,m+s=K.length→ct fun q k=>∀ ki pl,KP ns ki pl→
  ∃ ki' pl',gl (gb q) q k rec.1 rec.2.1 rec.2.2.1 rec.2.2.2.1 rec.2.2.2.2 ns t.1 t.2.1 t.2.2 [] [] [] [] [] [] [] K (K.length:Int) ki pl (s:Int)=some (ki',pl',())∧KP ns ki' pl'
 |0,s,h=>by
  have h2:¬ s<K.length:=by omega
  exact ct.succ (ct.of fun q k ki pl hkp=>⟨ki,pl,by simp only[go_sem,gl,Q3,h2],hkp⟩)
 |m+1,s,h=>by
  have bq:s<K.length:=by omega
  obtain⟨ej,hj⟩:=hK _ (aWa bq);unfold Bd at hj;rw[ej] at hj;refine ct.succ ((hj.tZ.and (PQ Ah hK m (s+1) (by omega))).mono fun q k e ki pl hkp=>?_)
  obtain⟨ki1,pl1,w1,w2⟩:=e.1 ki pl hkp;obtain⟨ki2,pl2,w3,w4⟩:=e.2 ki1 pl1 w2;refine⟨ki2,pl2,?_,w4⟩;simp only[go_sem,gl,Q3,bq,cX bq,ae (show s<_ by omega)]
  rw[show gb q ns t.1 t.2.1 t.2.2 ki pl [] [] [] [] [] [] [] (rec.1,rec.2.1,rec.2.2.1,rec.2.2.2.1,rec.2.2.2.2) K[s]=_ from w1]
  simp only[go_sem,w3]
theorem YN(ht:iq t)(fd:jl ns)(rec:ak×Int×XS×XS×Int):∀ n i,i<n→i<ns.length→Ie ns t rec.1 i→(∀ x,ns[i]? = some x→x.1=23→0≤(nk t rec.1 x.2.2.2.1).2∧(nk t rec.1 x.2.2.2.1).2<6)→Bd ns t rec i:=by
 intro n;induction n with
 |zero=>intro i h;omega
 |succ n ih=>
  intro i hi hl Hm h23;have hx:ns[i]? = some ns[i]:=by simp[hl]
  have hn:=fd i _ hx;have ae9:=h23 _ hx;obtain⟨_,x',E4,hkc,hcc,hca⟩:=Hm;rw[hx] at E4;obtain rfl:=bta E4;have hf6:=ht.f;have ha4:=ht.a;have Kr:∀ j∈ns[i].2.2.2.2,((j.toNat:Nat):Int)=j∧Bd ns t rec j.toNat:=fun j hj=>by
   have hj2:=hn.cE j hj;refine⟨aMa hj2.1,ih j.toNat (by omega) (by omega) (hkc j hj) fun y hy h23=>?_⟩
   have hkd:kd ns j=23:=by simp only[kd,hy];exact h23
   have gS:(23:Int)∈ns[i].2.2.2.2.map (kd ns):=by rw[←hkd];exact aGa hj
   obtain⟨hk,r,hr⟩:=ab2 hn.shp gS;have NF:ns[i].2.2.2.2.head? = some j∨∃ u,ns[i].2.2.2.2.head? = some u∧kd ns u=23:=by
    cases hK:ns[i].2.2.2.2 with
    |nil=>rw[hK] at hj;cases hj
    |cons u r'=>rw[hK] at hr;simp only[aFa,aHa] at hr;exact .inr ⟨u,rfl,hr.1⟩
   have Zr:Em ns j=y.2.2.2.1:=by simp only[Em,hy]
   have only:ns[i].2.2.2.2.head? = some j:=by
    rcases NF with h|⟨u,hu,LU⟩
    ·exact h
    ·cases hK:ns[i].2.2.2.2 with
     |nil=>rw[hK] at hj;cases hj
     |cons u' r'=>
      rw[hK] at hj hu;simp only[List.head?_cons,OF] at hu;subst hu;rcases aka.1 hj with rfl|hj
      ·rfl
      ·exfalso
       have hs:=hn.shp;rw[hK] at hs;rcases hk with hk|hk
       ·rw[hk] at hs
        simp only[ce,aFa] at hs;simp at hs;have:=hs.2 j hj;rw[hkd] at this;simp[Bc] at this
       ·rw[hk] at hs
        rcases r' with _|⟨b,_|⟨c,r''⟩⟩
        ·cases hj
        ·simp[ce] at hs
         rw[Q7.1 hj] at hkd;rw[hkd] at hs;simp[Bc] at hs
        ·simp[ce] at hs
   rw[←Zr];rcases hk with hk|hk
   ·obtain⟨m,f,m1,m2,_⟩:=nk5 (hcc hk j only)
    have:=(aja.1 m2).1;rw[m1];omega
   ·have:=nk1 (hca hk j only)
    omega
  have Aw:bA ns (i:Int)=some ns[i]:=bj hx;have hlp:=(PQ (t:=t) (rec:=rec) hn.nm.2 Kr ns[i].2.2.2.2.length 0 rfl).jN;have hnk:=ZD ht rec.1 ns[i].2.2.2.1;refine Ev.succ ((hlp.and hnk).mono fun k e ki pl hkp=>?_);obtain⟨e1,e2⟩:=e;cases hnm:(ns[i].2.2.2.1==([]:ak)) with
  |true=>obtain⟨ki',pl',w1,w2⟩:=e1 ki pl hkp;refine⟨ki',pl',?_,w2⟩;have w1:gl (gb k) k k rec.1 rec.2.1 rec.2.2.1 rec.2.2.2.1 rec.2.2.2.2 ns t.1 t.2.1 t.2.2 [] [] [] [] [] [] [] ns[i].2.2.2.2 (ns[i].2.2.2.2.length:Int) ki pl 0=_:=w1;simp only[go_sem,gb,oq,aa,Aw,hnm,w1]
  |false=>obtain⟨y1,Pm⟩:=at_len hkp.k hl;obtain⟨y2,Ko⟩:=at_len hkp.p hl;obtain⟨ki',pl',w1,w2⟩:=e1 (ki.set i (nk t rec.1 ns[i].2.2.2.1).1) (pl.set i (nk t rec.1 ns[i].2.2.2.1).2) (hkp.set hx _ _ ae9);refine⟨ki',pl',?_,w2⟩;have w1:gl (gb k) k k rec.1 rec.2.1 rec.2.2.1 rec.2.2.2.1 rec.2.2.2.2 ns t.1 t.2.1 t.2.2 [] [] [] [] [] [] [] ns[i].2.2.2.2 (ns[i].2.2.2.2.length:Int) (ki.set i (nk t rec.1 ns[i].2.2.2.1).1) (pl.set i (nk t rec.1 ns[i].2.2.2.1).2) 0=_:=w1;simp only[go_sem,gb,oq,aa,Aw,hnm,show fC k (t.1,t.2.1,t.2.2) rec.1 ns[i].2.2.2.1=_ from e2,aya,Pm,Ko,w1]
end
end Go.Fx.R5
namespace Go.Fx.R5
open Go Go.Fx
section
variable {ns:List ey} {t:y4} {D:AS}
theorem Qq(hp:P1 ns t D)(fd:jl ns)(Hm:∀ x∈t.2.2,Ie ns t x.1 x.2.2.2.2.toNat):∀ m s,m+s=t.2.2.length→ct fun q k=>∀ ki pl,KP ns ki pl→
  ∃ ki' pl',oX q k ns t.1 t.2.1 t.2.2 t.2.2 (t.2.2.length:Int) ki pl (s:Int)=some (ki',pl',())∧KP ns ki' pl'
 |0,s,h=>by
  have h2:¬ s<t.2.2.length:=by omega
  exact ct.succ (ct.of fun q k ki pl hkp=>⟨ki,pl,by simp only[go_sem,oX,Q3,h2],hkp⟩)
 |m+1,s,h=>by
  have bq:s<t.2.2.length:=by omega
  have hf6:=hp.ia.f;have hb:=hp.bd _ (aWa bq);have hc:=Hm _ (aWa bq);have hB:=YN hp.ia fd t.2.2[s] (t.2.2[s].2.2.2.2.toNat+1) t.2.2[s].2.2.2.2.toNat (by omega) (by omega) hc (fun x hx h23=>by
   have:kd ns t.2.2[s].2.2.2.2=x.1:=by simp only[kd,hx]
   rw[hb.2.2.1] at this;omega)
  unfold Bd at hB;rw[aMa hb.1] at hB;refine ct.succ ((hB.tZ.and (Qq hp fd Hm m (s+1) (by omega))).mono fun q k e ki pl hkp=>?_)
  obtain⟨ki1,pl1,w1,w2⟩:=e.1 ki pl hkp;obtain⟨ki2,pl2,w3,w4⟩:=e.2 ki1 pl1 w2;refine⟨ki2,pl2,?_,w4⟩;simp only[go_sem,oX,Q3,bq,cX bq,w1,ae (show s<_ by omega),w3]
theorem TL(hp:P1 ns t D)(fd:jl ns)(hl:ns.length≤1401):∀ m s,m+s=t.2.2.length→ct fun q k=>∀ ki pl,UU ns 6 pl→∀(fn:Int) (O En:XI) (H:XB) (E:ES) (la:SPS),FG t.2.2.length 6 O H E→En.length=s→O.length≤s * 8000→E.length≤s * 8000→la.length=ns.length→
  ∃ fn' O' En' H' E' la',oY q k ns t.1 t.2.1 t.2.2 ki pl (t.2.2.length:Int) fn O En H E la (s:Int)=some (fn',O',En',H',E',la',())∧FG t.2.2.length 6 O' H' E'∧O'.length≤48000∧E'.length≤48000
 |0,s,h=>by
  have h2:¬ s<t.2.2.length:=by omega
  have hf6:=hp.ia.f;refine ct.succ (ct.of fun q k ki pl _ fn O En H E la hg hEn hO hE Mj=>⟨fn,O,En,H,E,la,by simp only[go_sem,oY,Q3,h2],hg,by omega,by omega⟩)
 |m+1,s,h=>by
  have bq:s<t.2.2.length:=by omega
  have hf6:=hp.ia.f;have hb:=hp.bd _ (aWa bq);have hw:=hb.2.2.2;have hB:=(XG (nf:=t.2.2.length) (M:=6) (A:=t.1) (G:=t.2.1) (Fs:=t.2.2) fd (t.2.2[s].2.2.2.2.toNat+1) t.2.2[s].2.2.2.2.toNat (by omega) (by omega)).1 (by rw[aMa hb.1];exact hb.2.2.1)
  unfold BFI at hB;rw[aMa hb.1] at hB;refine ct.succ ((hB.tZ.and (TL hp fd hl m (s+1) (by omega))).mono fun q k e ki pl ze fn O En H E la hg hEn hO hE Mj=>?_)
  have f0:(0:Int)≤(s:Int):=by omega
  have f1:(s:Int)<(t.2.2.length:Nat):=by omega
  have hp1:=pR hg (show O.length≤2000000 by omega) (s:Int) false
  have BI:=hg.oe f0 f1 false;have HX:=pR BI (show(O++[(s:Int)]).length≤2000000 by simp;omega) (s:Int) false
  have IR:=BI.oe f0 f1 false;have hen:lA En [(O.length:Int)]=some (En++[(O.length:Int)]):=zp (by omega)
  obtain⟨O1,H1,E1,la1,w1,w2,w3⟩:=e.1 ki pl ze (s:Int) (O++[(s:Int)]++[(s:Int)]) (H++[false]++[false]) E (En++[(O.length:Int)]) la (O.length:Int) ((O++[(s:Int)]).length:Int) IR f0 f1 (by omega) (by simp;omega) Mj (by simp;omega) (by omega)
  have l1:=w2.lo;have l2:=w2.hi;have l3:=w2.eh;simp only[ata,ara,aBa] at l1 l2;have hg3:=w2.fg.y9 (f:=((O++[(s:Int)]).length:Int)) (t:=((O++[(s:Int)]).length:Int)) (k:=6) (n:=-1) (a:=0) (by omega) (by simp;omega) (fun h=>absurd h (by decide))
  obtain⟨EZ,O2,En2,H2,E2,la2,w4,w5,w6,w7⟩:=e.2 ki pl ze (s:Int) O1 (En++[(O.length:Int)]) H1 (E1++[(((O++[(s:Int)]).length:Int),((O++[(s:Int)]).length:Int),6,-1,0)]) la1 hg3 (by simp;omega) (by omega) (by simp;omega) w3
  refine⟨EZ,O2,En2,H2,E2,la2,?_,w5,w6,w7⟩;simp only[go_sem,oY,qX,Q3,bq,hp1,hen,HX,cX bq,w1,sf (show E1.length≤2000000 by omega),ae (show s<_ by omega),w4]
end
theorem Ua{E:ES}{n:Nat}(hE:∀ e∈E,0≤e.1∧e.1<(n:Int))(hl:E.length≤100000)(q:Nat):∀(m s k:Nat) (out:XL),m+s=E.length→m<k→out.length=n→(∀ l∈out,l.length≤s)→∃ PD,oZ q k E (E.length:Int) out (s:Int)=some (PD,())
 |0,s,k+1,out,h,_,ho,hs=>by
  have h2:¬ s<E.length:=by omega
  exact⟨out,by simp only[go_sem,oZ,Q3,h2]⟩
 |m+1,s,k+1,out,h,hk,ho,hs=>by
  have bq:s<E.length:=by omega
  have he:=hE _ (aWa bq);have hi:E[s].1.toNat<out.length:=by omega
  have i1:bA out E[s].1=some out[E[s].1.toNat]:=by have:bA out ((E[s].1.toNat:Nat):Int)=some out[E[s].1.toNat]:=cX hi;rwa[aMa he.1] at this
  have i2:bA out ((E[s].1.toNat:Nat):Int)=some out[E[s].1.toNat]:=cX hi;have hol:=hs _ (aWa hi);have ha:lA out[E[s].1.toNat] [(s:Int)]=some (out[E[s].1.toNat]++[(s:Int)]):=zp (by omega)
  obtain⟨PD,e⟩:=Ua hE hl q m (s+1) k (out.set E[s].1.toNat (out[E[s].1.toNat]++[(s:Int)])) (by omega) (by omega) (by simpa using ho) (fun l hl=>by
   rcases List.mem_or_eq_of_mem_set hl with h|rfl
   ·have:=hs l h;omega
   ·simp;omega)
  refine⟨PD,?_⟩;simp only[go_sem,oZ,Q3,bq,cX bq,i1,i2,ha,b7a,bwa,ae (show s<_ by omega),e]
theorem Xn{c:XB}(hc:c.length=36){a b:Nat}(ha:a<6)(hb:b<6):∃ y,bA c ((a:Int) * 6+(b:Int) * 1)=some y:=by
 obtain⟨y,hy⟩:=at_len (i:=a * 6+b * 1) hc (by omega)
 exact⟨y,by rw[←hy];congr 1⟩
theorem fd0{O:XI}{H:XB}{E:ES}{nf:Nat}(hg:FG nf 6 O H E)(hn:nf≤6)(hl:E.length≤100000)(q:Nat):∀(m s k:Nat) (c:XB),m+s=E.length→m<k→c.length=36→∃ c',ju q k O E (E.length:Int) c (s:Int)=some (c',())∧c'.length=36
 |0,s,k+1,c,h,_,hc=>by
  have h2:¬ s<E.length:=by omega
  exact⟨c,by simp only[go_sem,ju,Q3,h2],hc⟩
 |m+1,s,k+1,c,h,hk,hc=>by
  have bq:s<E.length:=by omega
  have he:=hg.ed _ (aWa bq);cases h5:(E[s].2.2.1==5) with
  |false=>
   obtain⟨c',e1,e2⟩:=fd0 hg hn hl q m (s+1) k c (by omega) (by omega) hc
   exact⟨c',by simp only[go_sem,ju,aa,Q3,bq,cX bq,h5,ae (show s<_ by omega),e1],e2⟩
  |true=>
   have ha:=he.2.2 (bfa.1 h5);have hi:E[s].1.toNat<O.length:=by omega
   have i1:bA O E[s].1=some O[E[s].1.toNat]:=by have:bA O ((E[s].1.toNat:Nat):Int)=some O[E[s].1.toNat]:=cX hi;rwa[aMa he.1] at this
   have ho:=hg.ow _ (aWa hi);generalize O[E[s].1.toNat]=o at *;obtain⟨y,hy⟩:=Xn hc (a:=o.toNat) (b:=E[s].2.2.2.2.toNat) (by omega) (by omega)
   obtain⟨c',e1,e2⟩:=fd0 hg hn hl q m (s+1) k (c.set (o.toNat * 6+E[s].2.2.2.2.toNat * 1) true) (by omega) (by omega) (by simpa using hc)
   refine⟨c',?_,e2⟩;have b1:decide (0≤o)=true:=decide_eq_true ho.1;have b2:decide (o<6)=true:=decide_eq_true (by omega)
   have b3:decide (0≤E[s].2.2.2.2)=true:=decide_eq_true ha.1;have b4:decide (E[s].2.2.2.2<6)=true:=decide_eq_true ha.2;simp only[go_sem,ju,aa,Q3,bq,cX bq,h5,i1,b1,b2,b3,b4,bwa,hy,ae (show s<_ by omega),e1]
theorem fd6{kk i n:Nat}(hk:kk<6)(hi:i<6)(hn:n≤6)(q:Nat):∀(m s k:Nat) (c:XB),m+s=n→m<k→c.length=36→∃ c',fO q k (kk:Int) (i:Int) (n:Int) c (s:Int)=some (c',())∧c'.length=36
 |0,s,k+1,c,h,_,hc=>by
  have h2:¬ s<n:=by omega
  exact⟨c,by simp only[go_sem,fO,Q3,h2],hc⟩
 |m+1,s,k+1,c,h,hm,hc=>by
  have bq:s<n:=by omega
  obtain⟨y1,h1⟩:=Xn hc hi hk;obtain⟨y2,h2⟩:=Xn hc hk (show s<6 by omega)
  obtain⟨y3,h3⟩:=Xn hc hi (show s<6 by omega)
  obtain⟨c1,e1,e2⟩:=fd6 hk hi hn q m (s+1) k c (by omega) (by omega) hc
  obtain⟨c2,e3,e4⟩:=fd6 hk hi hn q m (s+1) k (c.set (i * 6+s * 1) true) (by omega) (by omega) (by simpa using hc)
  have bi:decide ((0:Int)≤(i:Int))=true:=decide_eq_true (by omega)
  have bi6:decide ((i:Int)<6)=true:=decide_eq_true (by omega)
  have bk:decide ((0:Int)≤(kk:Int))=true:=decide_eq_true (by omega)
  have bk6:decide ((kk:Int)<6)=true:=decide_eq_true (by omega)
  have bs:decide ((0:Int)≤(s:Int))=true:=decide_eq_true (by omega)
  have bs6:decide ((s:Int)<6)=true:=decide_eq_true (by omega)
  have U6:fO q (k+1) (kk:Int) (i:Int) (n:Int) c (s:Int)=bif y1 then(bif y2 then fO q k (kk:Int) (i:Int) (n:Int) (c.set (i * 6+s * 1) true) ((s+1:Nat):Int) else fO q k (kk:Int) (i:Int) (n:Int) c ((s+1:Nat):Int)) else fO q k (kk:Int) (i:Int) (n:Int) c ((s+1:Nat):Int):=by simp only[go_sem,fO,aa,Q3,bq,bi,bi6,bk,bk6,bs,bs6,bwa,aya,h1,h2,h3,ae (show s<_ by omega)]
  rw[U6];cases y1 with
  |false=>exact⟨c1,e1,e2⟩
  |true=>cases y2 with
   |false=>exact⟨c1,e1,e2⟩
   |true=>exact⟨c2,e3,e4⟩
theorem fd4{kk n:Nat}(hk:kk<6)(hn:n≤6)(q:Nat)(hq:7≤q):∀(m s k:Nat) (c:XB),m+s=n→m<k→c.length=36→∃ c',kv q k (n:Int) (kk:Int) (n:Int) c (s:Int)=some (c',())∧c'.length=36
 |0,s,k+1,c,h,_,hc=>by
  have h2:¬ s<n:=by omega
  exact⟨c,by simp only[go_sem,kv,Q3,h2],hc⟩
 |m+1,s,k+1,c,h,hm,hc=>by
  have bq:s<n:=by omega
  obtain⟨c1,e1,e2⟩:=fd6 hk (show s<6 by omega) hn q n 0 q c (by omega) (by omega) hc
  obtain⟨c2,e3,e4⟩:=fd4 hk hn q hq m (s+1) k c1 (by omega) (by omega) e2
  have e1:fO q q (kk:Int) (s:Int) (n:Int) c 0=some (c1,()):=e1;exact⟨c2,by simp only[go_sem,kv,Q3,bq,e1,ae (show s<_ by omega),e3],e4⟩
theorem fd2{n:Nat}(hn:n≤6)(q:Nat)(hq:7≤q):∀(m s k:Nat) (c:XB),m+s=n→m<k→c.length=36→∃ c',kr q k (n:Int) (n:Int) c (s:Int)=some (c',())∧c'.length=36
 |0,s,k+1,c,h,_,hc=>by
  have h2:¬ s<n:=by omega
  exact⟨c,by simp only[go_sem,kr,Q3,h2],hc⟩
 |m+1,s,k+1,c,h,hm,hc=>by
  have bq:s<n:=by omega
  obtain⟨c1,e1,e2⟩:=fd4 (show s<6 by omega) hn q hq n 0 q c (by omega) (by omega) hc
  obtain⟨c2,e3,e4⟩:=fd2 hn q hq m (s+1) k c1 (by omega) (by omega) e2
  have e1:kv q q (n:Int) (s:Int) (n:Int) c 0=some (c1,()):=e1;exact⟨c2,by simp only[go_sem,kr,Q3,bq,e1,ae (show s<_ by omega),e3],e4⟩
theorem ads{c:XB}(hc:c.length=36){i n:Nat}(hi:i<n)(hn:n≤6)(q:Nat):∀(m s k:Nat) (d:XB),m+s=n→m<k→d.length=n→∃ d',fZ q k c (i:Int) (n:Int) d (s:Int)=some (d',())∧d'.length=n
 |0,s,k+1,d,h,_,hd=>by
  have h2:¬ s<n:=by omega
  exact⟨d,by simp only[go_sem,fZ,Q3,h2],hd⟩
 |m+1,s,k+1,d,h,hm,hd=>by
  have bq:s<n:=by omega
  obtain⟨y1,h1⟩:=Xn hc (show s<6 by omega) (show s<6 by omega)
  obtain⟨y2,h2⟩:=Xn hc (show s<6 by omega) (show i<6 by omega)
  obtain⟨y3,h3⟩:=at_len hd hi;obtain⟨d1,e1,e2⟩:=ads hc hi hn q m (s+1) k d (by omega) (by omega) hd
  obtain⟨d2,e3,e4⟩:=ads hc hi hn q m (s+1) k (d.set i true) (by omega) (by omega) (by simpa using hd)
  have bi:decide ((0:Int)≤(i:Int))=true:=decide_eq_true (by omega)
  have bi6:decide ((i:Int)<6)=true:=decide_eq_true (by omega)
  have bs:decide ((0:Int)≤(s:Int))=true:=decide_eq_true (by omega)
  have bs6:decide ((s:Int)<6)=true:=decide_eq_true (by omega)
  have U6:fZ q (k+1) c (i:Int) (n:Int) d (s:Int)=bif (y1&&((i:Int)==(s:Int)||y2)) then fZ q k c (i:Int) (n:Int) (d.set i true) ((s+1:Nat):Int) else fZ q k c (i:Int) (n:Int) d ((s+1:Nat):Int):=by
   simp only[go_sem,fZ,aa,Q3,bq,bi,bi6,bs,bs6,bwa,aya,h1,h2,h3,ae (show s<_ by omega)]
   cases y1<;>cases ((i:Int)==(s:Int))<;>rfl
  rw[U6];cases (y1&&((i:Int)==(s:Int)||y2)) with
  |false=>exact⟨d1,e1,e2⟩
  |true=>exact⟨d2,e3,e4⟩
theorem fd8{c:XB}(hc:c.length=36){n:Nat}(hn:n≤6)(q:Nat)(hq:7≤q):∀(m s k:Nat) (d:XB),m+s=n→m<k→d.length=n→∃ d',kw q k (n:Int) c (n:Int) d (s:Int)=some (d',())∧d'.length=n
 |0,s,k+1,d,h,_,hd=>by
  have h2:¬ s<n:=by omega
  exact⟨d,by simp only[go_sem,kw,Q3,h2],hd⟩
 |m+1,s,k+1,d,h,hm,hd=>by
  have bq:s<n:=by omega
  obtain⟨d1,e1,e2⟩:=ads hc bq hn q n 0 q d (by omega) (by omega) hd
  obtain⟨d2,e3,e4⟩:=fd8 hc hn q hq m (s+1) k d1 (by omega) (by omega) e2
  have e1:fZ q q c (s:Int) (n:Int) d 0=some (d1,()):=e1;exact⟨d2,by simp only[go_sem,kw,Q3,bq,e1,ae (show s<_ by omega),e3],e4⟩
theorem Hy{α:Type}(n:Nat)(x:α)(h:n≤1000000):mkl (n:Int) x=some (List.replicate n x):=by
 have h1:decide ((0:Int)≤(n:Int))=true:=decide_eq_true (by omega)
 have h2:decide ((n:Int)≤4294967296)=true:=decide_eq_true (by omega)
 simp only[go_sem,mkl,h1,h2,bwa,aya]
theorem Cw{α:Type}{l:List α}{n:Nat}(h:l.length=n):sub l 0 (n:Int)=some l:=by
 have:=HT (l:=l) (m:=0) (n:=n) (by omega) (by omega)
 rw[show(0:Int)=((0:Nat):Int) from rfl,this,←h,List.take_length];rfl
theorem Pf{F:FS}{O:XI}{H:XB}{E:ES}(hg:FG F.length 6 O H E)(hn:F.length≤6)(hl:E.length≤100000){k:Nat}(hk:200000≤k):∃ d,uQ k F O E=some (d,()):=by
 obtain⟨c1,e1,e2⟩:=fd0 hg hn hl k E.length 0 k (List.replicate 36 false) (by omega) (by omega) (by simp)
 obtain⟨c2,e3,e4⟩:=fd2 hn k (by omega) F.length 0 k c1 (by omega) (by omega) e2
 obtain⟨d,e5,e6⟩:=fd8 e4 hn k (by omega) F.length 0 k (List.replicate F.length false) (by omega) (by omega) (by simp)
 have e1:ju k k O E (E.length:Int) (List.replicate 36 false) 0=_:=e1;have e3:kr k k (F.length:Int) (F.length:Int) c1 0=_:=e3;have e5:kw k k (F.length:Int) c2 (F.length:Int) (List.replicate F.length false) 0=_:=e5;exact⟨d,by simp only[go_sem,uQ,e1,e3,Hy F.length false (by omega),Cw (baa (n:=F.length) (a:=false)),e5]⟩
section
variable {ns:List ey} {t:y4} {D:AS}
theorem X3(hp:P1 ns t D)(fd:jl ns)(Hm:∀ x∈t.2.2,Ie ns t x.1 x.2.2.2.2.toNat)(hl:ns.length≤1401):Ev fun k=>∀ bV,pe k bV=some (ns,(0,0),())→iQ k ns=some (t,(0,0),())→
  ∃ ki pl O En H E la out d,sD k bV=some (.inl (ns,t.1,t.2.1,t.2.2,ki,pl,O,En,H,E,la,out,d,(0,0),())):=by
 have hf6:=hp.ia.f;refine((Qq hp fd Hm t.2.2.length 0 rfl).jN.and ((TL hp fd hl t.2.2.length 0 rfl).jN.and (⟨200000,fun k hk=>hk⟩:Ev fun k=>200000≤k))).mono fun k e bV hT hN=>?_;obtain⟨e1,e2,hk⟩:=e;have h0:KP ns (List.replicate ns.length 0) (List.replicate ns.length 0):=⟨by simp,by simp,fun j x hj _=>⟨0,by
  have:=(aja.1 hj).1;simp[this],by omega,by omega⟩⟩
 obtain⟨ki,pl,w1,w2⟩:=e1 _ _ h0;obtain⟨fn,O,En,H,E,la,w3,w4,w5,w6⟩:=e2 ki pl w2.o 0 [] [] [] [] (List.replicate ns.length (0,0,0,0)) ⟨rfl,by simp,by simp⟩ rfl (by simp) (by simp) (by simp)
 obtain⟨out,w7⟩:=Ua (n:=O.length) (fun e he=>⟨(w4.ed e he).1,(w4.ed e he).2.1⟩) (by omega) k E.length 0 k (List.replicate O.length []) (by omega) (by omega) (by simp) (by simp)
 obtain⟨d,w8⟩:=Pf w4 hf6 (by omega) hk
 have w1:oX k k ns t.1 t.2.1 t.2.2 t.2.2 (t.2.2.length:Int) (List.replicate ns.length 0) (List.replicate ns.length 0) 0=_:=w1;have w3:oY k k ns t.1 t.2.1 t.2.2 ki pl (t.2.2.length:Int) 0 [] [] [] [] (List.replicate ns.length (0,0,0,0)) 0=_:=w3;have w7:oZ k k E (E.length:Int) (List.replicate O.length []) 0=_:=w7;refine⟨ki,pl,O,En,H,E,la,out,d,?_⟩;simp only[go_sem,sD,hT,hN,Hy ns.length (0:Int) (by omega),Cw (baa (n:=ns.length) (a:=(0:Int))),w1,Hy ns.length ((0,0,0,0):Int×Int×Int×Int) (by omega),Cw (baa (n:=ns.length) (a:=((0,0,0,0):Int×Int×Int×Int))),w3,Hy O.length ([]:XI) (by omega),Cw (baa (n:=O.length) (a:=([]:XI))),w7,w8]
end
end Go.Fx.R5
namespace Go.Fx.R5
open Go Go.Fx
theorem aeC{ns:List ey}(hl:ns.length≤1000000)(q:Nat):∀(m s k:Nat) (fr to:XI),m+s=ns.length→m<k→fr.length=s→to.length=s→∃ Qd to',n9 q k ns fr to (s:Int)=some (Qd,to',())∧Qd.length=ns.length∧to'.length=ns.length
 |0,s,k+1,fr,to,h,_,hf,ht=>by
  have h2:¬ s<ns.length:=by omega
  exact⟨fr,to,by simp only[go_sem,n9,Q3,h2],by omega,by omega⟩
 |m+1,s,k+1,fr,to,h,hk,hf,ht=>by
  have bq:s<ns.length:=by omega
  obtain⟨Qd,to',e1,e2,e3⟩:=aeC hl q m (s+1) k (fr++[-1]) (to++[-1]) (by omega) (by omega) (by simp;omega) (by simp;omega)
  exact⟨Qd,to',by simp only[go_sem,n9,Q3,bq,zp (show fr.length≤2000000 by omega),zp (show to.length≤2000000 by omega),ae (show s<_ by omega),e1],e2,e3⟩
section
variable {ns:List ey} {t:y4} {D:AS}
theorem aeD(hp:P1 ns t D)(fd:jl ns)(Hm:∀ x∈t.2.2,Ie ns t x.1 x.2.2.2.2.toNat)(hl:ns.length≤1401):∀ m s,m+s=t.2.2.length→ct fun q k=>∀(fn:Int) (O En:XI) (H:XB) (E:ES) (fr to:XI),FG t.2.2.length t.2.2.length O H E→En.length=s→O.length≤s * 8000→E.length≤s * 8000→fr.length=ns.length→to.length=ns.length→
  ∃ fn' O' En' H' E' Qd to',oa q k t.2.2 t.1 t.2.1 t.2.2 ns fn O En H E fr to (s:Int)=some (fn',O',En',H',E',Qd,to',())∧FG t.2.2.length t.2.2.length O' H' E'∧E'.length≤48000∧En'.length=t.2.2.length
 |0,s,h=>by
  have h2:¬ s<t.2.2.length:=by omega
  have hf6:=hp.ia.f;refine ct.succ (ct.of fun q k fn O En H E fr to hg hEn hO hE sU JC=>⟨fn,O,En,H,E,fr,to,by simp only[go_sem,oa,Q3,h2],hg,by omega,by omega⟩)
 |m+1,s,h=>by
  have bq:s<t.2.2.length:=by omega
  have hf6:=hp.ia.f;have hb:=hp.bd _ (aWa bq);have hw:=hb.2.2.2;have hB:=(XH (nf:=t.2.2.length) (nmf:=t.2.2[s].1) hp.ia fd (t.2.2[s].2.2.2.2.toNat+1) t.2.2[s].2.2.2.2.toNat (by omega) (by omega) (Hm _ (aWa bq))).1 (by rw[aMa hb.1];exact hb.2.2.1)
  unfold BFS at hB;rw[aMa hb.1] at hB;refine ct.succ ((hB.tZ.and (aeD hp fd Hm hl m (s+1) (by omega))).mono fun q k e fn O En H E fr to hg hEn hO hE sU JC=>?_)
  have f0:(0:Int)≤(s:Int):=by omega
  have f1:(s:Int)<(t.2.2.length:Nat):=by omega
  have hp1:=qK hg (show O.length≤2000000 by omega) (s:Int) false
  have BI:=hg.oe f0 f1 false;have HX:=qK BI (show(O++[(s:Int)]).length≤2000000 by simp;omega) (s:Int) false
  have IR:=BI.oe f0 f1 false;have hen:lA En [(O.length:Int)]=some (En++[(O.length:Int)]):=zp (by omega)
  obtain⟨O1,H1,E1,fr1,to1,w1,w2,w3,w3'⟩:=e.1 (s:Int) (O++[(s:Int)]++[(s:Int)]) (H++[false]++[false]) E (En++[(O.length:Int)]) fr to (O.length:Int) ((O++[(s:Int)]).length:Int) IR f0 f1 (by omega) (by simp;omega) sU JC (by simp;omega) (by omega)
  have l1:=w2.lo;have l2:=w2.hi;have l3:=w2.eh;simp only[ata,ara,aBa] at l1 l2;have hg3:=w2.fg.y9 (f:=((O++[(s:Int)]).length:Int)) (t:=((O++[(s:Int)]).length:Int)) (k:=6) (n:=-1) (a:=0) (by omega) (by simp;omega) (fun h=>absurd h (by decide))
  obtain⟨EZ,O2,En2,H2,E2,fr2,C9,w4,w5,w6,w7⟩:=e.2 (s:Int) O1 (En++[(O.length:Int)]) H1 (E1++[(((O++[(s:Int)]).length:Int),((O++[(s:Int)]).length:Int),6,-1,0)]) fr1 to1 hg3 (by simp;omega) (by omega) (by simp;omega) w3 w3'
  refine⟨EZ,O2,En2,H2,E2,fr2,C9,?_,w5,w6,w7⟩;simp only[go_sem,oa,Q3,bq,hp1,hen,HX,cX bq,w1,tR (show E1.length≤2000000 by omega),ae (show s<_ by omega),w4]
end
section
variable {O En:XI} {H:XB} {E:ES}
theorem UX{α:Type}{l:List α}{v:Int}(h0:0≤v)(h1:v<l.length):∃ y,bA l v=some y∧bA l ((v.toNat:Nat):Int)=some y:=by
 obtain⟨y,hy⟩:=at_len (l:=l) (i:=v.toNat) rfl (by omega)
 exact⟨y,by rw[←hy,aMa h0],hy⟩
theorem VC{n:Nat}(hg:FG n n O H E)(hl:E.length≤100000)(fn:Int)(q:Nat):∀(m s k:Nat) (r:XB),m+s=E.length→m<k→r.length=n→∃ r',gG q k O E fn r (s:Int)=some (r',())∧r'.length=n
 |0,s,k+1,r,h,_,hr=>by
  have h2:¬ s<E.length:=by omega
  exact⟨r,by simp only[go_sem,gG,Q3,h2],hr⟩
 |m+1,s,k+1,r,h,hk,hr=>by
  have bq:s<E.length:=by omega
  have he:=hg.ed _ (aWa bq);obtain⟨r1,e1,e2⟩:=VC hg hl fn q m (s+1) k r (by omega) (by omega) hr
  cases h5:(E[s].2.2.1==5) with
  |false=>exact⟨r1,by simp only[go_sem,gG,aa,Q3,bq,cX bq,h5,ae (show s<_ by omega),e1],e2⟩
  |true=>
   have ha:=he.2.2 (bfa.1 h5);obtain⟨o,o1,o2⟩:=UX (l:=O) he.1 he.2.1;have hom:o∈O:=by
    simp only[go_sem,bA,aya,show decide (0≤((E[s].1.toNat:Nat):Int))=true from decide_eq_true (by omega)] at o2
    exact aZa o2
   have ho:=hg.ow o hom;obtain⟨b,b1,b2⟩:=UX (l:=r) (v:=o) ho.1 (by omega)
   obtain⟨c,c1,c2⟩:=UX (l:=r) (v:=E[s].2.2.2.2) ha.1 (by omega)
   obtain⟨r2,e3,e4⟩:=VC hg hl fn q m (s+1) k (r.set E[s].2.2.2.2.toNat true) (by omega) (by omega) (by simpa using hr)
   have U6:gG q (k+1) O E fn r (s:Int)=bif (o==fn||b) then gG q k O E fn (r.set E[s].2.2.2.2.toNat true) ((s+1:Nat):Int) else gG q k O E fn r ((s+1:Nat):Int):=by
    simp only[go_sem,gG,aa,Q3,bq,cX bq,h5,o1,b1,b2,c1,c2,ae (show s<_ by omega)]
    cases (o==fn)<;>rfl
   rw[U6];cases (o==fn||b) with
   |false=>exact⟨r1,e1,e2⟩
   |true=>exact⟨r2,e3,e4⟩
theorem aat{n:Nat}(hg:FG n n O H E)(hn:n≤6)(hEn:En.length=n)(hl:E.length≤100000)(fn:Int)(q:Nat)(hq:100001≤q):∀(m s k:Nat) (r:XB),m+s=n→m<k→r.length=n→∃ r',lV q k O En E fn r (s:Int)=some (r',())∧r'.length=n
 |0,s,k+1,r,h,_,hr=>by
  have h2:¬ s<En.length:=by omega
  exact⟨r,by simp only[go_sem,lV,Q3,h2],hr⟩
 |m+1,s,k+1,r,h,hk,hr=>by
  have bq:s<En.length:=by omega
  obtain⟨r1,e1,e2⟩:=VC hg hl fn q E.length 0 q r (by omega) (by omega) hr
  obtain⟨r2,e3,e4⟩:=aat hg hn hEn hl fn q hq m (s+1) k r1 (by omega) (by omega) e2
  have e1:gG q q O E fn r 0=_:=e1;exact⟨r2,by simp only[go_sem,lV,Q3,bq,e1,ae (show s<_ by omega),e3],e4⟩
theorem Uj{n:Nat}(hg:FG n n O H E)(hn:n≤6)(hEn:En.length=n)(hl:E.length≤100000)(fn:Int){k:Nat}(hk:100001≤k):∃ r,xl k (O,En,H,E) fn=some (r,())∧r.length=n:=by
 obtain⟨r,e1,e2⟩:=aat hg hn hEn hl fn k hk n 0 k (List.replicate n false) (by omega) (by omega) (by simp)
 have e1:lV k k O En E fn (List.replicate n false) 0=_:=e1;exact⟨r,by simp only[go_sem,xl,hEn,Hy n false (by omega),Cw (baa (n:=n) (a:=false)),e1],e2⟩
theorem mE{n:Nat}{r:XB}(hr:r.length=n)(hn:n≤6)(q:Nat):∀(m s k:Nat) (d:XB),m+s=n→m<k→d.length=n→∃ d',mW q k r d (s:Int)=some (d',())∧d'.length=n
 |0,s,k+1,d,h,_,hd=>by
  have h2:¬ s<r.length:=by omega
  exact⟨d,by simp only[go_sem,mW,Q3,h2],hd⟩
 |m+1,s,k+1,d,h,hk,hd=>by
  have bq:s<r.length:=by omega
  obtain⟨y,hy⟩:=at_len (l:=d) hd (show s<n by omega)
  obtain⟨z,hz⟩:=at_len (l:=r) hr (show s<n by omega)
  obtain⟨d1,e1,e2⟩:=mE hr hn q m (s+1) k (d.set s (y||z)) (by omega) (by omega) (by simpa using hd)
  refine⟨d1,?_,e2⟩;rw[←e1];simp only[go_sem,mW,aa,Q3,bq,aya,hy,hz,ae (show s<_ by omega)]
  cases y<;>rfl
theorem YV{n:Nat}(hg:FG n n O H E)(hn:n≤6)(hEn:En.length=n)(hl:E.length≤100000)(q:Nat)(hq:100001≤q):∀(m s k:Nat) (d:XB),m+s=n→m<k→d.length=n→∃ d',iV q k O En H E d (s:Int)=some (d',())∧d'.length=n
 |0,s,k+1,d,h,_,hd=>by
  have h2:¬ s<En.length:=by omega
  exact⟨d,by simp only[go_sem,iV,Q3,h2],hd⟩
 |m+1,s,k+1,d,h,hk,hd=>by
  have bq:s<En.length:=by omega
  obtain⟨r,e1,e2⟩:=Uj hg hn hEn hl (s:Int) hq;obtain⟨x,hx⟩:=at_len (l:=r) e2 (show s<n by omega)
  obtain⟨y,hy⟩:=at_len (l:=d) hd (show s<n by omega)
  obtain⟨d1,e3,e4⟩:=mE e2 hn q n 0 q (d.set s true) (by omega) (by omega) (by simpa using hd)
  have e3:mW q q r (d.set s true) 0=_:=e3;obtain⟨d2,e5,e6⟩:=YV hg hn hEn hl q hq m (s+1) k d (by omega) (by omega) hd
  obtain⟨d3,e7,e8⟩:=YV hg hn hEn hl q hq m (s+1) k d1 (by omega) (by omega) e4
  have U6:iV q (k+1) O En H E d (s:Int)=bif x then iV q k O En H E d1 ((s+1:Nat):Int) else iV q k O En H E d ((s+1:Nat):Int):=by
   simp only[go_sem,iV,aa,Q3,bq,e1,hx,hy,aya,e3,ae (show s<_ by omega)]
   cases x<;>rfl
  rw[U6];cases x with
  |false=>exact⟨d2,e5,e6⟩
  |true=>exact⟨d3,e7,e8⟩
end
section
variable {ns:List ey} {t:y4} {D:AS}
theorem Ye(hp:P1 ns t D)(fd:jl ns)(Hm:∀ x∈t.2.2,Ie ns t x.1 x.2.2.2.2.toNat)(hl:ns.length≤1401):Ev fun k=>∀ bV,gF k bV=some (ns,(0,0),())→fk k bV=some (t,(0,0),())→
  ∃ O En H E d,qL k bV=some (.inl (t.1,t.2.1,t.2.2,ns,O,En,H,E,d,true,())):=by
 have hf6:=hp.ia.f;refine((aeD hp fd Hm hl t.2.2.length 0 rfl).jN.and (⟨200000,fun k hk=>hk⟩:Ev fun k=>200000≤k)).mono fun k e bV hT hN=>?_;obtain⟨e2,hk⟩:=e;obtain⟨fr,to,w1,w2,w3⟩:=aeC (ns:=ns) (by omega) k ns.length 0 k [] [] rfl (by omega) rfl rfl
 obtain⟨fn,O,En,H,E,Qd,to',w4,w5,w6,w7⟩:=e2 0 [] [] [] [] fr to ⟨rfl,by simp,by simp⟩ rfl (by simp) (by simp) w2 w3
 obtain⟨d,w8,_⟩:=YV w5 hf6 w7 (by omega) k (by omega) t.2.2.length 0 k (List.replicate t.2.2.length false) (by omega) (by omega) (by simp)
 have w1:n9 k k ns [] [] 0=_:=w1;have w4:oa k k t.2.2 t.1 t.2.1 t.2.2 ns 0 [] [] [] [] fr to 0=_:=w4;have w8:iV k k O En H E (List.replicate t.2.2.length false) 0=_:=w8;refine⟨O,En,H,E,d,?_⟩;simp only[go_sem,qL,hN,hT,HN,HM,w1,w4,EP,w7,Hy t.2.2.length false (by omega),Cw (baa (n:=t.2.2.length) (a:=false)),w8]
end
theorem X2(bV:ak):(∃ c p,c≠0∧Ev fun k=>fk k bV=some (([],[],[]),(c,p),())∧sD k bV=some (.inr ((c,p),())))∨
  ∃ ns t D,UW ns∧P1 ns t D∧Ev fun k=>(gF k bV=some (ns,(0,0),())∧fk k bV=some (t,(0,0),()))∧
   (∃ ki pl O En H E la out d,sD k bV=some (.inl (ns,t.1,t.2.1,t.2.2,ki,pl,O,En,H,E,la,out,d,(0,0),())))∧∃ O En H E d,qL k bV=some (.inl (t.1,t.2.1,t.2.2,ns,O,En,H,E,d,true,())):=by
 rcases Vw bV with ⟨ns,hT,he⟩|⟨c,p,hc,he⟩
 ·rcases VR hT with ⟨c,p,hc,hN⟩|⟨t,D,hp,Hm,hN⟩
  ·refine .inl ⟨c,p,hc,(he.and hN).mono fun k e=>⟨e.2.2 bV e.1.1,?_⟩⟩
   simp only[go_sem,sD,e.1.2,e.2.1,aYa.2 hc]
  ·have hl:ns.length≤1401:=hT.len
   refine .inr ⟨ns,t,D,hT,hp,((he.and hN).and ((X3 hp hT.all Hm hl).and (Ye hp hT.all Hm hl))).mono fun k e=>?_⟩;obtain⟨⟨⟨e1,e2⟩,e3,e4⟩,e5,e6⟩:=e;exact⟨⟨e1,e4 bV e1⟩,e5 bV e2 e3,e6 bV e1 (e4 bV e1)⟩
 ·refine .inl ⟨c,p,hc,he.mono fun k e=>⟨by simp only[go_sem,fk,e.1,aYa.2 hc],?_⟩⟩
  simp only[go_sem,sD,e.2,aYa.2 hc]
end Go.Fx.R5
namespace Go.Fx.R5
open Go Go.Fx
abbrev VL4:=XQ
abbrev RVL:=List (Bool×XI×Int×Int×Int×Int)
def Ip:Int×Int×Int×Int:=(-2147483648,2147483647,1,0)
theorem PN(q n:Nat)(hn:n≤1000):∀(m s k:Nat),m+s=n→m<k→lK q k (n:Int) (List.replicate s Ip) (s:Int)=some (List.replicate n Ip,())
 |0,s,k+1,h,_=>by
  have h2:¬ s<n:=by omega
  obtain rfl:s=n:=by omega
  simp only[go_sem,lK,Q3,h2]
 |m+1,s,k+1,h,hk=>by
  have bq:s<n:=by omega
  simp only[go_sem,lK,EM,Q3,bq,pZ (show(List.replicate s Ip).length+[((-2147483648:Int),(2147483647:Int),(1:Int),(0:Int))].length≤4294967296 by simp;omega),ae (show s<_ by omega)]
  rw[show List.replicate s Ip++[((-2147483648:Int),(2147483647:Int),(1:Int),(0:Int))]=List.replicate (s+1) Ip from(cva ..).symm]
  exact PN q n hn m (s+1) k (by omega) (by omega)
theorem V3{n:Nat}(hn:n≤1000){k:Nat}(hk:1001≤k):tU k (n:Int)=some (List.replicate n Ip,()):=by
 have e:lK k k (n:Int) [] 0=_:=PN k n hn n 0 k rfl (by omega)
 simp only[go_sem,tU,e]
theorem SS(q n:Nat)(hn:n≤1000):∀(m s k:Nat),m+s=n→m<k→jR q k (n:Int) (List.replicate s Ip++List.replicate m (0,0,0,0)) (s:Int)=some (List.replicate n Ip,())
 |0,s,k+1,h,_=>by
  have h2:¬ s<n:=by omega
  obtain rfl:s=n:=by omega
  simp only[go_sem,jR,Q3,h2,List.replicate_zero,a9a]
 |m+1,s,k+1,h,hk=>by
  have bq:s<n:=by omega
  have hl:s<(List.replicate s Ip++List.replicate (m+1) ((0,0,0,0):Int×Int×Int×Int)).length:=by simp
  have Kn:(List.replicate s Ip++List.replicate (m+1) ((0,0,0,0):Int×Int×Int×Int)).set s (-2147483648,2147483647,1,0)=List.replicate (s+1) Ip++List.replicate m (0,0,0,0):=by rw[List.set_append_right _ _ (by simp),baa,Nat.sub_self,List.replicate_succ,List.set_cons_zero,cva,a1a];rfl
  simp only[go_sem,jR,D9,Q3,bq,cX hl,aya,Kn,ae (show s<_ by omega)]
  exact SS q n hn m (s+1) k (by omega) (by omega)
theorem YJ{n:Nat}(hn:n≤1000){k:Nat}(hk:1001≤k):qa k (n:Int)=some (List.replicate n Ip,()):=by
 have e:jR k k (n:Int) (List.replicate n (0,0,0,0)) 0=_:=SS k n hn n 0 k rfl (by omega)
 simp only[go_sem,qa,Hy n ((0,0,0,0):Int×Int×Int×Int) (by omega),Cw (baa (n:=n) (a:=((0,0,0,0):Int×Int×Int×Int))),baa,e]
def XK(n:Nat):XI:=(List.range ((n+1) * (n+1))).map fun i=>if i / (n+1)=i % (n+1) then 0 else 1099511627776
theorem Zb(k:Nat):∀ n:Nat,n≤12→xi (k+20) (n:Int)=some (((n:Int),XK n),())∧wP (k+20) (n:Int)=some ((n:Int),XK n,()):=fun n hn=>by
 have h1:((List.range 13).map fun n=>xi (k+20) ((n:Nat):Int))=(List.range 13).map fun n:Nat=>some ((((n:Nat):Int),XK n),()):=by kernel_rfl
 have h2:((List.range 13).map fun n=>wP (k+20) ((n:Nat):Int))=(List.range 13).map fun n:Nat=>some (((n:Nat):Int),XK n,()):=by kernel_rfl
 have h1:=bGa (·[n]?) h1
 have h2:=bGa (·[n]?) h2
 simp only[bIa,List.getElem?_range (show n<13 by omega),bBa,OF] at h1 h2
 exact⟨h1,h2⟩
theorem MI(q:Nat)(A:AS)(hA:A.length≤4)(hz:∀ x∈A,1≤x.2∧x.2≤64):∀(m s k:Nat) (w:XI) (z:Int),m+s=A.length→m<k→w.length=s→0≤z→z≤64→(0<s→1≤z)→
  ∃(w':XI) (z':Int),jB q k A w z (s:Int)=some (w',z',())∧iH q k A (A.length:Int) w z (s:Int)=some (w',z',())∧w'.length=A.length∧0≤z'∧z'≤64∧(0<A.length→1≤z')
 |0,s,k+1,w,z,h,_,hw,h0,h1,h2=>by
  have h3:¬ s<A.length:=by omega
  exact⟨w,z,by simp only[go_sem,jB,Q3,h3],by simp only[go_sem,iH,Q3,h3],by omega,h0,h1,fun h=>h2 (by omega)⟩
 |m+1,s,k+1,w,z,h,hk,hw,h0,h1,h2=>by
  have bq:s<A.length:=by omega
  obtain⟨z1,z2⟩:=hz _ (aWa bq);have za:lA w [(s:Int)]=some (w++[(s:Int)]):=pZ (by simp;omega)
  by_cases hg:A[s].2 > z
  ·have IR:¬ z > A[s].2:=by omega
   obtain⟨w',z',e1,e2,e3⟩:=MI q A hA hz m (s+1) k (w++[(s:Int)]) A[s].2 (by omega) (by omega) (by simp;omega) (by omega) z2 (fun _=>z1)
   exact⟨w',z',by simp only[go_sem,jB,qp,Q3,bq,cX bq,za,IR,ae (show s<_ by omega),e1],by simp only[go_sem,iH,Q3,bq,cX bq,za,hg,ae (show s<_ by omega),e2],e3⟩
  ·obtain⟨w',z',e1,e2,e3⟩:=MI q A hA hz m (s+1) k (w++[(s:Int)]) z (by omega) (by omega) (by simp;omega) h0 h1 (fun _=>by omega)
   have agJ:qp z A[s].2=some (z,()):=by
    by_cases IR:z > A[s].2
    ·simp only[go_sem,qp,IR]
    ·have:A[s].2=z:=by omega
     simp only[go_sem,qp,bqa IR];rw[this]
   exact⟨w',z',by simp only[go_sem,jB,agJ,Q3,bq,cX bq,za,ae (show s<_ by omega),e1],by simp only[go_sem,iH,Q3,bq,cX bq,za,hg,ae (show s<_ by omega),e2],e3⟩
theorem acf{n:Int}(h1:1≤n)(h2:n≤64):Cp n=some ((0,n,1,0),())∧wU 0 n=some ((0,n,1,0),()):=by
 have a1:¬ (0:Int) > n:=by omega
 have a2:n<2147483647:=by omega
 have a3:((0:Int)==n)=false:=Q6.2 (by omega)
 have a4:cm (n - 0)=n:=by rw[Int.sub_zero];exact dT (by omega) (by omega)
 have a5:(0:Int)≤n:=by omega
 have a6:n≥-2147483648:=by omega
 have a7:n≤2147483647:=by omega
 have a8:¬ (2147483647:Int)<n:=by omega
 have b1:cm ((0:Int) - 0)=0:=rfl;have b2:cm ((0:Int)+0)=0:=rfl;have b3:cm ((1:Int) - 1)=0:=rfl;have b4:decide ((0:Int) > -2147483648)=true:=rfl;have b5:decide ((-2147483648:Int) > 0)=false:=rfl;have b6:decide ((0:Int)≥-2147483648)=true:=rfl;have b7:decide ((0:Int)≤2147483647)=true:=rfl;have b8:((0:Int)==1)=false:=rfl;have b9:((1:Int)==0)=false:=rfl;have c1:decide ((1:Int)=0)=false:=rfl;have c2:decide ((0:Int)<0)=false:=rfl;have c3:decide ((1:Int)≥1)=true:=rfl;have c4:decide ((1:Int)≤65536)=true:=rfl;have c5:decide ((0:Int)≥0)=true:=rfl;have c6:decide ((0:Int)≤0)=true:=rfl;have c7:decide ((0:Int)<1)=true:=rfl;constructor
 ·simp only[go_sem,Cp,HO,qp,HP,HQ,Co,xj,EL,yX,my,vG,Cq,aa,a1,a2,a3,a4,a5,a6,a7,b1,b2,b3,b4,b6,b7,b8,b9,c1,c2,c3,c4,c5,c6,cBa,Int.tmod_one]
 ·simp only[go_sem,wU,yd,Ca,B8,wQ,D8,xZ,tm,uA,wT,aa,a1,a3,a4,a5,a6,a7,a8,b1,b2,b5,b6,b7,b8,b9,c1,c2,c3,c4,c5,c7,cBa,Int.tmod_one]
def SN(w:RVL):Prop:=∀ x∈w,x.2.1.length≤4
theorem Ou(q:Nat)(hq:10≤q)(A:AS)(hA:A.length≤4)(hz:∀ x∈A,1≤x.2∧x.2≤64)(F:FS)(fn:Int)(f:ak×Int×XS×XS×Int)(hf:bA F fn=some f)(hr:f.2.2.2.1.length≤3):
  ∀(m s k:Nat) (w:RVL),m+s=f.2.2.2.1.length→m<k→w.length=s→SN w→
  ∃ w':RVL,jA q k A F fn w (s:Int)=some (w',())∧iG q k A (f.2.2.2.1.length:Int) w (s:Int)=some (w',())∧w'.length≤3∧SN w'
 |0,s,k+1,w,h,_,hw,ho=>by
  have h3:¬ s<f.2.2.2.1.length:=by omega
  exact⟨w,by simp only[go_sem,jA,hf,Q3,h3],by simp only[go_sem,iG,Q3,h3],by omega,ho⟩
 |m+1,s,k+1,w,h,hk,hw,ho=>by
  have bq:s<f.2.2.2.1.length:=by omega
  obtain⟨w1,z1,e1,e2,e3,e4,e5,e6⟩:=MI q A hA hz A.length 0 q [] 0 rfl (by omega) rfl (by omega) (by omega) (fun h=>absurd h (by omega))
  have e1:jB q q A [] 0 0=_:=e1;have e2:iH q q A (A.length:Int) [] 0 0=_:=e2;have za:∀ x:Bool×XI×Int×Int×Int×Int,lA w [x]=some (w++[x]):=fun x=>pZ (by simp;omega)
  have ae3:decide ((w1.length:Int) > 0)=decide (z1 > 0):=by
   by_cases h0:0<A.length
   ·have:=e6 h0
    rw[decide_eq_true (show(w1.length:Int) > 0 by omega),decide_eq_true (show z1 > 0 by omega)]
   ·have XU:A=[]:=cja.1 (by omega)
    subst XU;obtain⟨q',rfl⟩:∃ j,q=j+1:=⟨q - 1,by omega⟩
    have:some (([]:XI),(0:Int),())=some (w1,z1,()):=e1;cases this;rfl
  have Av:∀ x:Bool×XI×Int×Int×Int×Int,x.2.1.length≤4→SN (w++[x]):=fun x hx y hy=>by
   rcases ala.1 hy with hy|hy
   ·exact ho y hy
   ·rw[Q7.1 hy];exact hx
  cases hc:decide (z1 > 0) with
  |true=>
   obtain⟨v1,v2⟩:=acf (n:=z1) (by have:=of_decide_eq_true hc;omega) e5
   obtain⟨w',g1,g2,g3⟩:=Ou q hq A hA hz F fn f hf hr m (s+1) k (w++[(true,w1,0,z1,1,0)]) (by omega) (by omega) (by simp;omega) (Av _ (show w1.length≤4 by omega))
   exact⟨w',by simp only[go_sem,jA,pj,aa,hf,Q3,bq,e1,hc,v1,za,ae (show s<_ by omega),g1],by simp only[go_sem,iG,wS,o7,aa,Q3,bq,e2,ae3,hc,v2,za,ae (show s<_ by omega),g2],g3⟩
  |false=>
   obtain⟨w',g1,g2,g3⟩:=Ou q hq A hA hz F fn f hf hr m (s+1) k (w++[(true,w1,1,0,0,0)]) (by omega) (by omega) (by simp;omega) (Av _ (show w1.length≤4 by omega))
   exact⟨w',by simp only[go_sem,jA,pj,aa,hf,Q3,bq,e1,hc,za,ae (show s<_ by omega),g1],by simp only[go_sem,iG,wS,o7,aa,Q3,bq,e2,ae3,hc,za,ae (show s<_ by omega),g2],g3⟩
abbrev Yt:=Bool×VL4×RVL×VL4×Int×XI
structure SC(a:Yt):Prop where
 i:a.2.1.length≤100
 r:a.2.2.1.length≤3∧SN a.2.2.1
 c:a.2.2.2.1.length≤100
 d:a.2.2.2.2.2.length≤169
theorem aaU{t:y4}(ht:iq t){fn:Int}(h0:0≤fn)(h1:fn<t.2.2.length){k:Nat}(hk:2000≤k):∃ a:Yt,SC a∧uW k t.1 t.2.1 t.2.2 fn=some (a,())∧
  tg k t.1 t.2.1 t.2.2 fn=some (a.1,a.2.1,a.2.2.1,a.2.2.2.1,a.2.2.2.2.1,a.2.2.2.2.2,()):=by
 have bq:fn.toNat<t.2.2.length:=by omega
 have hf:bA t.2.2 fn=some t.2.2[fn.toNat]:=by rw[←cX bq,aMa h0]
 generalize hF:t.2.2[fn.toNat]=f at hf;obtain⟨i1,i2,_⟩:=ht.i f (hF ▸ aWa bq);have hg:=ht.g;have ha:=ht.a;obtain⟨w,g1,g2,g3,g4⟩:=Ou k (by omega) t.1 ha ht.z t.2.2 fn f hf i2 f.2.2.2.1.length 0 k [] rfl (by omega) rfl (fun x hx=>by cases hx)
 have g1:jA k k t.1 t.2.2 fn [] 0=_:=g1;have g2:iG k k t.1 (f.2.2.2.1.length:Int) [] 0=_:=g2;have hn:cm ((t.2.1.length:Int)+(f.2.2.1.length:Int))=((t.2.1.length+f.2.2.1.length:Nat):Int):=by rw[dT (by omega) (by omega)];omega
 obtain⟨k',rfl⟩:∃ j,k=j+20:=⟨k - 20,by omega⟩
 obtain⟨p1,p2⟩:=Zb k' (t.2.1.length+f.2.2.1.length) (by omega)
 refine⟨(true,List.replicate (t.2.1.length+f.2.2.1.length) Ip,w,List.replicate t.1.length Ip,((t.2.1.length+f.2.2.1.length:Nat):Int),XK (t.2.1.length+f.2.2.1.length)),⟨by simp;omega,⟨g3,g4⟩,by simp;omega,?_⟩,?_,?_⟩
 ·have:(t.2.1.length+f.2.2.1.length+1) * (t.2.1.length+f.2.2.1.length+1)≤13 * 13:=cia (by omega) (by omega)
  simpa[XK] using this
 ·simp only[go_sem,uW,uM,hf,hn,V3 (show t.2.1.length+f.2.2.1.length≤1000 by omega) (show 1001≤k' + 20 by omega),V3 (show t.1.length≤1000 by omega) (show 1001≤k' + 20 by omega),p1,g1]
 ·simp only[go_sem,tg,th,hf,hn,YJ (show t.2.1.length+f.2.2.1.length≤1000 by omega) (show 1001≤k' + 20 by omega),YJ (show t.1.length≤1000 by omega) (show 1001≤k' + 20 by omega),p2,g2]
end Go.Fx.R5
namespace Go.Fx.R5
open Go Go.Fx
section
variable {α:Type} {pre r:List α} {x v:α}
theorem wO:bA (pre++x::r) (pre.length:Int)=some x:=bj (by simp)
theorem Sm:(pre++x::r).set pre.length v=pre++v::r:=by rw[List.set_append_right _ _ (ava _),Nat.sub_self,List.set_cons_zero]
theorem Ce:pre.length<(pre++x::r).length:=by simp
theorem So:pre++x::r=(pre++[x])++r:=by simp
theorem yW:(pre++[x]).length=pre.length+1:=by simp
end
theorem Th(q:Nat):∀(r pre:XI) (k:Nat),r.length<k→pre.length+r.length≤1000000→mM q k (pre++r) (pre++r) (pre.length:Int)=some (.inl ())
 |[],pre,k+1,_,_=>by
  have:¬ pre.length<(pre++[]).length:=by simp
  simp only[go_sem,mM,Q3,this]
 |x::r,pre,k+1,h,hl=>by
  simp only[ara] at h hl;simp only[go_sem,mM,Q3,Ce,wO,ae (show pre.length<_ by omega)]
  rw[So,←yW (pre:=pre) (x:=x)];exact Th q r (pre++[x]) k (by omega) (by simp;omega)
theorem eqI(a:XI){k:Nat}(hk:a.length<k)(hl:a.length≤1000000):vw k a a=some (true,()):=by
 have e:mM k k a a 0=_:=Th k a [] k hk (by simpa using hl)
 simp only[go_sem,vw,e]
theorem Tj(q:Nat):∀(r pre:VL4) (k:Nat),r.length<k→pre.length+r.length≤1000000→mN q k (pre++r) (pre++r) (pre.length:Int)=some (.inl ())
 |[],pre,k+1,_,_=>by
  have:¬ pre.length<(pre++[]).length:=by simp
  simp only[go_sem,mN,Q3,this]
 |x::r,pre,k+1,h,hl=>by
  simp only[ara] at h hl;simp only[go_sem,mN,yI,Q3,Ce,wO,ae (show pre.length<_ by omega)]
  rw[So,←yW (pre:=pre) (x:=x)];exact Tj q r (pre++[x]) k (by omega) (by simp;omega)
theorem eqV(a:VL4){k:Nat}(hk:a.length<k)(hl:a.length≤1000000):vz k a a=some (true,()):=by
 have e:mN k k a a 0=_:=Tj k a [] k hk (by simpa using hl)
 simp only[go_sem,vz,e]
theorem Ti(q:Nat)(hq:10≤q):∀(r pre:RVL) (k:Nat),r.length<k→pre.length+r.length≤1000000→SN r→jU q k (pre++r) (pre++r) (pre.length:Int)=some (.inl ())
 |[],pre,k+1,_,_,_=>by
  have:¬ pre.length<(pre++[]).length:=by simp
  simp only[go_sem,jU,Q3,this]
 |x::r,pre,k+1,h,hl,ho=>by
  simp only[ara] at h hl;have hx:=ho x (aqa ..);simp only[go_sem,jU,Am,yI,Q3,Ce,wO,eqI x.2.1 (k:=q) (by omega) (by omega),ae (show pre.length<_ by omega)]
  rw[So,←yW (pre:=pre) (x:=x)];exact Ti q hq r (pre++[x]) k (by omega) (by simp;omega) fun y hy=>ho y (Q8 _ hy)
theorem eqA{a:Yt}(ha:SC a){k:Nat}(hk:1000≤k):yG k a a=some (true,()):=by
 obtain⟨h1,⟨h2,h3⟩,h4,h5⟩:=ha;have e:jU k k a.2.2.1 a.2.2.1 0=_:=Ti k (by omega) a.2.2.1 [] k (by omega) (by simp;omega) h3
 simp only[go_sem,yG,eqV a.2.1 (k:=k) (by omega) (by omega),eqV a.2.2.2.1 (k:=k) (by omega) (by omega),yH,e,Ei,eqI a.2.2.2.2.2 (k:=k) (by omega) (by omega)]
def imk:Nat→XI→XI
 |_,[]=>[]
 |j,_::r=>(j:Int)::imk (j+1) r
theorem abw:∀(j:Nat) (l:XI),(imk j l).length=l.length
 |_,[]=>rfl
 |j,_::r=>by simp[imk,abw]
theorem WF(q:Nat):∀(r pre:XI) (j k:Nat),r.length<k→pre.length+r.length≤1000000→j+r.length≤1000000→kC q k (pre++r) (j:Int) (pre.length:Int)=some (pre++imk j r,((j+r.length:Nat):Int),())
 |[],pre,j,k+1,_,_,_=>by
  have:¬ pre.length<(pre++[]).length:=by simp
  simp only[go_sem,kC,Q3,this];simp[imk]
 |x::r,pre,j,k+1,h,hl,hj=>by
  simp only[ara] at h hl hj;simp only[go_sem,kC,Q3,Ce,wO,aya,Sm,ae (show pre.length<_ by omega),ae (show j<_ by omega)]
  rw[So,←yW (pre:=pre) (x:=(j:Int)),WF q r (pre++[(j:Int)]) (j+1) k (by omega) (by simp;omega) (by omega)]
  simp[imk,ara];omega
theorem mI(a:XI)(j:Nat){k:Nat}(hk:a.length<k)(hl:j+a.length≤1000000):rz k a (j:Int)=some (((j+a.length:Nat):Int),imk j a,()):=by
 have e:kC k k a (j:Int) 0=_:=WF k a [] j k hk (by simp;omega) hl
 simp only[go_sem,rz,e,aQa]
theorem Wn(q:Nat):∀(r pre:XI) (j k:Nat),r.length<k→pre.length+r.length≤1000000→j+r.length≤1000000→kA q k (pre++imk j r) (j:Int) (pre.length:Int)=some (.inl (((j+r.length:Nat):Int),()))
 |[],pre,j,k+1,_,_,_=>by
  have:¬ pre.length<(pre++imk j []).length:=by simp[imk]
  simp only[go_sem,kA,Q3,this];simp
 |x::r,pre,j,k+1,h,hl,hj=>by
  simp only[ara] at h hl hj;rw[imk];simp only[go_sem,kA,Q3,Ce,wO,ae (show pre.length<_ by omega),ae (show j<_ by omega)]
  rw[So,←yW (pre:=pre) (x:=(j:Int)),Wn q r (pre++[(j:Int)]) (j+1) k (by omega) (by simp;omega) (by omega)]
  simp[ara];omega
theorem hI(a:XI)(j:Nat){k:Nat}(hk:a.length<k)(hl:j+a.length≤1000000):ry k (imk j a) (j:Int)=some (((j+a.length:Nat):Int),()):=by
 have e:kA k k (imk j a) (j:Int) 0=_:=Wn k a [] j k hk (by simp;omega) hl
 simp only[go_sem,ry,e]
def vmk:Nat→VL4→VL4
 |_,[]=>[]
 |j,_::r=>((j:Int),((j+1:Nat):Int),((j+1+1:Nat):Int),((j+1+1+1:Nat):Int))::vmk (j+1+1+1+1) r
theorem WH(q:Nat):∀(r pre:VL4) (j k:Nat),r.length<k→pre.length+r.length≤1000000→j+4 * r.length≤1000000→kE q k (pre++r) (j:Int) (pre.length:Int)=some (pre++vmk j r,((j+4 * r.length:Nat):Int),())
 |[],pre,j,k+1,_,_,_=>by
  have:¬ pre.length<(pre++[]).length:=by simp
  simp only[go_sem,kE,Q3,this];simp[vmk]
 |x::r,pre,j,k+1,h,hl,hj=>by
  simp only[ara] at h hl hj;simp only[go_sem,kE,Q3,Ce,wO,aya,Sm,ae (show pre.length<_ by omega),ae (show j<_ by omega),ae (show j+1<_ by omega),ae (show j+1+1<_ by omega),ae (show j+1+1+1<_ by omega)]
  rw[So,←yW (pre:=pre) (x:=(((j:Nat):Int),((j+1:Nat):Int),((j+1+1:Nat):Int),((j+1+1+1:Nat):Int))),WH q r (pre++[_]) (j+1+1+1+1) k (by omega) (by simp;omega) (by omega)]
  simp[vmk,ara];omega
theorem mV(a:VL4)(j:Nat){k:Nat}(hk:a.length<k)(hl:j+4 * a.length≤1000000):pD k a (j:Int)=some (((j+4 * a.length:Nat):Int),vmk j a,()):=by
 have e:kE k k a (j:Int) 0=_:=WH k a [] j k hk (by simp;omega) hl
 simp only[go_sem,pD,e,aQa]
theorem Wp(q:Nat):∀(r pre:VL4) (j k:Nat),r.length<k→pre.length+r.length≤1000000→j+4 * r.length≤1000000→kB q k (pre++vmk j r) (j:Int) (pre.length:Int)=some (.inl (((j+4 * r.length:Nat):Int),()))
 |[],pre,j,k+1,_,_,_=>by
  have:¬ pre.length<(pre++vmk j []).length:=by simp[vmk]
  simp only[go_sem,kB,Q3,this];simp
 |x::r,pre,j,k+1,h,hl,hj=>by
  simp only[ara] at h hl hj;rw[vmk];simp only[go_sem,kB,Q3,Ce,wO,ae (show pre.length<_ by omega),ae (show j<_ by omega),ae (show j+1<_ by omega),ae (show j+1+1<_ by omega),ae (show j+1+1+1<_ by omega)]
  rw[So,←yW (pre:=pre) (x:=(((j:Nat):Int),((j+1:Nat):Int),((j+1+1:Nat):Int),((j+1+1+1:Nat):Int))),Wp q r (pre++[_]) (j+1+1+1+1) k (by omega) (by simp;omega) (by omega)]
  simp[ara];omega
theorem hV(a:VL4)(j:Nat){k:Nat}(hk:a.length<k)(hl:j+4 * a.length≤1000000):pC k (vmk j a) (j:Int)=some (((j+4 * a.length:Nat):Int),()):=by
 have e:kB k k (vmk j a) (j:Int) 0=_:=Wp k a [] j k hk (by simp;omega) hl
 simp only[go_sem,pC,e]
def rmk:Nat→RVL→RVL×Nat
 |j,[]=>([],j)
 |j,x::r=>(((((j:Int).tmod 3)==0),imk (j+1) x.2.1,((j+1+x.2.1.length:Nat):Int),((j+1+x.2.1.length+1:Nat):Int),((j+1+x.2.1.length+1+1:Nat):Int),((j+1+x.2.1.length+1+1+1:Nat):Int))::(rmk (j+1+x.2.1.length+1+1+1+1) r).1,(rmk (j+1+x.2.1.length+1+1+1+1) r).2)
theorem aaB:∀(j:Nat) (r:RVL),SN r→(rmk j r).2≤j+9 * r.length
 |j,[],_=>ava _
 |j,x::r,h=>by have h1:=h x (aqa ..);have h2:=aaB (j+1+x.2.1.length+1+1+1+1) r fun y hy=>h y (Q8 _ hy);simp only[rmk,ara];omega
theorem WG(q:Nat)(hq:10≤q):∀(r pre:RVL) (j k:Nat),r.length<k→pre.length+r.length≤1000000→SN r→j+9 * r.length≤1000000→iE q k (pre++r) (j:Int) (pre.length:Int)=some (pre++(rmk j r).1,((rmk j r).2:Int),())
 |[],pre,j,k+1,_,_,_,_=>by
  have:¬ pre.length<(pre++[]).length:=by simp
  simp only[go_sem,iE,Q3,this];simp[rmk]
 |x::r,pre,j,k+1,h,hl,ho,hj=>by
  have hx:=ho x (aqa ..);simp only[ara] at h hl hj;simp only[go_sem,iE,Q3,Ce,wO,aya,Sm,ae (show pre.length<_ by omega),ae (show j<_ by omega),mI x.2.1 (j+1) (k:=q) (by omega) (by omega),ae (show j+1+x.2.1.length<_ by omega),ae (show j+1+x.2.1.length+1<_ by omega),ae (show j+1+x.2.1.length+1+1<_ by omega),ae (show j+1+x.2.1.length+1+1+1<_ by omega)]
  rw[So,show((pre.length+1:Nat):Int)=((pre++[((((j:Int).tmod 3)==0),imk (j+1) x.2.1,((j+1+x.2.1.length:Nat):Int),((j+1+x.2.1.length+1:Nat):Int),((j+1+x.2.1.length+1+1:Nat):Int),((j+1+x.2.1.length+1+1+1:Nat):Int))]).length:Int) by simp,
   WG q hq r (pre++[_]) (j+1+x.2.1.length+1+1+1+1) k (by omega) (by simp;omega) (fun y hy=>ho y (Q8 _ hy)) (by omega)]
  simp[rmk]
theorem Wo(q:Nat)(hq:10≤q):∀(r pre:RVL) (j k:Nat),r.length<k→pre.length+r.length≤1000000→SN r→j+9 * r.length≤1000000→iD q k (pre++(rmk j r).1) (j:Int) (pre.length:Int)=some (.inl (((rmk j r).2:Int),()))
 |[],pre,j,k+1,_,_,_,_=>by
  have:¬ pre.length<(pre++(rmk j []).1).length:=by simp[rmk]
  simp only[go_sem,iD,Q3,this];simp[rmk]
 |x::r,pre,j,k+1,h,hl,ho,hj=>by
  have hx:=ho x (aqa ..);simp only[ara] at h hl hj;have hn:¬ (((j+1+x.2.1.length:Nat):Int)<0):=by omega
  simp only[rmk];simp only[go_sem,iD,Q3,Ce,wO,ae (show pre.length<_ by omega),ae (show j<_ by omega),hI x.2.1 (j+1) (k:=q) (by omega) (by omega),hn,ae (show j+1+x.2.1.length<_ by omega),ae (show j+1+x.2.1.length+1<_ by omega),ae (show j+1+x.2.1.length+1+1<_ by omega),ae (show j+1+x.2.1.length+1+1+1<_ by omega)]
  rw[So,show((pre.length+1:Nat):Int)=((pre++[((((j:Int).tmod 3)==0),imk (j+1) x.2.1,((j+1+x.2.1.length:Nat):Int),((j+1+x.2.1.length+1:Nat):Int),((j+1+x.2.1.length+1+1:Nat):Int),((j+1+x.2.1.length+1+1+1:Nat):Int))]).length:Int) by simp]
  exact Wo q hq r (pre++[_]) (j+1+x.2.1.length+1+1+1+1) k (by omega) (by simp;omega) (fun y hy=>ho y (Q8 _ hy)) (by omega)
theorem afE{a:Yt}(ha:SC a){k:Nat}(hk:1000≤k):∃(n:Nat) (i:VL4) (r:RVL) (c:VL4) (d:XI),wV k a.2.1 a.2.2.1 a.2.2.2.1 a.2.2.2.2.2 1=some ((n:Int),i,r,c,d,())∧tB k (a.1,i,r,c,a.2.2.2.2.1,d) 1=some ((n:Int),()):=by
 obtain⟨h1,⟨h2,h3⟩,h4,h5⟩:=ha;have hr:=aaB (1+4 * a.2.1.length) a.2.2.1 h3;have m1:pD k a.2.1 1=_:=mV a.2.1 1 (k:=k) (by omega) (by omega)
 have m2:=WG k (by omega) a.2.2.1 [] (1+4 * a.2.1.length) k (by omega) (by simp;omega) h3 (by omega)
 have g1:pC k (vmk 1 a.2.1) 1=_:=hV a.2.1 1 (k:=k) (by omega) (by omega)
 have g2:=Wo k (by omega) a.2.2.1 [] (1+4 * a.2.1.length) k (by omega) (by simp;omega) h3 (by omega)
 generalize (rmk (1+4 * a.2.1.length) a.2.2.1).1=R at m2 g2;generalize (rmk (1+4 * a.2.1.length) a.2.2.1).2=N at m2 g2 hr;have m2:iE k k a.2.2.1 ((1+4 * a.2.1.length:Nat):Int) 0=some (R,(N:Int),()):=m2;have g2:iD k k R ((1+4 * a.2.1.length:Nat):Int) 0=_:=g2;have m3:=mV a.2.2.2.1 N (k:=k) (by omega) (by omega)
 have g3:=hV a.2.2.2.1 N (k:=k) (by omega) (by omega)
 have m4:=mI a.2.2.2.2.2 (N+4 * a.2.2.2.1.length) (k:=k) (by omega) (by omega)
 have g4:=hI a.2.2.2.2.2 (N+4 * a.2.2.2.1.length) (k:=k) (by omega) (by omega)
 have n1:∀ n:Nat,¬ ((n:Int)<0):=fun n=>by omega
 exact⟨N+4 * a.2.2.2.1.length+a.2.2.2.2.2.length,vmk 1 a.2.1,R,vmk N a.2.2.2.1,imk (N+4 * a.2.2.2.1.length) a.2.2.2.2.2,by simp only[go_sem,wV,m1,uD,m2,m3,Ao,m4],by simp only[go_sem,tB,g1,n1,uC,g2,g3,An,g4]⟩
theorem Pe(bV:ak)(fn:Int):∃ k,ni k bV fn=some (true,()):=by
 have hb:Ev fun k=>∃ a:Yt,SC a∧mR k bV fn=some (a,())∧kY k bV fn=some (a.1,a.2.1,a.2.2.1,a.2.2.2.1,a.2.2.2.2.1,a.2.2.2.2.2,()):=by
  have h0:SC (false,[],[],[],0,[]):=⟨by simp,⟨by simp,fun x hx=>by cases hx⟩,by simp,by simp⟩
  rcases X2 bV with ⟨c,p,hc,he⟩|⟨ns,t,D,hT,hp,he⟩
  ·refine he.mono fun k e=>⟨_,h0,?_,?_⟩
   ·simp only[go_sem,mR,aa,qL,e.1,aYa.2 hc]
   ·simp only[go_sem,kY,aa,e.2,aYa.2 hc]
  ·refine(he.and (⟨2000,fun k hk=>hk⟩:Ev fun k=>2000≤k)).mono fun k e=>?_
   obtain⟨⟨_,⟨ki,pl,O,En,H,E,la,out,d,w1⟩,O',En',H',E',d',w2⟩,hk⟩:=e;have hw:cm ((t.2.2.length:Int) - 1)=(t.2.2.length:Int) - 1:=by have:=hp.ia.f;exact dT (by omega) (by omega)
   have hin:my fn 0 ((t.2.2.length:Int) - 1)=some (decide (0≤fn)&&decide (fn≤(t.2.2.length:Int) - 1),()):=by simp only[my,aa,ge_iff_le];cases decide (0≤fn)<;>rfl
   by_cases c0:0≤fn
   ·have d0:¬ fn<0:=by omega
    by_cases c1:fn<t.2.2.length
    ·have d1:¬ fn≥t.2.2.length:=by omega
     have d2:fn≤(t.2.2.length:Int) - 1:=by omega
     obtain⟨a,a1,a2,a3⟩:=aaU hp.ia c0 c1 hk;exact⟨a,a1,by simp only[go_sem,mR,aa,w2,hw,hin,c0,d2,bwa,a2],by simp only[go_sem,kY,aa,w1,d0,d1,a3]⟩
    ·have d1:fn≥t.2.2.length:=by omega
     have d2:¬ fn≤(t.2.2.length:Int) - 1:=by omega
     exact⟨_,h0,by simp only[go_sem,mR,aa,w2,hw,hin,c0,d2,Bool.and_false],by simp only[go_sem,kY,aa,w1,d0,d1]⟩
   ·have d0:fn<0:=by omega
    exact⟨_,h0,by simp only[go_sem,mR,aa,w2,hw,hin,c0,cBa],by simp only[go_sem,kY,aa,w1,d0]⟩
 by_cases Nx:(bV.length:Int) > 1048576
 ·exact⟨0,by simp only[ni,Nx,cDa,Q9]⟩
 ·refine Ev.wh ((hb.and (⟨1000,fun k hk=>hk⟩:Ev fun k=>1000≤k)).mono fun k e=>?_)
  obtain⟨⟨a,ha,e1,e2⟩,hk⟩:=e;obtain⟨n,i,r,c,d,m1,m2⟩:=afE ha hk;have n1:¬ ((n:Int)<0):=by omega
  simp only[go_sem,ni,Nx,e1,e2,eqA ha hk,m1,m2,n1]
end Go.Fx.R5
