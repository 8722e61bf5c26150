/- Proved here: laws.FnHuntTries returns true at every input (the tied card), no condition beyond the card. -/
import Derived.Test.YtooajghcoijkaaaGreatDoorQa
set_option linter.unusedVariables false
set_option linter.unusedSimpArgs false
set_option linter.unusedSectionVars false
set_option linter.defProp false
set_option maxRecDepth 100000
namespace Go.Fx.R5
open Go Go.Fx
section
variable {t:zw} {fn:ab} {ns:List eu} {P:Int} {Is Rs:XS} {B:Int}
theorem abO{rn ra rc}(q k:Nat)(nm:ab)(a b c:Int)(A:AS)(G:XS)(F:FS)(bu:XS)(cd p:Int):bN rn ra rc q (k+4) 16 nm [a,b,c] A G F ns fn bu cd p 0 =
  (rn A G F ns fn bu cd p a).bind fun r=>(rn A G F ns fn r.1 r.2.1 r.2.2.1 b).bind fun r2=>(bD r2.1 [nm]).bind fun l=>(rn A G F ns fn l r2.2.1 r2.2.2.1 c).bind fun r3=>some (r3.1,r3.2.1,r3.2.2.1,()):=by
 rw[bN];simp only[go_sem,aDa,aCa,show decide ((0:Int)<((0+1+1+1:Nat):Int))=true from rfl,show((16:Int)==16)=true from rfl,show((0:Int)==2)=false from rfl,aa,show bC [a,b,c] 0=some a from rfl,show bh (0+1)=1 from rfl]
 rfl
theorem aeA(ht:iO t){i:Nat}{x:eu}(hx:ns[i]? = some x)(hn:oi ns i x)(Gu:x.1=16)(IH:JY t fn ns P Is Rs B i x.2.2.2.2):NB t fn ns P Is Rs B i:=by
 intro l hli;have jG:=Xj (fn:=fn) ht (l:=l) (by omega) hx
 have lq:=HP (fn:=fn) ht l x;have du:=hn.shp;rw[Gu] at du;obtain⟨a,b,c,hK⟩:∃ a b c,x.2.2.2.2=[a,b,c]:=by
  rcases h:x.2.2.2.2 with _|⟨a,_|⟨b,_|⟨c,_|⟨d,r⟩⟩⟩⟩
  ·rw[h] at du;simp[cf] at du
  ·rw[h] at du;simp[cf] at du
  ·rw[h] at du;simp[cf] at du
  ·exact⟨a,b,c,rfl⟩
  ·rw[h] at du;simp[cf] at du
 obtain⟨ya,ea1,ea2,ea3,ea4,ea5⟩:=HU IH.v (n:=0) (j:=a) (by rw[hK];rfl)
 obtain⟨yb,eb1,eb2,eb3,eb4,eb5⟩:=HU IH.v (n:=1) (j:=b) (by rw[hK];rfl)
 obtain⟨yc,ec1,ec2,ec3,ec4,ec5⟩:=HU IH.v (n:=2) (j:=c) (by rw[hK];rfl)
 have na:=IH.n a (by rw[hK];simp)
 have nb:=IH.n b (by rw[hK];simp)
 have nc:=IH.n c (by rw[hK];simp)
 have hoc:oU t fn l x=Iy t fn l x.2.2.2.1 3 3:=by simp only[oU,Gu,Int.reduceEq,reduceIte,bka]
 simp only[Gu,show ¬ (16:Int)=9 by decide,Q9] at lq
 have g16:((16:Int)==16)=true:=rfl;have se:∀ c0 p0:Int,c0≠0→(Ev fun k=>∃ bl,bN (dF k) (dB k) (eI k) k k 16 x.2.2.2.1 x.2.2.2.2 t.1 t.2.1 t.2.2 ns fn l 0 0 0=some (bl,c0,p0,())∧bl.length≤l.length+i+1)→oU t fn l x=0→
   (Ev fun k=>∀ D,Lw l D→∃ bm,bV k ns t.1 t.2.1 t.2.2 fn P Is Rs B D x=some ((c0,p0),bm,()))→
   ∃ c p,(c=0→p=0∧Ip ns t fn i)∧Ev fun k=>U4 l (i+1) c p (dF k t.1 t.2.1 t.2.2 ns fn l 0 0 (i:Int))∧∀ D,Lw l D→abu l c p (co k ns t.1 t.2.1 t.2.2 fn P Is Rs B D (i:Int)):=fun c0 p0 hc0 hS ho hI=>by
  rw[ho] at jG lq;refine⟨c0,p0,fun hz=>absurd hz hc0,Ev.succ ((jG.and (lq.and (hS.and hI))).mono fun k e=>?_)⟩;obtain⟨w1,w2,⟨bl,w3,w3'⟩,w4⟩:=e;refine⟨⟨bl,?_,by omega,fun hz=>absurd hz hc0⟩,fun D hr=>?_⟩
  ·rw[oa];simp only[go_sem,cL,bf hx,Gu,show((16:Int)==9)=false from rfl,show((16:Int)==12)=false from rfl,show((16:Int)==22)=false from rfl,show((16:Int)==16)=true from rfl,w1,show Ms 0 x.2.1=0 from rfl,aa]
   rw[show bN _ _ _ k k 16 x.2.2.2.1 x.2.2.2.2 t.1 t.2.1 t.2.2 ns fn l 0 0 0=_ from w3]
   simp only[go_sem,Q6.2 hc0]
  ·obtain⟨bm,w5⟩:=w4 D hr
   refine⟨bm,?_,fun hz=>absurd hz hc0⟩;rw[kA];simp only[go_sem,aU,bf hx,aa,Gu,show((16:Int)==9)=false from rfl,show((16:Int)==12)=false from rfl,show((16:Int)==22)=false from rfl,show((16:Int)==16)=true from rfl,w2 D hr,w5]
 have AD:=IH.l;by_cases h0:oU t fn l x=0
 rotate_left
 ·
  refine⟨oU t fn l x,x.2.1,fun hz=>absurd hz h0,Ev.succ ((jG.and (lq.and (⟨10,fun k hk=>hk⟩:Ev fun k=>10≤k))).mono fun k e=>?_)⟩;obtain⟨w1,w2,hk⟩:=e;rw[HB h0] at w1;obtain⟨j,rfl⟩:∃ j,k=j+4:=⟨k - 4,by omega⟩
  have fa:=IV (t:=t) (fn:=fn) (p:=x.2.1) h0 ea3 (j+3) l;have fb:=IV (t:=t) (fn:=fn) (p:=x.2.1) h0 eb3 (j+3) l;have fc:=IV (t:=t) (fn:=fn) (p:=x.2.1) h0 ec3 (j+3) (l++[x.2.2.2.1]);rw[ea5] at fa;rw[eb5] at fb;rw[ec5] at fc;have fp:bD l [x.2.2.2.1]=some (l++[x.2.2.2.1]):=oj (by simp;omega)
  refine⟨⟨l++[x.2.2.2.1],?_,by simp,fun hz=>absurd hz h0⟩,fun D hr=>⟨D,?_,fun _=>hr⟩⟩
  ·rw[oa (j+4)];simp only[go_sem,cL,bf hx,Gu,show((16:Int)==9)=false from rfl,show((16:Int)==12)=false from rfl,show((16:Int)==22)=false from rfl,show((16:Int)==16)=true from rfl,w1,aa,hK]
   rw[abO];simp only[go_sem,show j+4=j+3+1 from rfl,fa,fb,fp,fc,Q6.2 h0]
  ·rw[kA (j+4)];simp only[go_sem,aU,bf hx,aa,Gu,show((16:Int)==9)=false from rfl,show((16:Int)==12)=false from rfl,show((16:Int)==22)=false from rfl,show((16:Int)==16)=true from rfl,w2 D hr,aUa.2 h0]
 obtain⟨ca,pa,hca,hea⟩:=na.2 l (by omega)
 rw[ea5] at hea;have L4:(⟨10,fun k hk=>hk⟩:Ev fun k=>10≤k)=⟨10,fun k hk=>hk⟩:=rfl;have L4:Ev fun k=>10≤k:=⟨10,fun k hk=>hk⟩;have p6:sub [a,b,c] 0 2=some [a,b]:=rfl;have i2:bC [a,b,c] 2=some c:=rfl;by_cases hza:ca=0
 rotate_left
 ·refine se ca pa hza ((hea.and L4).mono fun k e=>?_) h0 (Ev.succ ((hea.and L4).mono fun k e D hr=>?_))
  ·obtain⟨⟨⟨bl,w1,w2,_⟩,_⟩,hk⟩:=e
   obtain⟨j,rfl⟩:∃ j,k=j+4:=⟨k - 4,by omega⟩
   have fb:=IV (t:=t) (fn:=fn) (p:=pa) hza eb3 (j+3) bl;have fc:=IV (t:=t) (fn:=fn) (p:=pa) hza ec3 (j+3) (bl++[x.2.2.2.1]);rw[eb5] at fb;rw[ec5] at fc;have fp:bD bl [x.2.2.2.1]=some (bl++[x.2.2.2.1]):=oj (by simp;omega)
   have:=na.1;refine⟨bl++[x.2.2.2.1],?_,by simp;omega⟩
   rw[hK,abO];rw[show j+4=j+3+1 from rfl] at w1
   simp only[go_sem,show j+4=j+3+1 from rfl,w1,fb,fp,fc]
  ·obtain⟨⟨_,w1⟩,hk⟩:=e
   obtain⟨bm,w2,_⟩:=w1 D hr;obtain⟨j,rfl⟩:∃ j,k=j+1:=⟨k - 1,by omega⟩
   refine⟨bm,?_⟩;rw[NU (j+1)];simp only[go_sem,gS,hK,p6];rw[cI];simp only[go_sem,aDa,aCa,show decide ((0:Int)<((0+1+1:Nat):Int))=true from rfl,show bC [a,b] 0=some a from rfl,w2,aUa.2 hza]
 subst hza;obtain⟨rfl,ahb⟩:=hca rfl;obtain⟨cb,pb,hcb,heb⟩:=nb.2 l (by omega)
 rw[eb5] at heb;by_cases hzb:cb=0
 rotate_left
 ·refine se cb pb hzb ((hea.and (heb.and L4)).mono fun k e=>?_) h0 (Ev.succ ((hea.and (heb.and L4)).mono fun k e D hr=>?_))
  ·obtain⟨⟨⟨bl0,w1,_,w1'⟩,_⟩,⟨⟨bl,w2,w3,_⟩,_⟩,hk⟩:=e
   obtain rfl:=w1' rfl;obtain⟨j,rfl⟩:∃ j,k=j+4:=⟨k - 4,by omega⟩
   have fc:=IV (t:=t) (fn:=fn) (p:=pb) hzb ec3 (j+3) (bl++[x.2.2.2.1]);rw[ec5] at fc;have fp:bD bl [x.2.2.2.1]=some (bl++[x.2.2.2.1]):=oj (by simp;omega)
   have:=nb.1;refine⟨bl++[x.2.2.2.1],?_,by simp;omega⟩
   rw[hK,abO];rw[show j+4=j+3+1 from rfl] at w1 w2
   simp only[go_sem,show j+4=j+3+1 from rfl,w1,w2,fp,fc]
  ·obtain⟨⟨_,w1⟩,⟨_,w3⟩,hk⟩:=e
   obtain⟨bm0,w2,w2'⟩:=w1 D hr;obtain⟨bm,w4,_⟩:=w3 bm0 (w2' rfl);obtain⟨j,rfl⟩:∃ j,k=j+2:=⟨k - 2,by omega⟩
   refine⟨bm,?_⟩;rw[NU (j+2)];simp only[go_sem,gS,hK,p6];rw[cI];simp only[go_sem,aDa,aCa,show decide ((0:Int)<((0+1+1:Nat):Int))=true from rfl,show bC [a,b] 0=some a from rfl,w2,show bh (0+1)=1 from rfl]
   rw[cI];simp only[go_sem,show decide ((1:Int)<((0+1+1:Nat):Int))=true from rfl,show bC [a,b] 1=some b from rfl,w4,aUa.2 hzb]
 subst hzb;obtain⟨rfl,ahc⟩:=hcb rfl;have hnl:x.2.2.2.1∉l:=fun hm=>by
  rw[hoc] at h0;unfold Iy at h0;by_cases hw:W t fn x.2.2.2.1 3 3=0
  ·simp[hw,hm] at h0
  ·simp[hw] at h0
 have NP:∀{D:AS},Lw l D→Lw (l++[x.2.2.2.1]) (ro D x.2.2.2.1 1):=fun hr s=>by
  rw[Fq,aoa,Q7];by_cases e:x.2.2.2.1=s
  ·simp[e]
  ·simp[e,hr s,bBa e]
 have af3:∀{D:AS},Lw (l++[x.2.2.2.1]) D→Lw l (ro D x.2.2.2.1 0):=fun hr s=>by
  rw[Fq];by_cases e:x.2.2.2.1=s
  ·subst e;simp[hnl]
  ·have:=hr s
   rw[aoa,Q7] at this;simp[e,this,bBa e]
 obtain⟨cc,pc,hcc,hec⟩:=nc.2 (l++[x.2.2.2.1]) (by have:=nc.1;simp;omega)
 rw[ec5] at hec;have hlp:bD l [x.2.2.2.1]=some (l++[x.2.2.2.1]):=oj (by simp;omega)
 have hS:Ev fun k=>∃ bl,bN (dF k) (dB k) (eI k) k k 16 x.2.2.2.1 x.2.2.2.2 t.1 t.2.1 t.2.2 ns fn l 0 0 0=some (bl,cc,pc,())∧bl.length≤l.length+i+1∧(cc=0→bl=l++[x.2.2.2.1]):=(hea.and (heb.and (hec.and L4))).mono fun k e=>by
  obtain⟨⟨⟨bl0,w1,_,w1'⟩,_⟩,⟨⟨bl1,w2,_,w2'⟩,_⟩,⟨⟨bl,w3,w4,w5⟩,_⟩,hk⟩:=e;obtain rfl:=w1' rfl;obtain rfl:=w2' rfl;obtain⟨j,rfl⟩:∃ j,k=j+4:=⟨k - 4,by omega⟩
  have:=nc.1;refine⟨bl,?_,by simp at w4;omega,w5⟩
  rw[hK,abO];simp only[go_sem,w1,w2,hlp,w3]
 have hI:Ev fun k=>∀ D,Lw l D→∃ bm,bV k ns t.1 t.2.1 t.2.2 fn P Is Rs B D x=some ((cc,pc),bm,())∧(cc=0→Lw l bm):=Ev.succ ((hea.and (heb.and (hec.and L4))).mono fun k e D hr=>by
  obtain⟨⟨_,w1⟩,⟨_,w3⟩,⟨_,w5⟩,hk⟩:=e;obtain⟨bm0,w2,w2'⟩:=w1 D hr;obtain⟨bm1,w4,w4'⟩:=w3 bm0 (w2' rfl);obtain⟨bm2,w6,w6'⟩:=w5 (ro bm1 x.2.2.2.1 1) (NP (w4' rfl));obtain⟨j,rfl⟩:∃ j,k=j+3:=⟨k - 3,by omega⟩
  refine⟨ro bm2 x.2.2.2.1 0,?_,fun hz=>af3 (w6' hz)⟩;rw[NU (j+3)];simp only[go_sem,gS,hK,p6];rw[cI];simp only[go_sem,aDa,aCa,show decide ((0:Int)<((0+1+1:Nat):Int))=true from rfl,show bC [a,b] 0=some a from rfl,w2,show bh (0+1)=1 from rfl]
  rw[cI];simp only[go_sem,show decide ((1:Int)<((0+1+1:Nat):Int))=true from rfl,show bC [a,b] 1=some b from rfl,w4,show bh (1+1)=2 from rfl]
  rw[cI];simp only[go_sem,show decide ((2:Int)<((0+1+1:Nat):Int))=false from rfl,i2,w6])
 by_cases hzc:cc=0
 rotate_left
 ·exact se cc pc hzc (hS.mono fun k e=>by obtain⟨bl,w1,w2,_⟩:=e;exact⟨bl,w1,w2⟩) h0 (hI.mono fun k e D hr=>by obtain⟨bm,w1,_⟩:=e D hr;exact⟨bm,w1⟩)
 subst hzc;obtain⟨rfl,ahd⟩:=hcc rfl;rw[h0] at jG lq;refine⟨0,0,fun _=>⟨rfl,Ip.mk i x hx (fun j hj=>?_) (fun h=>absurd (Gu.symm.trans h) (by decide)) (fun h=>absurd (Gu.symm.trans h) (by decide))⟩,Ev.succ ((jG.and (lq.and (hS.and hI))).mono fun k e=>?_)⟩
 ·rw[hK] at hj
  simp only[ama,bUa,bDa] at hj;rcases hj with rfl|rfl|rfl
  ·exact ahb
  ·exact ahc
  ·exact ahd
 ·obtain⟨w1,w2,⟨bl,w3,_,w4⟩,w5⟩:=e
  obtain rfl:=w4 rfl;refine⟨⟨l,?_,by omega,fun _=>rfl⟩,fun D hr=>?_⟩
  ·have hs:sub (l++[x.2.2.2.1]) 0 (bh (((l++[x.2.2.2.1]).length:Int) - 1))=some l:=by
    have:=wV (l:=l++[x.2.2.2.1]) (m:=0) (n:=l.length) (by omega) (by simp)
    rw[aua,b9a,bw (by omega) (by omega),show((l.length+1:Nat):Int) - 1=(l.length:Int) by omega]
    rw[show(0:Int)=((0:Nat):Int) from rfl,this];simp
   rw[oa];simp only[go_sem,cL,bf hx,Gu,show((16:Int)==9)=false from rfl,show((16:Int)==12)=false from rfl,show((16:Int)==22)=false from rfl,show((16:Int)==16)=true from rfl,w1,show Ms 0 x.2.1=0 from rfl,aa]
   rw[show bN _ _ _ k k 16 x.2.2.2.1 x.2.2.2.2 t.1 t.2.1 t.2.2 ns fn l 0 0 0=_ from w3]
   simp only[go_sem,hs]
  ·obtain⟨bm,w6,w7⟩:=w5 D hr
   refine⟨bm,?_,w7⟩;rw[kA];simp only[go_sem,aU,bf hx,aa,Gu,show((16:Int)==9)=false from rfl,show((16:Int)==12)=false from rfl,show((16:Int)==22)=false from rfl,show((16:Int)==16)=true from rfl,w2 D hr,w6]
theorem Yk(ht:iO t)(fk:jz ns):∀ n i,i<n→i<ns.length→NB t fn ns P Is Rs B i:=by
 intro n;induction n with
 |zero=>intro i h;omega
 |succ n ih=>
  intro i hi hl;have hx:ns[i]? = some ns[i]:=by simp[hl]
  have hn:=fk i _ hx;have IH:JY t fn ns P Is Rs B i ns[i].2.2.2.2:=⟨fun j hj=>by have:=hn.cG j hj;omega,hn.nm.2,fun j hj=>by
   have:=hn.cG j hj;exact⟨this.2,ih j.toNat (by omega) (by omega)⟩⟩
  by_cases h9:ns[i].1=9
  ·exact aeB ht hx hn fk h9 IH
  by_cases Er:ns[i].1=22
  ·exact ab9 ht hx hn fk Er IH
  by_cases K5:ns[i].1=12
  ·exact ab8 ht hx hn fk K5 IH
  by_cases Gu:ns[i].1=16
  ·exact aeA ht hx hn Gu IH
  exact aap ht hx h9 Er K5 Gu IH
end
end Go.Fx.R5
namespace Go.Fx.R5
open Go Go.Fx
section
variable {t:zw} {ns:List eu} {D:AS}
theorem XJ(ht:iO t)(fk:jz ns)(hl:ns.length≤3900){fn:ab}{P:Int}{Is Rs:XS}{b:Int}(h0:0≤b)(h1:b<ns.length)(h8:kd ns b=8):∃ c p,(c=0→p=0∧Ip ns t fn b.toNat)∧Ev fun k=>
  (∃ bl,dF k t.1 t.2.1 t.2.2 ns fn [] 0 0 b=some (bl,c,p,()))∧∃ bm,bL k ns t.1 t.2.1 t.2.2 fn P Is Rs b ([]:AS) b=some ((c,p),bm,()):=by
 obtain⟨x,e1,e2,e3⟩:=vu h0 h1;have hb:((b.toNat:Nat):Int)=b:=aNa h0;rw[e2] at h8;obtain⟨c,p,hc,he⟩:=Yk (fn:=fn) (P:=P) (Is:=Is) (Rs:=Rs) (B:=b) ht fk (b.toNat+1) b.toNat (by omega) (by omega) [] (by simp;omega)
 rw[hb] at he;have NP:Lw [] ([]:AS):=fun s=>by simp[qE]
 have lq:=HP (fn:=fn) ht [] x;simp only[h8,oU,Int.reduceEq,reduceIte,bka] at lq;refine⟨c,p,hc,(he.and (he.ack.and lq)).mono fun k e=>?_⟩;obtain⟨⟨⟨bl,w1,_⟩,_⟩,⟨_,w2⟩,w3⟩:=e;refine⟨⟨bl,w1⟩,?_⟩;obtain⟨bm,w4,_⟩:=w2 [] NP;rw[kA] at w4;simp only[go_sem,aU,e3,aa,h8,show((8:Int)==9)=false from rfl,show((8:Int)==12)=false from rfl,show((8:Int)==22)=false from rfl,show((8:Int)==16)=false from rfl,w3 [] NP] at w4
 cases hbw:bL k ns t.1 t.2.1 t.2.2 fn P Is Rs b ([]:AS) b with
 |none=>rw[hbw] at w4;cases w4
 |some r=>obtain⟨⟨c',p'⟩,bm',u⟩:=r;rw[hbw] at w4;simp only[go_sem,OQ,ala] at w4;exact⟨bm',by rw[w4.1.1,w4.1.2]⟩
theorem NA(hp:P1 ns t D)(fk:jz ns)(hl:ns.length≤3900):∀ m i,m+i=t.2.2.length→
  (∃(c p:Int),c≠0∧cq fun q k=>eU q k ns 0 0 t.1 t.2.1 t.2.2 (i:Int)=some (.inr (c,p,()))∧fo q k t.2.2 ns t.2.2 (t.2.2.length:Int) t.1 t.2.1 0 0 (i:Int)=some (.inr (c,p,())))∨
  ((∀ x∈t.2.2.drop i,Ip ns t x.1 x.2.2.2.2.toNat)∧cq fun q k=>eU q k ns 0 0 t.1 t.2.1 t.2.2 (i:Int)=some (.inl (0,0,t.1,t.2.1,t.2.2,()))∧
   fo q k t.2.2 ns t.2.2 (t.2.2.length:Int) t.1 t.2.1 0 0 (i:Int)=some (.inl (t.1,t.2.1,0,0,())))
 |0,i,h=>by
  have h2:¬ i<t.2.2.length:=by omega
  have e:t.2.2.drop i=[]:=by simp;omega
  refine .inr ⟨by rw[e];simp,cq.succ (cq.of fun q k=>⟨?_,?_⟩)⟩
  ·simp only[go_sem,eU,Q5,h2]
  ·simp only[go_sem,fo,Q5,h2]
 |m+1,i,h=>by
  have bg:i<t.2.2.length:=by omega
  have hf6:=hp.iE.f;have hb:=hp.bd _ (aRa bg);obtain⟨c,p,hc,he⟩:=XJ (fn:=t.2.2[i].1) (P:=t.2.2[i].2.1) (Is:=t.2.2[i].2.2.1) (Rs:=t.2.2[i].2.2.2.1) hp.iE fk hl hb.1 hb.2.1 hb.2.2.1;by_cases h0:c=0
  ·subst h0
   obtain⟨rfl,HL⟩:=hc rfl;have s1:∀{q k r},(∃ bl,dF q t.1 t.2.1 t.2.2 ns t.2.2[i].1 [] 0 0 t.2.2[i].2.2.2.2=some (bl,0,0,()))→eU q k ns 0 0 t.1 t.2.1 t.2.2 ((i+1:Nat):Int)=r→eU q (k+1) ns 0 0 t.1 t.2.1 t.2.2 (i:Int)=r:=fun⟨bl,a1⟩ a2=>by simp only[go_sem,eU,Q5,bg,cB bg,a1,ai (show i<_ by omega),a2]
   have s2:∀{q k r},(∃ bm,bL q ns t.1 t.2.1 t.2.2 t.2.2[i].1 t.2.2[i].2.1 t.2.2[i].2.2.1 t.2.2[i].2.2.2.1 t.2.2[i].2.2.2.2 ([]:AS) t.2.2[i].2.2.2.2=some ((0,0),bm,()))→fo q k t.2.2 ns t.2.2 (t.2.2.length:Int) t.1 t.2.1 0 0 ((i+1:Nat):Int)=r→
     fo q (k+1) t.2.2 ns t.2.2 (t.2.2.length:Int) t.1 t.2.1 0 0 (i:Int)=r:=fun⟨bm,a1⟩ a2=>by
    simp only[go_sem,fo,Q5,bg,cB bg,a1,ai (show i<_ by omega),a2]
   rcases NA hp fk hl m (i+1) (by omega) with ⟨c,p,g,hh⟩|⟨g,hh⟩
   ·exact .inl ⟨c,p,g,cq.succ ((he.tj.and hh).mono fun q k e=>⟨s1 e.1.1 e.2.1,s2 e.1.2 e.2.2⟩)⟩
   ·refine .inr ⟨fun x hx=>?_,cq.succ ((he.tj.and hh).mono fun q k e=>⟨s1 e.1.1 e.2.1,s2 e.1.2 e.2.2⟩)⟩
    rw[aQa bg] at hx;rcases ama.1 hx with rfl|hx
    ·exact HL
    ·exact g x hx
  ·refine .inl ⟨c,p,h0,cq.succ (he.tj.mono fun q k e=>?_)⟩
   obtain⟨⟨bl,w1⟩,bm,w2⟩:=e;refine⟨?_,?_⟩
   ·simp only[go_sem,eU,Q5,bg,cB bg,w1,aUa.2 h0]
   ·simp only[go_sem,fo,Q5,bg,cB bg,w2,aUa.2 h0]
theorem V2(hT:U5 ns):(∃(c p:Int),c≠0∧Ev fun k=>jc k ns=some (([],[],[]),(c,p),())∧∀ bB,gQ k bB=some (ns,(0,0),())→dG k bB=some (([],[],[]),(c,p),()))∨
  ∃(t:zw) (D:AS),P1 ns t D∧(∀ x∈t.2.2,Ip ns t x.1 x.2.2.2.2.toNat)∧Ev fun k=>jc k ns=some (t,(0,0),())∧∀ bB,gQ k bB=some (ns,(0,0),())→dG k bB=some (t,(0,0),()):=by
 obtain⟨fk,jy,ns0,l,hns,hk,hws⟩:=hT;have hks:jM ns l≤ns.length:=by rw[pS (by rw[hns];exact aLa _ _) hk.v,hns];simp;omega
 have hk:ja F9 ns l:=hk.up (by rw[hns];exact aLa _ _)
 have adk:ns[ns.length - 1]? = some (1,0,0,[],l):=by rw[hns];simp
 have AD:l.length≤5000:=(fk _ _ adk).nm.2;have rQ:0<ns.length:=by rw[hns];simp
 have HM:bC ns (bh ((ns.length:Int) - 1))=some (1,0,0,[],l):=by
  rw[bw (by omega) (by omega),show(ns.length:Int) - 1=((ns.length - 1:Nat):Int) by omega]
  exact bf adk
 have h0:P1 ns ([],[],[]) []:=⟨⟨by simp,by simp,by simp,by simp⟩,by simp,by simp,by simp,fun s=>by simp[qE,pG]⟩
 rcases P8 fk (by omega) hk AD hks l.length 0 ([],[],[]) [] rfl h0 (by intro f hf;simp at hf) with ⟨c,p,hc,he⟩|⟨t1,D1,hp1,hf1,Mu,he1⟩
 ·refine .inl ⟨c,p,hc,he.jY.mono fun k e=>?_⟩
  have w1:dl k k ns l 0 0 [] [] [] 0=_:=e.1;have w2:dJ k k ns l (l.length:Int) [] [] [] 0 0 [] 0=_:=e.2;refine⟨by simp only[go_sem,jc,HM,w2],fun bB hp=>by simp only[go_sem,dG,hp,HM,w1]⟩
 ·have he1:=he1.jY
  rcases Vu fk (by omega) hk AD l.length 0 0 t1 rfl hp1 (by simp only[aCa] at Mu;omega) (fun n x _ hx=>hf1 x (a1a hx)) with ⟨c,p,hc,he⟩|⟨F2,If,he2⟩
  ·refine .inl ⟨c,p,hc,(he1.and he.jY).mono fun k e=>?_⟩
   obtain⟨⟨w1,w2⟩,w3,w4⟩:=e;have w1:dl k k ns l 0 0 [] [] [] 0=_:=w1;have w2:dJ k k ns l (l.length:Int) [] [] [] 0 0 [] 0=_:=w2;have w3:cX k k ns l 0 0 t1.1 t1.2.1 t1.2.2 0 0=_:=w3;have w4:dq k k ns l (l.length:Int) t1.2.2 0 0 D1 0 0=_:=w4;refine⟨by simp only[go_sem,jc,HM,w2,w4],fun bB hp=>by simp only[go_sem,dG,hp,HM,w1,w3]⟩
  ·have he2:=he2.jY
   have hf6:=If.iE.f;have hM:=aep (t1.1,t1.2.1,F2) (by omega)
   have hS:=SA (t1.1,t1.2.1,F2) [109,97,105,110] (by omega)
   by_cases ZK:0≤nM (fun x:ab×Int×XS×XS×Int=>x.1==([109,97,105,110]:ab)) F2 0∧∀ n x,nM (fun x:ab×Int×XS×XS×Int=>x.1==([109,97,105,110]:ab)) F2 0=(n:Nat)→F2[n]? = some x→x.2.1=0
   ·obtain⟨n,x,n1,n2,_⟩:=Ju ZK.1
    have hz:=ZK.2 n x n1 n2;have b1:decide ((n:Int)<0)=false:=bha (by omega)
    have b2:decide (x.2.1 > 0)=false:=by rw[hz];rfl
    have b3:(x.2.1 != 0)=false:=by rw[hz];rfl
    rcases NA If fk (by omega) F2.length 0 rfl with ⟨c,p,hc,he⟩|⟨HL,he⟩
    ·refine .inl ⟨c,p,hc,(he1.and (he2.and ((hM.and hS).and he.jY))).mono fun k e=>?_⟩
     obtain⟨⟨w1,w2⟩,⟨w3,w4⟩,⟨w5,w6⟩,w7,w8⟩:=e;have w1:dl k k ns l 0 0 [] [] [] 0=_:=w1;have w2:dJ k k ns l (l.length:Int) [] [] [] 0 0 [] 0=_:=w2;have w3:cX k k ns l 0 0 t1.1 t1.2.1 t1.2.2 0 0=_:=w3;have w4:dq k k ns l (l.length:Int) t1.2.2 0 0 D1 0 0=_:=w4;have w7:eU k k ns 0 0 t1.1 t1.2.1 F2 0=_:=w7;have w8:fo k k F2 ns F2 (F2.length:Int) t1.1 t1.2.1 0 0 0=_:=w8;refine⟨?_,fun bB hp=>?_⟩
     ·simp only[go_sem,jc,HM,w2,w4,w5,aa,n1,b1,bf n2,aAa,b2,w8]
     ·simp only[go_sem,dG,hp,HM,w1,w3,w6,aa,n1,b1,bf n2,aAa,b3,w7]
    ·refine .inr ⟨(t1.1,t1.2.1,F2),D1,If,fun y hy=>HL y (by simpa using hy),(he1.and (he2.and ((hM.and hS).and he.jY))).mono fun k e=>?_⟩
     obtain⟨⟨w1,w2⟩,⟨w3,w4⟩,⟨w5,w6⟩,w7,w8⟩:=e;have w1:dl k k ns l 0 0 [] [] [] 0=_:=w1;have w2:dJ k k ns l (l.length:Int) [] [] [] 0 0 [] 0=_:=w2;have w3:cX k k ns l 0 0 t1.1 t1.2.1 t1.2.2 0 0=_:=w3;have w4:dq k k ns l (l.length:Int) t1.2.2 0 0 D1 0 0=_:=w4;have w7:eU k k ns 0 0 t1.1 t1.2.1 F2 0=_:=w7;have w8:fo k k F2 ns F2 (F2.length:Int) t1.1 t1.2.1 0 0 0=_:=w8;refine⟨?_,fun bB hp=>?_⟩
     ·simp only[go_sem,jc,HM,w2,w4,w5,aa,n1,b1,bf n2,aAa,b2,w8]
     ·simp only[go_sem,dG,hp,HM,w1,w3,w6,aa,n1,b1,bf n2,aAa,b3,w7]
   ·refine .inl ⟨13,0,by decide,(he1.and (he2.and (hM.and hS))).mono fun k e=>?_⟩
    obtain⟨⟨w1,w2⟩,⟨w3,w4⟩,w5,w6⟩:=e;have w1:dl k k ns l 0 0 [] [] [] 0=_:=w1;have w2:dJ k k ns l (l.length:Int) [] [] [] 0 0 [] 0=_:=w2;have w3:cX k k ns l 0 0 t1.1 t1.2.1 t1.2.2 0 0=_:=w3;have w4:dq k k ns l (l.length:Int) t1.2.2 0 0 D1 0 0=_:=w4;by_cases L4:0≤nM (fun x:ab×Int×XS×XS×Int=>x.1==([109,97,105,110]:ab)) F2 0
    ·obtain⟨n,x,n1,n2,_⟩:=Ju L4
     have hx:=If.iE.i x (a1a n2);have hz:x.2.1≠0:=fun hz=>ZK ⟨L4,fun n' x' a1 a2=>by
      have:n' = n:=by omega
      subst this;rw[n2] at a2;cases a2;exact hz⟩
     have b1:decide ((n:Int)<0)=false:=bha (by omega)
     have b2:decide (x.2.1 > 0)=true:=decide_eq_true (by omega)
     have b3:(x.2.1 != 0)=true:=aUa.2 hz;refine⟨?_,fun bB hp=>?_⟩
     ·simp only[go_sem,jc,HM,w2,w4,w5,aa,n1,b1,bf n2,aAa,b2]
     ·simp only[go_sem,dG,hp,HM,w1,w3,w6,aa,n1,b1,bf n2,aAa,b3]
    ·have n1:=(W7 L4).1
     refine⟨?_,fun bB hp=>?_⟩
     ·simp only[go_sem,jc,HM,w2,w4,w5,aa,n1,show decide ((-1:Int)<0)=true from rfl]
     ·simp only[go_sem,dG,hp,HM,w1,w3,w6,aa,n1,show decide ((-1:Int)<0)=true from rfl]
end
end Go.Fx.R5
namespace Go.Fx.R5
open Go Go.Fx
abbrev ES:=XE
abbrev SPS:=XQ
structure FG(nf M:Nat)(O:XI)(H:XB)(E:ES):Prop where
 oh:H.length=O.length
 ow:∀ x∈O,0≤x∧x<(nf:Int)
 ed:∀ e∈E,0≤e.1∧e.1<(O.length:Int)∧(e.2.2.1=5→0≤e.2.2.2.2∧e.2.2.2.2<(M:Int))
structure SX(nf M:Nat)(O:XI)(E:ES)(w:Nat)(O':XI)(H':XB)(E':ES):Prop where
 fg:FG nf M O' H' E'
 lo:O.length≤O'.length
 hi:O'.length≤O.length+5 * w
 eh:E'.length≤E.length+5 * w
section
variable {nf M:Nat} {O:XI} {H:XB} {E:ES}
theorem FG.oC(h:FG nf M O H E){fn:Int}(h0:0≤fn)(h1:fn<nf)(b:Bool):FG nf M (O++[fn]) (H++[b]) E:=
 ⟨by simp[h.oh],fun x hx=>by
  rcases aoa.1 hx with hx|hx
  ·exact h.ow x hx
  ·rw[Q7.1 hx];exact⟨h0,h1⟩,fun e he=>by
  have:=h.ed e he;exact⟨this.1,by simp;omega,this.2.2⟩⟩
theorem FG.zx(h:FG nf M O H E){f t k n a:Int}(h0:0≤f)(h1:f<O.length)(h5:k=5→0≤a∧a<(M:Int)):FG nf M O H (E++[(f,t,k,n,a)]):=
 ⟨h.oh,h.ow,fun e he=>by
  rcases aoa.1 he with he|he
  ·exact h.ed e he
  ·rw[Q7.1 he];exact⟨h0,h1,h5⟩⟩
theorem SX.refl(h:FG nf M O H E):SX nf M O E 0 O H E:=⟨h,by omega,by omega,by omega⟩
theorem zN{α:Type}{l:List α}{x:α}(h:l.length≤2000000):bD l [x]=some (l++[x]):=oj (by simp;omega)
theorem qi(h:FG nf M O H E)(hl:O.length≤2000000)(fn:Int)(b:Bool):dn fn O H b=some ((O.length:Int),O++[fn],H++[b],()):=by
 simp only[go_sem,dn,zN hl,zN (show H.length≤2000000 by rw[h.oh];exact hl)]
 rw[aua,b9a,bw (by omega) (by omega)]
 simp
theorem tt(hl:E.length≤2000000)(f t k n a:Int):dx E f t k n a=some (E++[(f,t,k,n,a)],()):=by simp only[go_sem,dx,zN hl]
theorem ry(h:FG nf M O H E)(hl:O.length≤2000000)(fn:Int)(b:Bool):gg fn O H b=some ((O.length:Int),O++[fn],H++[b],()):=qi h hl fn b
theorem uB(hl:E.length≤2000000)(f t k n a:Int):fj E f t k n a=some (E++[(f,t,k,n,a)],()):=tt hl f t k n a
end
section
variable {nf M:Nat} {ns:List eu} {A:AS} {G:XS} {Fs:FS}
def CFI(nf M:Nat)(ns:List eu)(A:AS)(G:XS)(Fs:FS)(i:Nat):Prop:=Ev fun k=>∀(fn:Int) (O:XI) (H:XB) (E:ES) (En:XI) (la:SPS) (ki pl:XI) (p y z:Int),FG nf M O H E→0≤fn→fn<nf→0≤p→p<O.length→O.length+5 * wt ns (i:Int)≤1000000→E.length+5 * wt ns (i:Int)≤1000000→
 ∃ O' H' E',iB k fn O En H E la ns A G Fs ki pl [] [] [] [] [] [] [] (i:Int) p y z=some (O',H',E',())∧SX nf M O E (wt ns (i:Int)) O' H' E'
theorem abD(fk:jz ns):∀ n i,i<n→i<ns.length→(∀ x,ns[i]? = some x→tW x.1=true)→CFI nf M ns A G Fs i:=by
 intro n;induction n with
 |zero=>intro i h;omega
 |succ n ih=>
  intro i hi hl hcd;have hx:ns[i]? = some ns[i]:=by simp[hl]
  have hn:=fk i _ hx;have hcd:=hcd _ hx;have hw:=OY hx hn.cG;have AQ:bC ns (i:Int)=some ns[i]:=bf hx;generalize ns[i]=x at *;have Ku:∀ j∈x.2.2.2.2,tW (kd ns j)=true→CFI nf M ns A G Fs j.toNat∧((j.toNat:Nat):Int)=j:=fun j hj hc=>by
   have hj2:=hn.cG j hj;obtain⟨y,e1,e2,e3⟩:=vu (ns:=ns) hj2.1 (by omega)
   exact⟨ih j.toNat (by omega) (by omega) fun y' Gy=>by rw[e1] at Gy;cases Gy;rw[←e2];exact hc,aNa hj2.1⟩
  have du:=hn.shp;by_cases h33:x.1=33
  ·rw[h33] at du
   obtain⟨a,hK⟩:∃ a,x.2.2.2.2=[a]:=by
    rcases h:x.2.2.2.2 with _|⟨a,_|⟨b,r⟩⟩
    ·rw[h] at du;simp[cf] at du
    ·exact⟨a,rfl⟩
    ·rw[h] at du;simp[cf] at du
   rw[hK] at du;obtain⟨ca,ea⟩:=Ku a (by rw[hK];simp) (by simpa[cf] using du)
   unfold CFI at ca;rw[ea] at ca;rw[hK,o9] at hw;refine Ev.succ (ca.mono fun k e fn O H E En la ki pl p y z hg f0 f1 p0 p1 hO hE=>?_);obtain⟨O',H',E',w1,w2⟩:=e fn O H E En la ki pl p z y hg f0 f1 p0 p1 (by omega) (by omega)
   refine⟨O',H',E',?_,⟨w2.fg,w2.lo,by have:=w2.hi;omega,by have:=w2.eh;omega⟩⟩
   simp only[go_sem,iB,lP,AQ,h33,hK,show bC [a] 0=some a from rfl,w1]
  by_cases xE:x.1=31∨x.1=32
  ·obtain⟨a,b,hK⟩:∃ a b,x.2.2.2.2=[a,b]:=by
    rcases h:x.2.2.2.2 with _|⟨a,_|⟨b,_|⟨c,r⟩⟩⟩
    ·rcases xE with xE|xE<;>(rw[h,xE] at du;simp[cf] at du)
    ·rcases xE with xE|xE<;>(rw[h,xE] at du;simp[cf] at du)
    ·exact⟨a,b,rfl⟩
    ·rcases xE with xE|xE<;>(rw[h,xE] at du;simp[cf] at du)
   have hab:tW (kd ns a)=true∧tW (kd ns b)=true:=by rcases xE with xE|xE<;>(rw[hK,xE] at du;simpa[cf] using du)
   obtain⟨ca,ea⟩:=Ku a (by rw[hK];simp) hab.1
   obtain⟨cb,eb⟩:=Ku b (by rw[hK];simp) hab.2
   unfold CFI at ca cb;rw[ea] at ca;rw[eb] at cb;rw[hK,yG] at hw;refine Ev.succ ((ca.and cb).mono fun k e fn O H E En la ki pl p y z hg f0 f1 p0 p1 hO hE=>?_);obtain⟨ca,cb⟩:=e;have hp:=qi hg (show O.length≤2000000 by omega) fn false
   rcases xE with xE|xE
   ·obtain⟨O1,H1,E1,w1,w2⟩:=ca fn (O++[fn]) (H++[false]) E En la ki pl p (O.length:Int) z (hg.oC f0 f1 _) f0 f1 p0 (by simp;omega) (by simp;omega) (by omega)
    have l1:=w2.lo;have l2:=w2.hi;have l3:=w2.eh;simp only[aua,aDa,aCa] at l1 l2;obtain⟨O2,H2,E2,w3,w4⟩:=cb fn O1 H1 E1 En la ki pl (O.length:Int) y z w2.fg f0 f1 (by omega) (by omega) (by omega) (by omega)
    have k1:=w4.lo;have k2:=w4.hi;have k3:=w4.eh;refine⟨O2,H2,E2,?_,⟨w4.fg,by omega,by omega,by omega⟩⟩
    simp only[go_sem,iB,lP,AQ,xE,show((31:Int)==33)=false from rfl,hK,hp,show bC [a,b] 0=some a from rfl,w1,show bC [a,b] 1=some b from rfl,w3]
   ·obtain⟨O1,H1,E1,w1,w2⟩:=ca fn (O++[fn]) (H++[false]) E En la ki pl p y (O.length:Int) (hg.oC f0 f1 _) f0 f1 p0 (by simp;omega) (by simp;omega) (by omega)
    have l1:=w2.lo;have l2:=w2.hi;have l3:=w2.eh;simp only[aua,aDa,aCa] at l1 l2;obtain⟨O2,H2,E2,w3,w4⟩:=cb fn O1 H1 E1 En la ki pl (O.length:Int) y z w2.fg f0 f1 (by omega) (by omega) (by omega) (by omega)
    have k1:=w4.lo;have k2:=w4.hi;have k3:=w4.eh;refine⟨O2,H2,E2,?_,⟨w4.fg,by omega,by omega,by omega⟩⟩
    simp only[go_sem,iB,lP,AQ,xE,show((32:Int)==33)=false from rfl,show((32:Int)==31)=false from rfl,hK,hp,show bC [a,b] 0=some a from rfl,w1,show bC [a,b] 1=some b from rfl,w3]
  ·simp only[cka] at xE
   refine Ev.succ (Ev.of fun k fn O H E En la ki pl p y z hg f0 f1 p0 p1 hO hE=>?_);refine⟨O,H,E++[(p,y,3,(i:Int),1)]++[(p,z,3,(i:Int),0)],?_,⟨(hg.zx p0 p1 (fun h=>absurd h (by decide))).zx p0 p1 (fun h=>absurd h (by decide)),by omega,by omega,by simp;omega⟩⟩
   simp only[go_sem,iB,lP,AQ,Q6.2 h33,Q6.2 xE.1,Q6.2 xE.2,tt (show E.length≤2000000 by omega),tt (show(E++[(p,y,3,(i:Int),1)]).length≤2000000 by simp;omega)]
end
section
variable {nf M:Nat} {ns:List eu} {A:AS} {G:XS} {Fs:FS}
def CFS(nf M:Nat)(ns:List eu)(A:AS)(G:XS)(Fs:FS)(i:Nat):Prop:=Ev fun k=>∀(fn:Int) (O:XI) (H:XB) (E:ES) (En:XI) (fr to:XI) (p y z:Int),FG nf M O H E→0≤fn→fn<nf→0≤p→p<O.length→O.length+5 * wt ns (i:Int)≤1000000→E.length+5 * wt ns (i:Int)≤1000000→
 ∃ O' H' E',jV k A G Fs ns fn O En H E fr to (i:Int) p y z=some (O',H',E',())∧SX nf M O E (wt ns (i:Int)) O' H' E'
theorem abE(fk:jz ns):∀ n i,i<n→i<ns.length→(∀ x,ns[i]? = some x→tW x.1=true)→CFS nf M ns A G Fs i:=by
 intro n;induction n with
 |zero=>intro i h;omega
 |succ n ih=>
  intro i hi hl hcd;have hx:ns[i]? = some ns[i]:=by simp[hl]
  have hn:=fk i _ hx;have hcd:=hcd _ hx;have hw:=OY hx hn.cG;have AQ:bC ns (i:Int)=some ns[i]:=bf hx;generalize ns[i]=x at *;have Ku:∀ j∈x.2.2.2.2,tW (kd ns j)=true→CFS nf M ns A G Fs j.toNat∧((j.toNat:Nat):Int)=j:=fun j hj hc=>by
   have hj2:=hn.cG j hj;obtain⟨y,e1,e2,e3⟩:=vu (ns:=ns) hj2.1 (by omega)
   exact⟨ih j.toNat (by omega) (by omega) fun y' Gy=>by rw[e1] at Gy;cases Gy;rw[←e2];exact hc,aNa hj2.1⟩
  have du:=hn.shp;by_cases h33:x.1=33
  ·rw[h33] at du
   obtain⟨a,hK⟩:∃ a,x.2.2.2.2=[a]:=by
    rcases h:x.2.2.2.2 with _|⟨a,_|⟨b,r⟩⟩
    ·rw[h] at du;simp[cf] at du
    ·exact⟨a,rfl⟩
    ·rw[h] at du;simp[cf] at du
   rw[hK] at du;obtain⟨ca,ea⟩:=Ku a (by rw[hK];simp) (by simpa[cf] using du)
   unfold CFS at ca;rw[ea] at ca;rw[hK,o9] at hw;refine Ev.succ (ca.mono fun k e fn O H E En fr to p y z hg f0 f1 p0 p1 hO hE=>?_);obtain⟨O',H',E',w1,w2⟩:=e fn O H E En fr to p z y hg f0 f1 p0 p1 (by omega) (by omega)
   refine⟨O',H',E',?_,⟨w2.fg,w2.lo,by have:=w2.hi;omega,by have:=w2.eh;omega⟩⟩
   simp only[go_sem,jV,nO,AQ,h33,hK,show bC [a] 0=some a from rfl,w1]
  by_cases xE:x.1=31∨x.1=32
  ·obtain⟨a,b,hK⟩:∃ a b,x.2.2.2.2=[a,b]:=by
    rcases h:x.2.2.2.2 with _|⟨a,_|⟨b,_|⟨c,r⟩⟩⟩
    ·rcases xE with xE|xE<;>(rw[h,xE] at du;simp[cf] at du)
    ·rcases xE with xE|xE<;>(rw[h,xE] at du;simp[cf] at du)
    ·exact⟨a,b,rfl⟩
    ·rcases xE with xE|xE<;>(rw[h,xE] at du;simp[cf] at du)
   have hab:tW (kd ns a)=true∧tW (kd ns b)=true:=by rcases xE with xE|xE<;>(rw[hK,xE] at du;simpa[cf] using du)
   obtain⟨ca,ea⟩:=Ku a (by rw[hK];simp) hab.1
   obtain⟨cb,eb⟩:=Ku b (by rw[hK];simp) hab.2
   unfold CFS at ca cb;rw[ea] at ca;rw[eb] at cb;rw[hK,yG] at hw;refine Ev.succ ((ca.and cb).mono fun k e fn O H E En fr to p y z hg f0 f1 p0 p1 hO hE=>?_);obtain⟨ca,cb⟩:=e;have hp:=ry hg (show O.length≤2000000 by omega) fn false
   rcases xE with xE|xE
   ·obtain⟨O1,H1,E1,w1,w2⟩:=ca fn (O++[fn]) (H++[false]) E En fr to p (O.length:Int) z (hg.oC f0 f1 _) f0 f1 p0 (by simp;omega) (by simp;omega) (by omega)
    have l1:=w2.lo;have l2:=w2.hi;have l3:=w2.eh;simp only[aua,aDa,aCa] at l1 l2;obtain⟨O2,H2,E2,w3,w4⟩:=cb fn O1 H1 E1 En fr to (O.length:Int) y z w2.fg f0 f1 (by omega) (by omega) (by omega) (by omega)
    have k1:=w4.lo;have k2:=w4.hi;have k3:=w4.eh;refine⟨O2,H2,E2,?_,⟨w4.fg,by omega,by omega,by omega⟩⟩
    simp only[go_sem,jV,nO,AQ,xE,show((31:Int)==33)=false from rfl,hK,hp,show bC [a,b] 0=some a from rfl,w1,show bC [a,b] 1=some b from rfl,w3]
   ·obtain⟨O1,H1,E1,w1,w2⟩:=ca fn (O++[fn]) (H++[false]) E En fr to p y (O.length:Int) (hg.oC f0 f1 _) f0 f1 p0 (by simp;omega) (by simp;omega) (by omega)
    have l1:=w2.lo;have l2:=w2.hi;have l3:=w2.eh;simp only[aua,aDa,aCa] at l1 l2;obtain⟨O2,H2,E2,w3,w4⟩:=cb fn O1 H1 E1 En fr to (O.length:Int) y z w2.fg f0 f1 (by omega) (by omega) (by omega) (by omega)
    have k1:=w4.lo;have k2:=w4.hi;have k3:=w4.eh;refine⟨O2,H2,E2,?_,⟨w4.fg,by omega,by omega,by omega⟩⟩
    simp only[go_sem,jV,nO,AQ,xE,show((32:Int)==33)=false from rfl,show((32:Int)==31)=false from rfl,hK,hp,show bC [a,b] 0=some a from rfl,w1,show bC [a,b] 1=some b from rfl,w3]
  ·simp only[cka] at xE
   refine Ev.succ (Ev.of fun k fn O H E En fr to p y z hg f0 f1 p0 p1 hO hE=>?_);refine⟨O,H,E++[(p,y,3,(i:Int),1)]++[(p,z,3,(i:Int),0)],?_,⟨(hg.zx p0 p1 (fun h=>absurd h (by decide))).zx p0 p1 (fun h=>absurd h (by decide)),by omega,by omega,by simp;omega⟩⟩
   simp only[go_sem,jV,nO,AQ,Q6.2 h33,Q6.2 xE.1,Q6.2 xE.2,uB (show E.length≤2000000 by omega),uB (show(E++[(p,y,3,(i:Int),1)]).length≤2000000 by simp;omega)]
end
end Go.Fx.R5
namespace Go.Fx.R5
open Go Go.Fx
def U3(ns:List eu)(M:Nat)(pl:XI):Prop:=∀(j:Nat) (x:eu),ns[j]? = some x→x.1=23→∃ v,pl[j]? = some v∧0≤v∧v<(M:Int)
structure acU(nf M:Nat)(O:XI)(E:ES)(w:Nat)(O':XI)(H':XB)(E':ES):Prop where
 fg:FG nf M O' H' E'
 lo:O.length≤O'.length
 hi:O'.length+1≤O.length+5 * w
 eh:E'.length+1≤E.length+5 * w
theorem Fo(ns:List eu)(a:Int)(l:XI):jM ns (a::l)=wt ns a+jM ns l:=by simp[jM]
section
variable {nf M:Nat} {ns:List eu} {A:AS} {G:XS} {Fs:FS}
theorem TL(k:Nat):jK (k+1)=m6 (jK k) (gu k) k:=rfl
theorem ug(k:Nat):gu (k+1)=cT (jK k) (gu k) k:=rfl
def SFI(nf M:Nat)(ns:List eu)(A:AS)(G:XS)(Fs:FS)(i:Nat):Prop:=Ev fun k=>∀(ki pl:XI),U3 ns M pl→∀(fn:Int) (O:XI) (H:XB) (E:ES) (En:XI) (la:SPS) (p q:Int),FG nf M O H E→0≤fn→fn<nf→0≤p→p<O.length→la.length=ns.length→O.length+5 * wt ns (i:Int)≤1000000→E.length+5 * wt ns (i:Int)≤1000000→
 ∃ O' H' E' la',gu k fn O En H E la ns A G Fs ki pl [] [] [] [] [] [] [] (i:Int) p q=some (O',H',E',la',())∧acU nf M O E (wt ns (i:Int)) O' H' E'∧la'.length=ns.length
def BFI(nf M:Nat)(ns:List eu)(A:AS)(G:XS)(Fs:FS)(i:Nat):Prop:=Ev fun k=>∀(ki pl:XI),U3 ns M pl→∀(fn:Int) (O:XI) (H:XB) (E:ES) (En:XI) (la:SPS) (p q:Int),FG nf M O H E→0≤fn→fn<nf→0≤p→p<O.length→la.length=ns.length→O.length+5 * wt ns (i:Int)≤1000000→E.length+5 * wt ns (i:Int)≤1000000→
 ∃ O' H' E' la',jK k fn O En H E la ns A G Fs ki pl [] [] [] [] [] [] [] (i:Int) p q=some (O',H',E',la',())∧SX nf M O E (wt ns (i:Int)) O' H' E'∧la'.length=ns.length
theorem S5{K:XI}(AD:K.length≤5000)(rQ:∀ j∈K,1≤wt ns j)(hK:∀ j∈K,((j.toNat:Nat):Int)=j∧SFI nf M ns A G Fs j.toNat):∀ m s,m+s=K.length→cq fun qq k=>∀(ki pl:XI),U3 ns M pl→∀(fn:Int) (O:XI) (H:XB) (E:ES) (En:XI) (la:SPS) (p q:Int),FG nf M O H E→0≤fn→fn<nf→(s<K.length→0≤p∧p<O.length)→la.length=ns.length→
  O.length+5 * jM ns (K.drop s)≤1000000→E.length+5 * jM ns (K.drop s)≤1000000→
  ∃ O' H' E' la',hU (jK qq) (gu qq) qq k ns A G Fs ki pl [] [] [] [] [] [] [] fn En q K K (K.length:Int) O H E la p (s:Int)=some (O',H',E',la',())∧SX nf M O E (jM ns (K.drop s)) O' H' E'∧la'.length=ns.length
 |0,s,h=>by
  have h2:¬ s<K.length:=by omega
  refine cq.succ (cq.of fun qq k ki pl zB fn O H E En la p q hg f0 f1 hp My hO hE=>⟨O,H,E,la,?_,⟨hg,by omega,by omega,by omega⟩,My⟩)
  simp only[go_sem,hU,Q5,h2]
 |m+1,s,h=>by
  have bg:s<K.length:=by omega
  have hd:K.drop s=K[s]::K.drop (s+1):=aQa bg;obtain⟨ej,hj⟩:=hK _ (aRa bg);have hks:jM ns (K.drop s)=wt ns K[s]+jM ns (K.drop (s+1)):=by rw[hd,Fo]
  unfold SFI at hj;rw[ej] at hj;refine cq.succ ((hj.tj.and (S5 AD rQ hK m (s+1) (by omega))).mono fun qq k e ki pl zB fn O H E En la p q hg f0 f1 hp My hO hE=>?_)
  obtain⟨e1,e2⟩:=e;obtain⟨p0,p1⟩:=hp bg;have hw1:bh ((K.length:Int) - 1)=((K.length - 1:Nat):Int):=by rw[bw (by omega) (by omega)];omega
  rw[hks] at hO hE;by_cases hl:s<K.length - 1
  ·have hpt:=qi hg (show O.length≤2000000 by omega) fn false
   have B0:=hg.oC f0 f1 false;by_cases abQ:(O++[fn]).length+5 * wt ns K[s]≤1000000
   ·obtain⟨O1,H1,E1,la1,w1,w2,w3⟩:=e1 ki pl zB fn (O++[fn]) (H++[false]) E En la p (O.length:Int) B0 f0 f1 p0 (by simp;omega) My abQ (by omega)
    have l1:=w2.lo;have l2:=w2.hi;have l3:=w2.eh;simp only[aua,aDa,aCa] at l1 l2;obtain⟨O2,H2,E2,la2,w4,w5,w6⟩:=e2 ki pl zB fn O1 H1 E1 En la1 (O.length:Int) q w2.fg f0 f1 (fun _=>⟨by omega,by omega⟩) w3 (by omega) (by omega)
    have k1:=w5.lo;have k2:=w5.hi;have k3:=w5.eh;refine⟨O2,H2,E2,la2,?_,⟨w5.fg,by omega,by rw[hks];omega,by rw[hks];omega⟩,w6⟩
    simp only[go_sem,hU,aa,Q5,bg,cB bg,hw1,hl,hpt,w1,ai (show s<_ by omega),w4]
   ·exfalso
    simp only[aua,aDa,aCa] at abQ;have ZJ:s+1<K.length:=by omega
    have hd2:K.drop (s+1)=K[s+1]::K.drop (s+1+1):=aQa ZJ;rw[hd2,Fo] at hO;have:=rQ K[s+1] (aRa ZJ);omega
  ·obtain⟨O1,H1,E1,la1,w1,w2,w3⟩:=e1 ki pl zB fn O H E En la p q hg f0 f1 p0 p1 My (by omega) (by omega)
   have l1:=w2.lo;have l2:=w2.hi;have l3:=w2.eh;obtain⟨O2,H2,E2,la2,w4,w5,w6⟩:=e2 ki pl zB fn O1 H1 E1 En la1 q q w2.fg f0 f1 (fun hh=>by omega) w3 (by omega) (by omega)
   have k1:=w5.lo;have k2:=w5.hi;have k3:=w5.eh;refine⟨O2,H2,E2,la2,?_,⟨w5.fg,by omega,by rw[hks];omega,by rw[hks];omega⟩,w6⟩
   simp only[go_sem,hU,aa,Q5,bg,cB bg,hw1,hl,w1,ai (show s<_ by omega),w4]
theorem adR{i:Nat}{x:eu}(hx:ns[i]? = some x)(hn:oi ns i x)(hw:wt ns (i:Int)=1+jM ns x.2.2.2.2)(rQ:∀ j∈x.2.2.2.2,1≤wt ns j)(hK:∀ j∈x.2.2.2.2,((j.toNat:Nat):Int)=j∧SFI nf M ns A G Fs j.toNat):BFI nf M ns A G Fs i:=by
 refine Ev.succ ((S5 (by have:=hn.nm.2;omega) rQ hK x.2.2.2.2.length 0 rfl).jY.mono fun k e ki pl zB fn O H E En la p q hg f0 f1 p0 p1 My hO hE=>?_)
 rw[bMa] at e;by_cases h0:x.2.2.2.2.length=0
 ·refine⟨O,H,E++[(p,q,1,-1,0)],la,?_,⟨hg.zx p0 p1 (fun h=>absurd h (by decide)),by omega,by omega,by simp;omega⟩,My⟩
  simp only[go_sem,TL,m6,bf hx,h0,show(((0:Nat):Int)==0)=true from rfl,tt (show E.length≤2000000 by omega)]
 ·obtain⟨O',H',E',la',w1,w2,w3⟩:=e ki pl zB fn O H E En la p q hg f0 f1 (fun _=>⟨p0,p1⟩) My (by omega) (by omega)
  refine⟨O',H',E',la',?_,⟨w2.fg,w2.lo,by have:=w2.hi;omega,by have:=w2.eh;omega⟩,w3⟩
  have w1:hU (jK k) (gu k) k k ns A G Fs ki pl [] [] [] [] [] [] [] fn En q x.2.2.2.2 x.2.2.2.2 (x.2.2.2.2.length:Int) O H E la p 0=_:=w1;simp only[go_sem,TL,m6,bf hx,show((x.2.2.2.2.length:Int)==0)=false from Q6.2 (by omega),w1]
theorem aeR(fk:jz ns){i:Nat}{x:eu}(hx:ns[i]? = some x)(hn:oi ns i x)(hw:wt ns (i:Int)=1+jM ns x.2.2.2.2)(IH:∀ j∈x.2.2.2.2,((j.toNat:Nat):Int)=j∧(kd ns j=8→BFI nf M ns A G Fs j.toNat)):SFI nf M ns A G Fs i:=by
 have du:=hn.shp;have AQ:bC ns (i:Int)=some x:=bf hx;have F6:i<ns.length:=(aka.1 hx).1;have Pu:∀(la:SPS) (v:Int×Int×Int×Int),la.length=ns.length→∃ y,bC la (i:Int)=some y∧(la.set i v).length=ns.length:=fun la v My=>⟨la[i]'(by omega),cB (by omega),by simp[My]⟩
 have N0:∀ j∈x.2.2.2.2,tW (kd ns j)=true→((j.toNat:Nat):Int)=j∧CFI nf M ns A G Fs j.toNat:=fun j hj hc=>by
  have hj2:=hn.cG j hj;obtain⟨y,e1,e2,e3⟩:=vu (ns:=ns) hj2.1 (by omega)
  exact⟨aNa hj2.1,abD fk (j.toNat+1) j.toNat (by omega) (by omega) fun y' Gy=>by rw[e1] at Gy;cases Gy;rw[←e2];exact hc⟩
 by_cases h14:x.1=14
 ·rw[h14] at du
  have hb:∃ a b r,x.2.2.2.2=a::b::r∧tW (kd ns a)=true∧kd ns b=8∧(r=[]∨∃ c,r=[c]∧kd ns c=8):=by
   rcases h:x.2.2.2.2 with _|⟨a,_|⟨b,_|⟨c,_|⟨d,r⟩⟩⟩⟩
   ·rw[h] at du;simp[cf] at du
   ·rw[h] at du;simp[cf] at du
   ·rw[h] at du;simp[cf] at du;exact⟨a,b,[],rfl,du.1,du.2,.inl rfl⟩
   ·rw[h] at du;simp[cf] at du;exact⟨a,b,[c],rfl,du.1.1,du.1.2,.inr ⟨c,rfl,du.2⟩⟩
   ·rw[h] at du;simp[cf] at du
  obtain⟨a,b,r,hK,ha,hb,hr⟩:=hb;obtain⟨ea,ca⟩:=N0 a (by rw[hK];simp) ha
  obtain⟨eb,cb⟩:=IH b (by rw[hK];simp)
  have cb:=cb hb;unfold CFI at ca;unfold BFI at cb;rw[ea] at ca;rw[eb] at cb;rcases hr with rfl|⟨c,rfl,hc8⟩
  ·rw[hK,yG] at hw
   refine Ev.succ ((ca.and cb).mono fun k e ki pl zB fn O H E En la p q hg f0 f1 p0 p1 My hO hE=>?_);obtain⟨ca,cb⟩:=e;have hp:=qi hg (show O.length≤2000000 by omega) fn false
   obtain⟨O1,H1,E1,w1,w2⟩:=ca fn (O++[fn]) (H++[false]) E En la ki pl p (O.length:Int) q (hg.oC f0 f1 _) f0 f1 p0 (by simp;omega) (by simp;omega) (by omega)
   have l1:=w2.lo;have l2:=w2.hi;have l3:=w2.eh;simp only[aua,aDa,aCa] at l1 l2;obtain⟨O2,H2,E2,la2,w3,w4,w5⟩:=cb ki pl zB fn O1 H1 E1 En la (O.length:Int) q w2.fg f0 f1 (by omega) (by omega) My (by omega) (by omega)
   have k1:=w4.lo;have k2:=w4.hi;have k3:=w4.eh;obtain⟨y,y1,y2⟩:=Pu la2 (p,q,(O.length:Int),q) w5;refine⟨O2,H2,E2,la2.set i (p,q,(O.length:Int),q),?_,⟨w4.fg,by omega,by omega,by omega⟩,y2⟩
   simp only[go_sem,ug,cT,aa,AQ,h14,hp,hK,aDa,aCa,show(((0+1+1:Nat):Int)==3)=false from rfl,show bC [a,b] 0=some a from rfl,w1,show bC [a,b] 1=some b from rfl,w3,aAa,y1]
  ·obtain⟨ec,cc⟩:=IH c (by rw[hK];simp)
   have cc:=cc hc8;unfold BFI at cc;rw[ec] at cc;rw[hK,Qw] at hw;refine Ev.succ ((ca.and (cb.and cc)).mono fun k e ki pl zB fn O H E En la p q hg f0 f1 p0 p1 My hO hE=>?_);obtain⟨ca,cb,cc⟩:=e;have hp:=qi hg (show O.length≤2000000 by omega) fn false
   have B0:=hg.oC f0 f1 false;have If:=qi B0 (show(O++[fn]).length≤2000000 by simp;omega) fn false
   have Mw:=B0.oC f0 f1 false;obtain⟨O1,H1,E1,w1,w2⟩:=ca fn (O++[fn]++[fn]) (H++[false]++[false]) E En la ki pl p (O.length:Int) ((O++[fn]).length:Int) Mw f0 f1 p0 (by simp;omega) (by simp;omega) (by omega)
   have l1:=w2.lo;have l2:=w2.hi;have l3:=w2.eh;simp only[aua,aDa,aCa] at l1 l2;obtain⟨O2,H2,E2,la2,w3,w4,w5⟩:=cb ki pl zB fn O1 H1 E1 En la (O.length:Int) q w2.fg f0 f1 (by omega) (by omega) My (by omega) (by omega)
   have k1:=w4.lo;have k2:=w4.hi;have k3:=w4.eh;obtain⟨O3,H3,E3,la3,w6,w7,w8⟩:=cc ki pl zB fn O2 H2 E2 En la2 ((O++[fn]).length:Int) q w4.fg f0 f1 (by omega) (by simp;omega) w5 (by omega) (by omega)
   have j1:=w7.lo;have j2:=w7.hi;have j3:=w7.eh;obtain⟨y,y1,y2⟩:=Pu la3 (p,q,(O.length:Int),((O++[fn]).length:Int)) w8;refine⟨O3,H3,E3,la3.set i (p,q,(O.length:Int),((O++[fn]).length:Int)),?_,⟨w7.fg,by omega,by omega,by omega⟩,y2⟩
   simp only[go_sem,ug,cT,aa,AQ,h14,hp,If,hK,show((([a,b,c]:XI).length:Int)==3)=true from rfl,show bC [a,b,c] 0=some a from rfl,w1,show bC [a,b,c] 1=some b from rfl,w3,show bC [a,b,c] 2=some c from rfl,w6,aAa,y1]
 by_cases h15:x.1=15
 ·rw[h15] at du
  obtain⟨a,b,hK,ha,hb⟩:∃ a b,x.2.2.2.2=[a,b]∧tW (kd ns a)=true∧kd ns b=8:=by
   rcases h:x.2.2.2.2 with _|⟨a,_|⟨b,_|⟨c,r⟩⟩⟩
   ·rw[h] at du;simp[cf] at du
   ·rw[h] at du;simp[cf] at du
   ·rw[h] at du;simp[cf] at du;exact⟨a,b,rfl,du.1,du.2⟩
   ·rw[h] at du;simp[cf] at du
  obtain⟨ea,ca⟩:=N0 a (by rw[hK];simp) ha
  obtain⟨eb,cb⟩:=IH b (by rw[hK];simp)
  have cb:=cb hb;unfold CFI at ca;unfold BFI at cb;rw[ea] at ca;rw[eb] at cb;rw[hK,yG] at hw;refine Ev.succ ((ca.and cb).mono fun k e ki pl zB fn O H E En la p q hg f0 f1 p0 p1 My hO hE=>?_);obtain⟨ca,cb⟩:=e;have hp:=qi hg (show O.length≤2000000 by omega) fn true
  have B0:=hg.oC f0 f1 true;have If:=qi B0 (show(O++[fn]).length≤2000000 by simp;omega) fn false
  have Mw:=(B0.oC f0 f1 false).zx (f:=p) (t:=(O.length:Int)) (k:=1) (n:=-1) (a:=0) p0 (by simp<;>omega) (fun h=>absurd h (by decide))
  obtain⟨O1,H1,E1,w1,w2⟩:=ca fn (O++[fn]++[fn]) (H++[true]++[false]) (E++[(p,(O.length:Int),1,-1,0)]) En la ki pl (O.length:Int) ((O++[fn]).length:Int) q Mw f0 f1 (by omega) (by simp;omega) (by simp;omega) (by simp;omega)
  have l1:=w2.lo;have l2:=w2.hi;have l3:=w2.eh;simp only[aua,aDa,aCa] at l1 l2 l3;obtain⟨O2,H2,E2,la2,w3,w4,w5⟩:=cb ki pl zB fn O1 H1 E1 En la ((O++[fn]).length:Int) (O.length:Int) w2.fg f0 f1 (by omega) (by simp;omega) My (by omega) (by omega)
  have k1:=w4.lo;have k2:=w4.hi;have k3:=w4.eh;obtain⟨y,y1,y2⟩:=Pu la2 (p,q,((O++[fn]).length:Int),q) w5;refine⟨O2,H2,E2,la2.set i (p,q,((O++[fn]).length:Int),q),?_,⟨w4.fg,by omega,by omega,by omega⟩,y2⟩
  simp only[go_sem,ug,cT,aa,AQ,h15,show((15:Int)==14)=false from rfl,hp,If,tt (show E.length≤2000000 by omega),hK,show bC [a,b] 0=some a from rfl,w1,show bC [a,b] 1=some b from rfl,w3,aAa,y1]
 by_cases Gu:x.1=16
 ·rw[Gu] at du
  obtain⟨a,b,c,hK,hb⟩:∃ a b c,x.2.2.2.2=[a,b,c]∧kd ns c=8:=by
   rcases h:x.2.2.2.2 with _|⟨a,_|⟨b,_|⟨c,_|⟨d,r⟩⟩⟩⟩
   ·rw[h] at du;simp[cf] at du
   ·rw[h] at du;simp[cf] at du
   ·rw[h] at du;simp[cf] at du
   ·rw[h] at du;simp[cf] at du;exact⟨a,b,c,rfl,du.2⟩
   ·rw[h] at du;simp[cf] at du
  obtain⟨ec,cc⟩:=IH c (by rw[hK];simp)
  have cc:=cc hb;unfold BFI at cc;rw[ec] at cc;rw[hK,Qw] at hw;refine Ev.succ (cc.mono fun k cc ki pl zB fn O H E En la p q hg f0 f1 p0 p1 My hO hE=>?_);have hp:=qi hg (show O.length≤2000000 by omega) fn true
  have B0:=hg.oC f0 f1 true;have If:=qi B0 (show(O++[fn]).length≤2000000 by simp;omega) fn false
  have Mw:=B0.oC f0 f1 false;have hg3:=Mw.zx (f:=p) (t:=(O.length:Int)) (k:=8) (n:=(i:Int)) (a:=0) p0 (by simp<;>omega) (fun h=>absurd h (by decide))
  have hg4:=hg3.zx (f:=(O.length:Int)) (t:=((O++[fn]).length:Int)) (k:=9) (n:=(i:Int)) (a:=1) (by omega) (by simp<;>omega) (fun h=>absurd h (by decide))
  have hg5:=hg4.zx (f:=(O.length:Int)) (t:=q) (k:=9) (n:=(i:Int)) (a:=0) (by omega) (by simp<;>omega) (fun h=>absurd h (by decide))
  have hp3:=qi hg5 (show(O++[fn]++[fn]).length≤2000000 by simp;omega) fn false
  have hg6:=hg5.oC f0 f1 false;obtain⟨O2,H2,E2,la2,w3,w4,w5⟩:=cc ki pl zB fn _ _ _ En la ((O++[fn]).length:Int) ((O++[fn]++[fn]).length:Int) hg6 f0 f1 (by simp<;>omega) (by simp<;>omega) My (by simp<;>omega) (by simp<;>omega)
  have k1:=w4.lo;have k2:=w4.hi;have k3:=w4.eh;simp only[aua,aDa,aCa] at k1 k2 k3;obtain⟨y,y1,y2⟩:=Pu la2 (p,q,((O++[fn]).length:Int),q) w5;refine⟨O2,H2,E2++[(((O++[fn]++[fn]).length:Int),(O.length:Int),10,(i:Int),0)],la2.set i (p,q,((O++[fn]).length:Int),q),?_,⟨w4.fg.zx (by omega) (by simp;omega) (fun h=>absurd h (by decide)),by omega,by omega,by simp;omega⟩,y2⟩
  simp only[go_sem,ug,cT,aa,AQ,Gu,show((16:Int)==14)=false from rfl,show((16:Int)==15)=false from rfl,hp,If,tt (show E.length≤2000000 by omega),tt (show(E++[(p,(O.length:Int),8,(i:Int),0)]).length≤2000000 by simp;omega),tt (show(E++[(p,(O.length:Int),8,(i:Int),0)]++[((O.length:Int),((O++[fn]).length:Int),9,(i:Int),1)]).length≤2000000 by simp;omega),hp3,hK,show bC [a,b,c] 2=some c from rfl,w3,tt (show E2.length≤2000000 by omega),aAa,y1]
 by_cases h19:x.1=19
 ·rw[h19] at du
  obtain⟨a,hK,ha⟩:∃ a,x.2.2.2.2=[a]∧tW (kd ns a)=true:=by
   rcases h:x.2.2.2.2 with _|⟨a,_|⟨b,r⟩⟩
   ·rw[h] at du;simp[cf] at du
   ·rw[h] at du;simp[cf] at du;exact⟨a,rfl,du⟩
   ·rw[h] at du;simp[cf] at du
  obtain⟨ea,ca⟩:=N0 a (by rw[hK];simp) ha
  unfold CFI at ca;rw[ea] at ca;rw[hK,o9] at hw;refine Ev.succ (ca.mono fun k ca ki pl zB fn O H E En la p q hg f0 f1 p0 p1 My hO hE=>?_);have hp:=qi hg (show O.length≤2000000 by omega) fn false
  obtain⟨O1,H1,E1,w1,w2⟩:=ca fn (O++[fn]) (H++[false]) E En la ki pl p q (O.length:Int) (hg.oC f0 f1 _) f0 f1 p0 (by simp;omega) (by simp;omega) (by omega)
  have l1:=w2.lo;have l2:=w2.hi;have l3:=w2.eh;simp only[aua,aDa,aCa] at l1 l2;obtain⟨y,y1,y2⟩:=Pu la (p,q,q,(O.length:Int)) My;refine⟨O1,H1,E1++[((O.length:Int),(O.length:Int),4,(i:Int),0)],la.set i (p,q,q,(O.length:Int)),?_,⟨w2.fg.zx (by omega) (by omega) (fun h=>absurd h (by decide)),by omega,by omega,by simp;omega⟩,y2⟩
  simp only[go_sem,ug,cT,aa,AQ,h19,show((19:Int)==14)=false from rfl,show((19:Int)==15)=false from rfl,show((19:Int)==16)=false from rfl,hp,hK,show bC [a] 0=some a from rfl,w1,tt (show E1.length≤2000000 by omega),aAa,y1]
 have one:∀(mk:XI→Int→Int→Int×Int×Int×Int×Int),(∀ pl p q,U3 ns M pl→(mk pl p q).1=p∧((mk pl p q).2.2.1=5→0≤(mk pl p q).2.2.2.2∧(mk pl p q).2.2.2.2<(M:Int)))→
   (∀ k ki pl fn O H E En la p q y,U3 ns M pl→E.length≤2000000→bC la (i:Int)=some y→gu (k+1) fn O En H E la ns A G Fs ki pl [] [] [] [] [] [] [] (i:Int) p q=some (O,H,E++[mk pl p q],la.set i (p,q,0,0),()))→SFI nf M ns A G Fs i:=fun mk h1 h2=>
  Ev.succ (Ev.of fun k ki pl zB fn O H E En la p q hg f0 f1 p0 p1 My hO hE=>by
   obtain⟨y,y1,y2⟩:=Pu la (p,q,0,0) My;obtain⟨g1,g2⟩:=h1 pl p q zB;refine⟨O,H,E++[mk pl p q],_,h2 k ki pl fn O H E En la p q y zB (by omega) y1,⟨?_,by omega,by omega,by simp;omega⟩,y2⟩
   have:=hg.zx (f:=(mk pl p q).1) (t:=(mk pl p q).2.1) (k:=(mk pl p q).2.2.1) (n:=(mk pl p q).2.2.2.1) (a:=(mk pl p q).2.2.2.2) (by rw[g1];exact p0) (by rw[g1];exact p1) g2
   exact this)
 have n14:=Q6.2 h14;have n15:=Q6.2 h15;have n16:=Q6.2 Gu;have n19:=Q6.2 h19;by_cases h21:x.1=21
 ·refine one (fun _ p q=>(p,p,6,(i:Int),0)) (fun pl p q _=>⟨rfl,fun h=>by simp at h⟩) (fun k ki pl fn O H E En la p q y _ hE hy=>?_)
  simp only[go_sem,ug,cT,aa,AQ,h21,show((21:Int)==14)=false from rfl,show((21:Int)==15)=false from rfl,show((21:Int)==16)=false from rfl,show((21:Int)==19)=false from rfl,tt hE,aAa,hy]
 have n21:=Q6.2 h21;by_cases h20:x.1=20
 ·refine one (fun _ p q=>(p,p,7,(i:Int),0)) (fun pl p q _=>⟨rfl,fun h=>by simp at h⟩) (fun k ki pl fn O H E En la p q y _ hE hy=>?_)
  simp only[go_sem,ug,cT,aa,AQ,h20,show((20:Int)==14)=false from rfl,show((20:Int)==15)=false from rfl,show((20:Int)==16)=false from rfl,show((20:Int)==19)=false from rfl,show((20:Int)==21)=false from rfl,tt hE,aAa,hy]
 have n20:=Q6.2 h20;by_cases Er:x.1=22
 ·rw[Er] at du
  obtain⟨u,r,hK,hu⟩:∃ u r,x.2.2.2.2=u::r∧kd ns u=23:=by
   cases h:x.2.2.2.2 with
   |nil=>rw[h] at du;simp[cf] at du
   |cons u r=>rw[h] at du;simp[cf] at du;exact⟨u,r,rfl,du.1⟩
  have hu2:=hn.cG u (by rw[hK];simp)
  obtain⟨y,e1,e2,e3⟩:=vu (ns:=ns) hu2.1 (by omega)
  refine one (fun pl p q=>(p,q,5,(i:Int),(pl[u.toNat]?).getD 0)) (fun pl p q zB=>?_) (fun k ki pl fn O H E En la p q y' zB hE hy=>?_)
  ·obtain⟨v,v1,v2,v3⟩:=zB u.toNat y e1 (by rw[←e2];exact hu)
   refine⟨rfl,fun _=>?_⟩;simp only[v1,cca];exact⟨v2,v3⟩
  obtain⟨v,v1,v2,v3⟩:=zB u.toNat y e1 (by rw[←e2];exact hu)
  have iu:bC pl u=some v:=by rw[←aNa hu2.1];exact bf v1
  have iu2:bC pl ((u.toNat:Nat):Int)=some v:=bf v1;simp only[v1,cca];simp only[go_sem,ug,cT,aa,AQ,Er,show((22:Int)==14)=false from rfl,show((22:Int)==15)=false from rfl,show((22:Int)==16)=false from rfl,show((22:Int)==19)=false from rfl,show((22:Int)==21)=false from rfl,show((22:Int)==20)=false from rfl,hK,show bC (u::r) 0=some u from rfl,iu,iu2,tt hE,aAa,hy]
 have n22:=Q6.2 Er;refine one (fun _ p q=>(p,q,2,(i:Int),0)) (fun pl p q _=>⟨rfl,fun h=>by simp at h⟩) (fun k ki pl fn O H E En la p q y _ hE hy=>?_)
 simp only[go_sem,ug,cT,aa,AQ,n14,n15,n16,n19,n21,n20,n22,tt hE,aAa,hy]
theorem X3(fk:jz ns):∀ n i,i<n→i<ns.length→(kd ns (i:Int)=8→BFI nf M ns A G Fs i)∧SFI nf M ns A G Fs i:=by
 intro n;induction n with
 |zero=>intro i h;omega
 |succ n ih=>
  intro i hi hl;have hx:ns[i]? = some ns[i]:=by simp[hl]
  have hn:=fk i _ hx;have hw:=OY hx hn.cG;have Ku:∀ j∈ns[i].2.2.2.2,((j.toNat:Nat):Int)=j∧j.toNat<n∧j.toNat<ns.length:=fun j hj=>by have:=hn.cG j hj;exact⟨aNa this.1,by omega,by omega⟩
  refine⟨fun h8=>adR hx hn hw (fun j hj=>?_) fun j hj=>⟨(Ku j hj).1,(ih j.toNat (Ku j hj).2.1 (Ku j hj).2.2).2⟩,aeR fk hx hn hw fun j hj=>⟨(Ku j hj).1,fun h8=>(ih j.toNat (Ku j hj).2.1 (Ku j hj).2.2).1 (by rw[(Ku j hj).1];exact h8)⟩⟩
  have hj:=hn.cG j hj;obtain⟨y,e1,e2,e3⟩:=vu (ns:=ns) hj.1 (by omega)
  have:=OY e1 (fk _ _ e1).cG;rw[aNa hj.1] at this;omega
end
end Go.Fx.R5
namespace Go.Fx.R5
open Go Go.Fx
section
variable {nf M:Nat} {ns:List eu} {A:AS} {G:XS} {Fs:FS}
theorem UG(k:Nat):ji (k+1)=oY (ji k) (jW k) (mN k) k:=rfl
theorem uC(k:Nat):jW (k+1)=fV (ji k) (jW k) (mN k) k:=rfl
theorem UH(k:Nat):mN (k+1)=pV (ji k) (jW k) (mN k) k:=rfl
def SFS(nf M:Nat)(ns:List eu)(A:AS)(G:XS)(Fs:FS)(i:Nat):Prop:=Ev fun k=>∀(fn:Int) (O:XI) (H:XB) (E:ES) (En:XI) (fr to:XI) (p q:Int),FG nf M O H E→0≤fn→fn<nf→0≤p→p<O.length→fr.length=ns.length→to.length=ns.length→O.length+5 * wt ns (i:Int)≤1000000→E.length+5 * wt ns (i:Int)≤1000000→
 ∃ O' H' E' Qi to',jW k A G Fs ns fn O En H E fr to (i:Int) p q=some (O',H',E',Qi,to',())∧acU nf M O E (wt ns (i:Int)) O' H' E'∧Qi.length=ns.length∧to'.length=ns.length
def BFS(nf M:Nat)(ns:List eu)(A:AS)(G:XS)(Fs:FS)(i:Nat):Prop:=Ev fun k=>∀(fn:Int) (O:XI) (H:XB) (E:ES) (En:XI) (fr to:XI) (p q:Int),FG nf M O H E→0≤fn→fn<nf→0≤p→p<O.length→fr.length=ns.length→to.length=ns.length→O.length+5 * wt ns (i:Int)≤1000000→E.length+5 * wt ns (i:Int)≤1000000→
 ∃ O' H' E' Qi to',ji k A G Fs ns fn O En H E fr to (i:Int) p q=some (O',H',E',Qi,to',())∧SX nf M O E (wt ns (i:Int)) O' H' E'∧Qi.length=ns.length∧to'.length=ns.length
theorem S6{K:XI}(AD:K.length≤5000)(rQ:∀ j∈K,1≤wt ns j)(hK:∀ j∈K,((j.toNat:Nat):Int)=j∧SFS nf M ns A G Fs j.toNat):∀ m s,m+s=K.length→cq fun qq k=>∀(fn:Int) (O:XI) (H:XB) (E:ES) (En:XI) (fr to:XI) (p q:Int),FG nf M O H E→0≤fn→fn<nf→(s<K.length→0≤p∧p<O.length)→fr.length=ns.length→to.length=ns.length→
  O.length+5 * jM ns (K.drop s)≤1000000→E.length+5 * jM ns (K.drop s)≤1000000→
  ∃ O' H' E' Qi to',im (ji qq) (jW qq) (mN qq) qq k A G Fs ns fn En q K O H E fr to p (s:Int)=some (O',H',E',Qi,to',())∧SX nf M O E (jM ns (K.drop s)) O' H' E'∧Qi.length=ns.length∧to'.length=ns.length
 |0,s,h=>by
  have h2:¬ s<K.length:=by omega
  refine cq.succ (cq.of fun qq k fn O H E En fr to p q hg f0 f1 hp tV JN hO hE=>⟨O,H,E,fr,to,?_,⟨hg,by omega,by omega,by omega⟩,tV,JN⟩)
  simp only[go_sem,im,Q5,h2]
 |m+1,s,h=>by
  have bg:s<K.length:=by omega
  have hd:K.drop s=K[s]::K.drop (s+1):=aQa bg;obtain⟨ej,hj⟩:=hK _ (aRa bg);have hks:jM ns (K.drop s)=wt ns K[s]+jM ns (K.drop (s+1)):=by rw[hd,Fo]
  unfold SFS at hj;rw[ej] at hj;refine cq.succ ((hj.tj.and (S6 AD rQ hK m (s+1) (by omega))).mono fun qq k e fn O H E En fr to p q hg f0 f1 hp tV JN hO hE=>?_)
  obtain⟨e1,e2⟩:=e;obtain⟨p0,p1⟩:=hp bg;rw[hks] at hO hE;by_cases hl:s+1<K.length
  ·have hpt:=ry hg (show O.length≤2000000 by omega) fn false
   have B0:=hg.oC f0 f1 false;have hd2:K.drop (s+1)=K[s+1]::K.drop (s+1+1):=aQa hl;have hk2:1≤jM ns (K.drop (s+1)):=by rw[hd2,Fo];have:=rQ K[s+1] (aRa hl);omega
   obtain⟨O1,H1,E1,fr1,to1,w1,w2,w3,w3'⟩:=e1 fn (O++[fn]) (H++[false]) E En fr to p (O.length:Int) B0 f0 f1 p0 (by simp;omega) tV JN (by simp;omega) (by omega)
   have l1:=w2.lo;have l2:=w2.hi;have l3:=w2.eh;simp only[aua,aDa,aCa] at l1 l2;obtain⟨O2,H2,E2,fr2,Ds,w4,w5,w6,w6'⟩:=e2 fn O1 H1 E1 En fr1 to1 (O.length:Int) q w2.fg f0 f1 (fun _=>⟨by omega,by omega⟩) w3 w3' (by omega) (by omega)
   have k1:=w5.lo;have k2:=w5.hi;have k3:=w5.eh;refine⟨O2,H2,E2,fr2,Ds,?_,⟨w5.fg,by omega,by rw[hks];omega,by rw[hks];omega⟩,w6,w6'⟩
   simp only[go_sem,im,aa,Q5,bg,cB bg,ai (show s<_ by omega),hl,hpt,w1,w4]
  ·obtain⟨O1,H1,E1,fr1,to1,w1,w2,w3,w3'⟩:=e1 fn O H E En fr to p q hg f0 f1 p0 p1 tV JN (by omega) (by omega)
   have l1:=w2.lo;have l2:=w2.hi;have l3:=w2.eh;obtain⟨O2,H2,E2,fr2,Ds,w4,w5,w6,w6'⟩:=e2 fn O1 H1 E1 En fr1 to1 q q w2.fg f0 f1 (fun hh=>by omega) w3 w3' (by omega) (by omega)
   have k1:=w5.lo;have k2:=w5.hi;have k3:=w5.eh;refine⟨O2,H2,E2,fr2,Ds,?_,⟨w5.fg,by omega,by rw[hks];omega,by rw[hks];omega⟩,w6,w6'⟩
   simp only[go_sem,im,aa,Q5,bg,cB bg,ai (show s<_ by omega),hl,w1,w4]
theorem at_len{α:Type}{l:List α}{i n:Nat}(hl:l.length=n)(hi:i<n):∃ y,bC l (i:Int)=some y:=⟨l[i]'(by omega),cB (by omega)⟩
theorem adS{i:Nat}{x:eu}(hx:ns[i]? = some x)(hn:oi ns i x)(hw:wt ns (i:Int)=1+jM ns x.2.2.2.2)(rQ:∀ j∈x.2.2.2.2,1≤wt ns j)(hK:∀ j∈x.2.2.2.2,((j.toNat:Nat):Int)=j∧SFS nf M ns A G Fs j.toNat):BFS nf M ns A G Fs i:=by
 have F6:i<ns.length:=(aka.1 hx).1;refine Ev.succ ((S6 (by have:=hn.nm.2;omega) rQ hK x.2.2.2.2.length 0 rfl).jY.mono fun k e fn O H E En fr to p q hg f0 f1 p0 p1 tV JN hO hE=>?_)
 rw[bMa] at e;obtain⟨y,hy⟩:=at_len tV F6;by_cases h0:x.2.2.2.2.length=0
 ·have abT:x.2.2.2.2=[]:=List.length_eq_zero_iff.1 h0
  have B0:=hg.zx (f:=p) (t:=q) (k:=1) (n:=-1) (a:=0) p0 p1 (fun h=>absurd h (by decide))
  rw[abT,zW] at e hw;obtain⟨O',H',E',Qi,to',w1,w2,w3,w3'⟩:=e fn O H (E++[(p,q,1,-1,0)]) En (fr.set i p) to p q B0 f0 f1 (fun _=>⟨p0,p1⟩) (by simpa using tV) JN (by omega) (by simp;omega)
  have:=w2.eh;simp only[aua,aDa,aCa] at this;refine⟨O',H',E',Qi,to',?_,⟨w2.fg,w2.lo,by have:=w2.hi;omega,by omega⟩,w3,w3'⟩
  have w1:im (ji k) (jW k) (mN k) k k A G Fs ns fn En q [] O H (E++[(p,q,1,-1,0)]) (fr.set i p) to p 0=_:=w1;simp only[go_sem,UG,oY,aa,bf hx,hy,aAa,abT,show((([]:XI).length:Int)==0)=true from rfl,uB (show E.length≤2000000 by omega),w1]
 ·obtain⟨O',H',E',Qi,to',w1,w2,w3,w3'⟩:=e fn O H E En (fr.set i p) to p q hg f0 f1 (fun _=>⟨p0,p1⟩) (by simpa using tV) JN (by omega) (by omega)
  refine⟨O',H',E',Qi,to',?_,⟨w2.fg,w2.lo,by have:=w2.hi;omega,by have:=w2.eh;omega⟩,w3,w3'⟩
  have w1:im (ji k) (jW k) (mN k) k k A G Fs ns fn En q x.2.2.2.2 O H E (fr.set i p) to p 0=_:=w1;simp only[go_sem,UG,oY,aa,bf hx,hy,aAa,show((x.2.2.2.2.length:Int)==0)=false from Q6.2 (by omega),w1]
end
section
variable {nf:Nat} {ns:List eu} {t:zw} {nmf:ab}
theorem aeS(ht:iO t)(fk:jz ns){i:Nat}{x:eu}(HL:Ip ns t nmf i)(hx:ns[i]? = some x)(hn:oi ns i x)(hw:wt ns (i:Int)=1+jM ns x.2.2.2.2)(IH:∀ j∈x.2.2.2.2,((j.toNat:Nat):Int)=j∧(kd ns j=8→BFS nf t.2.2.length ns t.1 t.2.1 t.2.2 j.toNat)):SFS nf t.2.2.length ns t.1 t.2.1 t.2.2 i:=by
 have du:=hn.shp;have AQ:bC ns (i:Int)=some x:=bf hx;have F6:i<ns.length:=(aka.1 hx).1;have N0:∀ j∈x.2.2.2.2,tW (kd ns j)=true→((j.toNat:Nat):Int)=j∧CFS nf t.2.2.length ns t.1 t.2.1 t.2.2 j.toNat:=fun j hj hc=>by
  have hj2:=hn.cG j hj;obtain⟨y,e1,e2,e3⟩:=vu (ns:=ns) hj2.1 (by omega)
  exact⟨aNa hj2.1,abE fk (j.toNat+1) j.toNat (by omega) (by omega) fun y' Gy=>by rw[e1] at Gy;cases Gy;rw[←e2];exact hc⟩
 by_cases h14:x.1=14
 ·rw[h14] at du
  have hb:∃ a b r,x.2.2.2.2=a::b::r∧tW (kd ns a)=true∧kd ns b=8∧(r=[]∨∃ c,r=[c]∧kd ns c=8):=by
   rcases h:x.2.2.2.2 with _|⟨a,_|⟨b,_|⟨c,_|⟨d,r⟩⟩⟩⟩
   ·rw[h] at du;simp[cf] at du
   ·rw[h] at du;simp[cf] at du
   ·rw[h] at du;simp[cf] at du;exact⟨a,b,[],rfl,du.1,du.2,.inl rfl⟩
   ·rw[h] at du;simp[cf] at du;exact⟨a,b,[c],rfl,du.1.1,du.1.2,.inr ⟨c,rfl,du.2⟩⟩
   ·rw[h] at du;simp[cf] at du
  obtain⟨a,b,r,hK,ha,hb,hr⟩:=hb;obtain⟨ea,ca⟩:=N0 a (by rw[hK];simp) ha
  obtain⟨eb,cb⟩:=IH b (by rw[hK];simp)
  have cb:=cb hb;unfold CFS at ca;unfold BFS at cb;rw[ea] at ca;rw[eb] at cb;rcases hr with rfl|⟨c,rfl,hc8⟩
  ·rw[hK,yG] at hw
   refine Ev.succ ((ca.and cb).mono fun k e fn O H E En fr to p q hg f0 f1 p0 p1 tV JN hO hE=>?_);obtain⟨ca,cb⟩:=e;obtain⟨y1,Pr⟩:=at_len tV F6;obtain⟨y2,I4⟩:=at_len JN F6;have hp:=ry hg (show O.length≤2000000 by omega) fn false
   obtain⟨O1,H1,E1,w1,w2⟩:=ca fn (O++[fn]) (H++[false]) E En (fr.set i p) (to.set i q) p (O.length:Int) q (hg.oC f0 f1 _) f0 f1 p0 (by simp;omega) (by simp;omega) (by omega)
   have l1:=w2.lo;have l2:=w2.hi;have l3:=w2.eh;simp only[aua,aDa,aCa] at l1 l2;obtain⟨O2,H2,E2,fr2,Ds,w3,w4,w5,w5'⟩:=cb fn O1 H1 E1 En (fr.set i p) (to.set i q) (O.length:Int) q w2.fg f0 f1 (by omega) (by omega) (by simpa using tV) (by simpa using JN) (by omega) (by omega)
   have k1:=w4.lo;have k2:=w4.hi;have k3:=w4.eh;refine⟨O2,H2,E2,fr2,Ds,?_,⟨w4.fg,by omega,by omega,by omega⟩,w5,w5'⟩
   simp only[go_sem,uC,fV,aa,AQ,Pr,I4,aAa,h14,hp,hK,show decide (((([a,b]:XI).length:Int)) > 2)=false from rfl,show bC [a,b] 0=some a from rfl,w1,show bC [a,b] 1=some b from rfl,w3]
  ·obtain⟨ec,cc⟩:=IH c (by rw[hK];simp)
   have cc:=cc hc8;unfold BFS at cc;rw[ec] at cc;rw[hK,Qw] at hw;refine Ev.succ ((ca.and (cb.and cc)).mono fun k e fn O H E En fr to p q hg f0 f1 p0 p1 tV JN hO hE=>?_);obtain⟨ca,cb,cc⟩:=e;obtain⟨y1,Pr⟩:=at_len tV F6;obtain⟨y2,I4⟩:=at_len JN F6;have hp:=ry hg (show O.length≤2000000 by omega) fn false
   have B0:=hg.oC f0 f1 false;have If:=ry B0 (show(O++[fn]).length≤2000000 by simp;omega) fn false
   have Mw:=B0.oC f0 f1 false;obtain⟨O1,H1,E1,w1,w2⟩:=ca fn (O++[fn]++[fn]) (H++[false]++[false]) E En (fr.set i p) (to.set i q) p (O.length:Int) ((O++[fn]).length:Int) Mw f0 f1 p0 (by simp;omega) (by simp;omega) (by omega)
   have l1:=w2.lo;have l2:=w2.hi;have l3:=w2.eh;simp only[aua,aDa,aCa] at l1 l2;obtain⟨O2,H2,E2,fr2,Ds,w3,w4,w5,w5'⟩:=cb fn O1 H1 E1 En (fr.set i p) (to.set i q) (O.length:Int) q w2.fg f0 f1 (by omega) (by omega) (by simpa using tV) (by simpa using JN) (by omega) (by omega)
   have k1:=w4.lo;have k2:=w4.hi;have k3:=w4.eh;obtain⟨O3,H3,E3,fr3,to3,w6,w7,w8,w8'⟩:=cc fn O2 H2 E2 En fr2 Ds ((O++[fn]).length:Int) q w4.fg f0 f1 (by omega) (by simp;omega) w5 w5' (by omega) (by omega)
   have j1:=w7.lo;have j2:=w7.hi;have j3:=w7.eh;refine⟨O3,H3,E3,fr3,to3,?_,⟨w7.fg,by omega,by omega,by omega⟩,w8,w8'⟩
   simp only[go_sem,uC,fV,aa,AQ,Pr,I4,aAa,h14,hp,If,hK,show decide (((([a,b,c]:XI).length:Int)) > 2)=true from rfl,show bC [a,b,c] 0=some a from rfl,w1,show bC [a,b,c] 1=some b from rfl,w3,show bC [a,b,c] 2=some c from rfl,w6]
 by_cases h15:x.1=15
 ·rw[h15] at du
  obtain⟨a,b,hK,ha,hb⟩:∃ a b,x.2.2.2.2=[a,b]∧tW (kd ns a)=true∧kd ns b=8:=by
   rcases h:x.2.2.2.2 with _|⟨a,_|⟨b,_|⟨c,r⟩⟩⟩
   ·rw[h] at du;simp[cf] at du
   ·rw[h] at du;simp[cf] at du
   ·rw[h] at du;simp[cf] at du;exact⟨a,b,rfl,du.1,du.2⟩
   ·rw[h] at du;simp[cf] at du
  obtain⟨ea,ca⟩:=N0 a (by rw[hK];simp) ha
  obtain⟨eb,cb⟩:=IH b (by rw[hK];simp)
  have cb:=cb hb;unfold CFS at ca;unfold BFS at cb;rw[ea] at ca;rw[eb] at cb;rw[hK,yG] at hw;refine Ev.succ (Ev.succ ((ca.and cb).mono fun k e fn O H E En fr to p q hg f0 f1 p0 p1 tV JN hO hE=>?_));obtain⟨ca,cb⟩:=e;obtain⟨y1,Pr⟩:=at_len tV F6;obtain⟨y2,I4⟩:=at_len JN F6;have hp:=ry hg (show O.length≤2000000 by omega) fn true
  have B0:=hg.oC f0 f1 true;have If:=ry B0 (show(O++[fn]).length≤2000000 by simp;omega) fn false
  have Mw:=(B0.oC f0 f1 false).zx (f:=p) (t:=(O.length:Int)) (k:=1) (n:=-1) (a:=0) p0 (by simp<;>omega) (fun h=>absurd h (by decide))
  obtain⟨O1,H1,E1,w1,w2⟩:=ca fn (O++[fn]++[fn]) (H++[true]++[false]) (E++[(p,(O.length:Int),1,-1,0)]) En (fr.set i p) (to.set i q) (O.length:Int) ((O++[fn]).length:Int) q Mw f0 f1 (by omega) (by simp;omega) (by simp;omega) (by simp;omega)
  have l1:=w2.lo;have l2:=w2.hi;have l3:=w2.eh;simp only[aua,aDa,aCa] at l1 l2 l3;obtain⟨O2,H2,E2,fr2,Ds,w3,w4,w5,w5'⟩:=cb fn O1 H1 E1 En (fr.set i p) (to.set i q) ((O++[fn]).length:Int) (O.length:Int) w2.fg f0 f1 (by omega) (by simp;omega) (by simpa using tV) (by simpa using JN) (by omega) (by omega)
  have k1:=w4.lo;have k2:=w4.hi;have k3:=w4.eh;refine⟨O2,H2,E2,fr2,Ds,?_,⟨w4.fg,by omega,by omega,by omega⟩,w5,w5'⟩
  simp only[go_sem,uC (k+1),fV,aa,AQ,Pr,I4,aAa,h15,show((15:Int)==14)=false from rfl,UH,pV,hp,If,uB (show E.length≤2000000 by omega),hK,show bC [a,b] 0=some a from rfl,w1,show bC [a,b] 1=some b from rfl,w3]
 by_cases Gu:x.1=16
 ·rw[Gu] at du
  obtain⟨a,b,c,hK,hb⟩:∃ a b c,x.2.2.2.2=[a,b,c]∧kd ns c=8:=by
   rcases h:x.2.2.2.2 with _|⟨a,_|⟨b,_|⟨c,_|⟨d,r⟩⟩⟩⟩
   ·rw[h] at du;simp[cf] at du
   ·rw[h] at du;simp[cf] at du
   ·rw[h] at du;simp[cf] at du
   ·rw[h] at du;simp[cf] at du;exact⟨a,b,c,rfl,du.2⟩
   ·rw[h] at du;simp[cf] at du
  obtain⟨ec,cc⟩:=IH c (by rw[hK];simp)
  have cc:=cc hb;unfold BFS at cc;rw[ec] at cc;rw[hK,Qw] at hw;refine Ev.succ (Ev.succ (cc.mono fun k cc fn O H E En fr to p q hg f0 f1 p0 p1 tV JN hO hE=>?_));obtain⟨y1,Pr⟩:=at_len tV F6;obtain⟨y2,I4⟩:=at_len JN F6;have hp:=ry hg (show O.length≤2000000 by omega) fn true
  have B0:=hg.oC f0 f1 true;have If:=ry B0 (show(O++[fn]).length≤2000000 by simp;omega) fn false
  have Mw:=B0.oC f0 f1 false;have hg3:=Mw.zx (f:=p) (t:=(O.length:Int)) (k:=8) (n:=(i:Int)) (a:=0) p0 (by simp<;>omega) (fun h=>absurd h (by decide))
  have hg4:=hg3.zx (f:=(O.length:Int)) (t:=((O++[fn]).length:Int)) (k:=9) (n:=(i:Int)) (a:=1) (by omega) (by simp<;>omega) (fun h=>absurd h (by decide))
  have hg5:=hg4.zx (f:=(O.length:Int)) (t:=q) (k:=9) (n:=(i:Int)) (a:=0) (by omega) (by simp<;>omega) (fun h=>absurd h (by decide))
  have hp3:=ry hg5 (show(O++[fn]++[fn]).length≤2000000 by simp;omega) fn false
  have hg6:=hg5.oC f0 f1 false;obtain⟨O2,H2,E2,fr2,Ds,w3,w4,w5,w5'⟩:=cc fn _ _ _ En (fr.set i p) (to.set i q) ((O++[fn]).length:Int) ((O++[fn]++[fn]).length:Int) hg6 f0 f1 (by simp<;>omega) (by simp<;>omega) (by simpa using tV) (by simpa using JN) (by simp<;>omega) (by simp<;>omega)
  have k1:=w4.lo;have k2:=w4.hi;have k3:=w4.eh;simp only[aua,aDa,aCa] at k1 k2 k3;refine⟨O2,H2,E2++[(((O++[fn]++[fn]).length:Int),(O.length:Int),10,(i:Int),0)],fr2,Ds,?_,⟨w4.fg.zx (by omega) (by simp;omega) (fun h=>absurd h (by decide)),by omega,by omega,by simp;omega⟩,w5,w5'⟩
  simp only[go_sem,uC (k+1),fV,aa,AQ,Pr,I4,aAa,Gu,show((16:Int)==14)=false from rfl,show((16:Int)==15)=false from rfl,UH,pV,hp,If,uB (show E.length≤2000000 by omega),uB (show(E++[(p,(O.length:Int),8,(i:Int),0)]).length≤2000000 by simp;omega),uB (show(E++[(p,(O.length:Int),8,(i:Int),0)]++[((O.length:Int),((O++[fn]).length:Int),9,(i:Int),1)]).length≤2000000 by simp;omega),hp3,hK,show bC [a,b,c] 2=some c from rfl,w3,uB (show E2.length≤2000000 by omega)]
 by_cases h19:x.1=19
 ·rw[h19] at du
  obtain⟨a,hK,ha⟩:∃ a,x.2.2.2.2=[a]∧tW (kd ns a)=true:=by
   rcases h:x.2.2.2.2 with _|⟨a,_|⟨b,r⟩⟩
   ·rw[h] at du;simp[cf] at du
   ·rw[h] at du;simp[cf] at du;exact⟨a,rfl,du⟩
   ·rw[h] at du;simp[cf] at du
  obtain⟨ea,ca⟩:=N0 a (by rw[hK];simp) ha
  unfold CFS at ca;rw[ea] at ca;rw[hK,o9] at hw;refine Ev.succ (ca.mono fun k ca fn O H E En fr to p q hg f0 f1 p0 p1 tV JN hO hE=>?_);obtain⟨y1,Pr⟩:=at_len tV F6;obtain⟨y2,I4⟩:=at_len JN F6;have hp:=ry hg (show O.length≤2000000 by omega) fn false
  obtain⟨O1,H1,E1,w1,w2⟩:=ca fn (O++[fn]) (H++[false]) E En (fr.set i p) (to.set i q) p q (O.length:Int) (hg.oC f0 f1 _) f0 f1 p0 (by simp;omega) (by simp;omega) (by omega)
  have l1:=w2.lo;have l2:=w2.hi;have l3:=w2.eh;simp only[aua,aDa,aCa] at l1 l2;refine⟨O1,H1,E1++[((O.length:Int),(O.length:Int),4,(i:Int),0)],fr.set i p,to.set i q,?_,⟨w2.fg.zx (by omega) (by omega) (fun h=>absurd h (by decide)),by omega,by omega,by simp;omega⟩,by simpa using tV,by simpa using JN⟩
  simp only[go_sem,uC,fV,aa,AQ,Pr,I4,aAa,h19,show((19:Int)==14)=false from rfl,show((19:Int)==15)=false from rfl,show((19:Int)==16)=false from rfl,hp,hK,show bC [a] 0=some a from rfl,w1,uB (show E1.length≤2000000 by omega)]
 have one:∀(mk:Int→Int→Int×Int×Int×Int×Int),(∀ p q,(mk p q).1=p∧((mk p q).2.2.1=5→0≤(mk p q).2.2.2.2∧(mk p q).2.2.2.2<(t.2.2.length:Int)))→
   (Ev fun k=>∀ fn O H E En fr to p q y1 y2,E.length≤2000000→bC fr (i:Int)=some y1→bC to (i:Int)=some y2→jW (k+1) t.1 t.2.1 t.2.2 ns fn O En H E fr to (i:Int) p q=some (O,H,E++[mk p q],fr.set i p,to.set i q,()))→SFS nf t.2.2.length ns t.1 t.2.1 t.2.2 i:=fun mk h1 h2=>
  Ev.succ (h2.mono fun k h2 fn O H E En fr to p q hg f0 f1 p0 p1 tV JN hO hE=>by
   obtain⟨y1,Pr⟩:=at_len tV F6;obtain⟨y2,I4⟩:=at_len JN F6;obtain⟨g1,g2⟩:=h1 p q;refine⟨O,H,E++[mk p q],_,_,h2 fn O H E En fr to p q y1 y2 (by omega) Pr I4,⟨?_,by omega,by omega,by simp;omega⟩,by simpa using tV,by simpa using JN⟩
   exact hg.zx (f:=(mk p q).1) (t:=(mk p q).2.1) (k:=(mk p q).2.2.1) (n:=(mk p q).2.2.2.1) (a:=(mk p q).2.2.2.2) (by rw[g1];exact p0) (by rw[g1];exact p1) g2)
 by_cases h21:x.1=21
 ·refine one (fun p q=>(p,p,6,(i:Int),0)) (fun p q=>⟨rfl,fun h=>by simp at h⟩) (Ev.of fun k fn O H E En fr to p q y1 y2 hE Pr I4=>?_)
  simp only[go_sem,uC,fV,aa,AQ,Pr,I4,aAa,h21,show((21:Int)==14)=false from rfl,show((21:Int)==15)=false from rfl,show((21:Int)==16)=false from rfl,show((21:Int)==19)=false from rfl,uB hE]
 by_cases h20:x.1=20
 ·refine one (fun p q=>(p,p,7,(i:Int),0)) (fun p q=>⟨rfl,fun h=>by simp at h⟩) (Ev.of fun k fn O H E En fr to p q y1 y2 hE Pr I4=>?_)
  simp only[go_sem,uC,fV,aa,AQ,Pr,I4,aAa,h20,show((20:Int)==14)=false from rfl,show((20:Int)==15)=false from rfl,show((20:Int)==16)=false from rfl,show((20:Int)==19)=false from rfl,show((20:Int)==21)=false from rfl,uB hE]
 by_cases Er:x.1=22
 ·rw[Er] at du
  obtain⟨u,r,hK,hu⟩:∃ u r,x.2.2.2.2=u::r∧kd ns u=23:=by
   cases h:x.2.2.2.2 with
   |nil=>rw[h] at du;simp[cf] at du
   |cons u r=>rw[h] at du;simp[cf] at du;exact⟨u,r,rfl,du.1⟩
  have hu2:=hn.cG u (by rw[hK];simp)
  obtain⟨y,e1,e2,e3⟩:=vu (ns:=ns) hu2.1 (by omega)
  obtain⟨_,x',Fk,hk',hc',ha'⟩:=HL;rw[hx] at Fk;obtain rfl:=bxa Fk;have h5:=hc' Er u (by rw[hK];rfl)
  obtain⟨n,f,n1,n2,n3⟩:=nk5 h5;have ZM:EI ns u=y.2.2.2.1:=by simp only[EI,e1]
  rw[ZM] at n3;have L4:0≤nM (fun z:ab×Int×XS×XS×Int=>z.1==y.2.2.2.1) t.2.2 0:=Cx.2 ⟨f,a1a n2,a9a.2 n3⟩;have aht:=aaL L4;have hF:=SA t y.2.2.2.1 (by have:=ht.f;omega)
  refine one (fun p q=>(p,q,5,(i:Int),nM (fun z:ab×Int×XS×XS×Int=>z.1==y.2.2.2.1) t.2.2 0)) (fun p q=>⟨rfl,fun _=>⟨L4,aht⟩⟩) (hF.mono fun k e fn O H E En fr to p q y1 y2 hE Pr I4=>?_);simp only[go_sem,uC,fV,aa,AQ,Pr,I4,aAa,Er,show((22:Int)==14)=false from rfl,show((22:Int)==15)=false from rfl,show((22:Int)==16)=false from rfl,show((22:Int)==19)=false from rfl,show((22:Int)==21)=false from rfl,show((22:Int)==20)=false from rfl,hK,show bC (u::r) 0=some u from rfl,e3,show kr k (t.1,t.2.1,t.2.2) y.2.2.2.1=_ from e,uB hE]
 refine one (fun p q=>(p,q,2,(i:Int),0)) (fun p q=>⟨rfl,fun h=>by simp at h⟩) (Ev.of fun k fn O H E En fr to p q y1 y2 hE Pr I4=>?_)
 simp only[go_sem,uC,fV,aa,AQ,Pr,I4,aAa,Q6.2 h14,Q6.2 h15,Q6.2 Gu,Q6.2 h19,Q6.2 h21,Q6.2 h20,Q6.2 Er,uB hE]
theorem X4(ht:iO t)(fk:jz ns):∀ n i,i<n→i<ns.length→Ip ns t nmf i→(kd ns (i:Int)=8→BFS nf t.2.2.length ns t.1 t.2.1 t.2.2 i)∧SFS nf t.2.2.length ns t.1 t.2.1 t.2.2 i:=by
 intro n;induction n with
 |zero=>intro i h;omega
 |succ n ih=>
  intro i hi hl HL;have hx:ns[i]? = some ns[i]:=by simp[hl]
  have hn:=fk i _ hx;have hw:=OY hx hn.cG;have hkc:∀ j∈ns[i].2.2.2.2,Ip ns t nmf j.toNat:=by obtain⟨_,x',Fk,hk',_,_⟩:=HL;rw[hx] at Fk;obtain rfl:=bxa Fk;exact hk'
  have Ku:∀ j∈ns[i].2.2.2.2,((j.toNat:Nat):Int)=j∧j.toNat<n∧j.toNat<ns.length:=fun j hj=>by have:=hn.cG j hj;exact⟨aNa this.1,by omega,by omega⟩
  refine⟨fun h8=>adS hx hn hw (fun j hj=>?_) fun j hj=>⟨(Ku j hj).1,(ih j.toNat (Ku j hj).2.1 (Ku j hj).2.2 (hkc j hj)).2⟩,aeS ht fk HL hx hn hw fun j hj=>⟨(Ku j hj).1,fun h8=>(ih j.toNat (Ku j hj).2.1 (Ku j hj).2.2 (hkc j hj)).1 (by rw[(Ku j hj).1];exact h8)⟩⟩
  have hj:=hn.cG j hj;obtain⟨y,e1,e2,e3⟩:=vu (ns:=ns) hj.1 (by omega)
  have:=OY e1 (fk _ _ e1).cG;rw[aNa hj.1] at this;omega
end
end Go.Fx.R5
namespace Go.Fx.R5
open Go Go.Fx
theorem acB{k:Int}{l:XI}(h:cf k l=true)(hm:(23:Int)∈l):(k=22∨k=12)∧∃ r,l=23::r:=by
 unfold cf at h;by_cases c1:k=24∨k=25∨k=27∨k=29∨k=23∨k=34∨k=17∨k=20∨k=2∨k=3∨k=5∨k=6∨k=7
 ·rw[a7a c1] at h
  cases l with
  |nil=>cases hm
  |cons a r=>cases h
 rw[aza c1] at h;by_cases c2:k=26∨k=11∨k=13∨k=18∨k=21
 ·rw[a7a c2] at h
  rcases l with _|⟨a,_|⟨b,r⟩⟩
  ·cases hm
  ·obtain rfl:=Q7.1 hm;exact absurd h (by decide)
  ·cases h
 rw[aza c2] at h;by_cases c3:k=9
 ·rw[a7a c3] at h
  rcases l with _|⟨a,_|⟨b,r⟩⟩
  ·cases hm
  ·obtain rfl:=Q7.1 hm;exact absurd h (by decide)
  ·cases h
 rw[aza c3] at h;by_cases c4:k=28∨k=30∨k=10
 ·rw[a7a c4] at h
  rcases l with _|⟨a,_|⟨b,_|⟨c,r⟩⟩⟩
  ·cases hm
  ·cases h
  ·simp only[Q3] at h
   rcases ama.1 hm with rfl|hm
   ·exact absurd h.1 (by decide)
   ·obtain rfl:=Q7.1 hm;exact absurd h.2 (by decide)
  ·cases h
 rw[aza c4] at h;by_cases c5:k=12
 ·rw[a7a c5] at h
  rcases l with _|⟨a,_|⟨b,_|⟨c,r⟩⟩⟩
  ·cases hm
  ·cases h
  ·simp only[Q3,a9a] at h
   exact⟨.inr c5,[b],by rw[h.1]⟩
  ·cases h
 rw[aza c5] at h;by_cases c6:k=22
 ·rw[a7a c6] at h
  cases l with
  |nil=>cases hm
  |cons a r=>simp only[Q3,a9a] at h;exact⟨.inl c6,r,by rw[h.1]⟩
 rw[aza c6] at h;by_cases c7:k=31∨k=32
 ·rw[a7a c7] at h
  rcases l with _|⟨a,_|⟨b,_|⟨c,r⟩⟩⟩
  ·cases hm
  ·cases h
  ·simp only[Q3] at h
   rcases ama.1 hm with rfl|hm
   ·exact absurd h.1 (by decide)
   ·obtain rfl:=Q7.1 hm;exact absurd h.2 (by decide)
  ·cases h
 rw[aza c7] at h;by_cases c8:k=33∨k=19
 ·rw[a7a c8] at h
  rcases l with _|⟨a,_|⟨b,r⟩⟩
  ·cases hm
  ·obtain rfl:=Q7.1 hm;exact absurd h (by decide)
  ·cases h
 rw[aza c8] at h;by_cases c9:k=14
 ·rw[a7a c9] at h
  rcases l with _|⟨a,_|⟨b,_|⟨c,_|⟨d,r⟩⟩⟩⟩
  ·cases hm
  ·cases h
  ·simp only[Q3] at h
   rcases ama.1 hm with rfl|hm
   ·exact absurd h.1 (by decide)
   ·obtain rfl:=Q7.1 hm;exact absurd h.2 (by decide)
  ·simp only[Q3] at h
   rcases ama.1 hm with rfl|hm
   ·exact absurd h.1.1 (by decide)
   ·rcases ama.1 hm with rfl|hm
    ·exact absurd h.1.2 (by decide)
    ·obtain rfl:=Q7.1 hm;exact absurd h.2 (by decide)
  ·cases h
 rw[aza c9] at h;by_cases c10:k=15
 ·rw[a7a c10] at h
  rcases l with _|⟨a,_|⟨b,_|⟨c,r⟩⟩⟩
  ·cases hm
  ·cases h
  ·simp only[Q3] at h
   rcases ama.1 hm with rfl|hm
   ·exact absurd h.1 (by decide)
   ·obtain rfl:=Q7.1 hm;exact absurd h.2 (by decide)
  ·cases h
 rw[aza c10] at h;by_cases M1:k=16
 ·rw[a7a M1] at h
  rcases l with _|⟨a,_|⟨b,_|⟨c,_|⟨d,r⟩⟩⟩⟩
  ·cases hm
  ·cases h
  ·cases h
  ·simp only[Q3] at h
   rcases ama.1 hm with rfl|hm
   ·exact absurd h.1.1 (by decide)
   ·rcases ama.1 hm with rfl|hm
    ·exact absurd h.1.2 (by decide)
    ·obtain rfl:=Q7.1 hm;exact absurd h.2 (by decide)
  ·cases h
 rw[aza M1] at h;by_cases c12:k=8
 ·rw[a7a c12] at h
  exact absurd (ana.1 h 23 hm) (by decide)
 rw[aza c12] at h;by_cases c13:k=4
 ·rw[a7a c13] at h
  simp only[Q3,a9a] at h;have hG:l≠[]:=List.ne_nil_of_mem hm;have e:=List.dropLast_concat_getLast hG;rw[←e] at hm;rcases aoa.1 hm with hm|hm
  ·exact absurd (ana.1 h.1 23 hm) (by decide)
  ·have h2:=h.2
   rw[List.getLast?_eq_some_getLast hG] at h2;rw[←Q7.1 hm] at h2;cases h2
 rw[aza c13] at h;by_cases c14:k=1
 ·rw[a7a c14] at h
  exact absurd (ana.1 h 23 hm) (by decide)
 rw[aza c14] at h;cases h
section
variable {ns:List eu} {t:zw}
theorem nk1{fn s:ab}(h:(nk t fn s).1=1):0≤(nk t fn s).2∧(nk t fn s).2<t.1.length:=by
 have key:(Pw t s).1=1→0≤(Pw t s).2∧(Pw t s).2<t.1.length:=fun h=>by
  unfold Pw at h ⊢;by_cases g1:0≤nM (fun x:ab×Int=>x.1==s) t.1 0
  ·have:=aaL g1
   simp[g1];omega
  ·by_cases g2:0≤nM (fun x=>x==s) t.2.1 0
   ·simp[g1,g2] at h
   ·by_cases g3:0≤nM (fun x:ab×Int×XS×XS×Int=>x.1==s) t.2.2 0<;>simp[g1,g2,g3] at h
 unfold nk at h ⊢;cases hf:t.2.2.find? (fun x=>x.1==fn) with
 |none=>simp only[hf] at h ⊢;exact key h
 |some x=>
  simp only[hf] at h ⊢;by_cases g1:0≤nM (fun y=>y==s) x.2.2.1 0
  ·simp[g1] at h
  ·by_cases g2:0≤nM (fun y=>y==s) x.2.2.2.1 0
   ·simp[g1,g2] at h
   ·simp only[go_sem,g1,g2] at h ⊢;exact key h
structure KP(ns:List eu)(ki pl:XI):Prop where
 k:ki.length=ns.length
 p:pl.length=ns.length
 o:U3 ns 6 pl
theorem KP.set{ki pl:XI}(h:KP ns ki pl){i:Nat}{x:eu}(hx:ns[i]? = some x)(a b:Int)(hb:x.1=23→0≤b∧b<6):KP ns (ki.set i a) (pl.set i b):=by
 refine⟨by simpa using h.k,by simpa using h.p,fun j y hy h23=>?_⟩
 have F6:=(aka.1 hx).1;by_cases e:i=j
 ·subst e
  rw[hx] at hy;cases hy;refine⟨b,?_,(hb h23).1,(hb h23).2⟩;rw[List.getElem?_set_self (by rw[h.p];exact F6)]
 ·obtain⟨v,v1,v2⟩:=h.o j y hy h23
  exact⟨v,by rw[List.getElem?_set_ne e];exact v1,v2⟩
def Bd(ns:List eu)(t:zw)(rec:ab×Int×XS×XS×Int)(i:Nat):Prop:=Ev fun k=>∀ ki pl,KP ns ki pl→
 ∃ ki' pl',gl k ns t.1 t.2.1 t.2.2 ki pl [] [] [] [] [] [] [] rec (i:Int)=some (ki',pl',())∧KP ns ki' pl'
theorem PU{rec:ab×Int×XS×XS×Int}{K:XI}(AD:K.length≤5000)(hK:∀ j∈K,((j.toNat:Nat):Int)=j∧Bd ns t rec j.toNat):∀ m s,m+s=K.length→cq fun q k=>∀ ki pl,KP ns ki pl→
  ∃ ki' pl',gy (gl q) q k rec.1 rec.2.1 rec.2.2.1 rec.2.2.2.1 rec.2.2.2.2 ns t.1 t.2.1 t.2.2 [] [] [] [] [] [] [] K (K.length:Int) ki pl (s:Int)=some (ki',pl',())∧KP ns ki' pl'
 |0,s,h=>by
  have h2:¬ s<K.length:=by omega
  exact cq.succ (cq.of fun q k ki pl hkp=>⟨ki,pl,by simp only[go_sem,gy,Q5,h2],hkp⟩)
 |m+1,s,h=>by
  have bg:s<K.length:=by omega
  obtain⟨ej,hj⟩:=hK _ (aRa bg);unfold Bd at hj;rw[ej] at hj;refine cq.succ ((hj.tj.and (PU AD hK m (s+1) (by omega))).mono fun q k e ki pl hkp=>?_)
  obtain⟨ki1,pl1,w1,w2⟩:=e.1 ki pl hkp;obtain⟨ki2,pl2,w3,w4⟩:=e.2 ki1 pl1 w2;refine⟨ki2,pl2,?_,w4⟩;simp only[go_sem,gy,Q5,bg,cB bg,ai (show s<_ by omega)]
  rw[show gl q ns t.1 t.2.1 t.2.2 ki pl [] [] [] [] [] [] [] (rec.1,rec.2.1,rec.2.2.1,rec.2.2.2.1,rec.2.2.2.2) K[s]=_ from w1]
  simp only[go_sem,w3]
theorem Y8(ht:iO t)(fk:jz ns)(rec:ab×Int×XS×XS×Int):∀ n i,i<n→i<ns.length→Ip ns t rec.1 i→(∀ x,ns[i]? = some x→x.1=23→0≤(nk t rec.1 x.2.2.2.1).2∧(nk t rec.1 x.2.2.2.1).2<6)→Bd ns t rec i:=by
 intro n;induction n with
 |zero=>intro i h;omega
 |succ n ih=>
  intro i hi hl HL h23;have hx:ns[i]? = some ns[i]:=by simp[hl]
  have hn:=fk i _ hx;have afP:=h23 _ hx;obtain⟨_,x',Fk,hkc,hcc,hca⟩:=HL;rw[hx] at Fk;obtain rfl:=bxa Fk;have hf6:=ht.f;have ha4:=ht.a;have Ku:∀ j∈ns[i].2.2.2.2,((j.toNat:Nat):Int)=j∧Bd ns t rec j.toNat:=fun j hj=>by
   have hj2:=hn.cG j hj;refine⟨aNa hj2.1,ih j.toNat (by omega) (by omega) (hkc j hj) fun y hy h23=>?_⟩
   have hkd:kd ns j=23:=by simp only[kd,hy];exact h23
   have ib:(23:Int)∈ns[i].2.2.2.2.map (kd ns):=by rw[←hkd];exact aIa hj
   obtain⟨hk,r,hr⟩:=acB hn.shp ib;have NN:ns[i].2.2.2.2.head? = some j∨∃ u,ns[i].2.2.2.2.head? = some u∧kd ns u=23:=by
    cases hK:ns[i].2.2.2.2 with
    |nil=>rw[hK] at hj;cases hj
    |cons u r'=>rw[hK] at hr;simp only[aHa,aJa] at hr;exact .inr ⟨u,rfl,hr.1⟩
   have ZM:EI ns j=y.2.2.2.1:=by simp only[EI,hy]
   have only:ns[i].2.2.2.2.head? = some j:=by
    rcases NN with h|⟨u,hu,L7⟩
    ·exact h
    ·cases hK:ns[i].2.2.2.2 with
     |nil=>rw[hK] at hj;cases hj
     |cons u' r'=>
      rw[hK] at hj hu;simp only[List.head?_cons,OQ] at hu;subst hu;rcases ama.1 hj with rfl|hj
      ·rfl
      ·exfalso
       have hs:=hn.shp;rw[hK] at hs;rcases hk with hk|hk
       ·rw[hk] at hs
        simp only[cf,aHa] at hs;simp at hs;have:=hs.2 j hj;rw[hkd] at this;simp[Bx] at this
       ·rw[hk] at hs
        rcases r' with _|⟨b,_|⟨c,r''⟩⟩
        ·cases hj
        ·simp[cf] at hs
         rw[Q7.1 hj] at hkd;rw[hkd] at hs;simp[Bx] at hs
        ·simp[cf] at hs
   rw[←ZM];rcases hk with hk|hk
   ·obtain⟨m,f,m1,m2,_⟩:=nk5 (hcc hk j only)
    have:=(aka.1 m2).1;rw[m1];omega
   ·have:=nk1 (hca hk j only)
    omega
  have AQ:bC ns (i:Int)=some ns[i]:=bf hx;have hlp:=(PU (t:=t) (rec:=rec) hn.nm.2 Ku ns[i].2.2.2.2.length 0 rfl).jY;have hnk:=ZZ ht rec.1 ns[i].2.2.2.1;refine Ev.succ ((hlp.and hnk).mono fun k e ki pl hkp=>?_);obtain⟨e1,e2⟩:=e;cases hnm:(ns[i].2.2.2.1==([]:ab)) with
  |true=>obtain⟨ki',pl',w1,w2⟩:=e1 ki pl hkp;refine⟨ki',pl',?_,w2⟩;have w1:gy (gl k) k k rec.1 rec.2.1 rec.2.2.1 rec.2.2.2.1 rec.2.2.2.2 ns t.1 t.2.1 t.2.2 [] [] [] [] [] [] [] ns[i].2.2.2.2 (ns[i].2.2.2.2.length:Int) ki pl 0=_:=w1;simp only[go_sem,gl,oI,aa,AQ,hnm,w1]
  |false=>obtain⟨y1,Pr⟩:=at_len hkp.k hl;obtain⟨y2,I4⟩:=at_len hkp.p hl;obtain⟨ki',pl',w1,w2⟩:=e1 (ki.set i (nk t rec.1 ns[i].2.2.2.1).1) (pl.set i (nk t rec.1 ns[i].2.2.2.1).2) (hkp.set hx _ _ afP);refine⟨ki',pl',?_,w2⟩;have w1:gy (gl k) k k rec.1 rec.2.1 rec.2.2.1 rec.2.2.2.1 rec.2.2.2.2 ns t.1 t.2.1 t.2.2 [] [] [] [] [] [] [] ns[i].2.2.2.2 (ns[i].2.2.2.2.length:Int) (ki.set i (nk t rec.1 ns[i].2.2.2.1).1) (pl.set i (nk t rec.1 ns[i].2.2.2.1).2) 0=_:=w1;simp only[go_sem,gl,oI,aa,AQ,hnm,show fF k (t.1,t.2.1,t.2.2) rec.1 ns[i].2.2.2.1=_ from e2,aAa,Pr,I4,w1]
end
end Go.Fx.R5
namespace Go.Fx.R5
open Go Go.Fx
section
variable {ns:List eu} {t:zw} {D:AS}
theorem QA(hp:P1 ns t D)(fk:jz ns)(HL:∀ x∈t.2.2,Ip ns t x.1 x.2.2.2.2.toNat):∀ m s,m+s=t.2.2.length→cq fun q k=>∀ ki pl,KP ns ki pl→
  ∃ ki' pl',pv q k ns t.1 t.2.1 t.2.2 t.2.2 (t.2.2.length:Int) ki pl (s:Int)=some (ki',pl',())∧KP ns ki' pl'
 |0,s,h=>by
  have h2:¬ s<t.2.2.length:=by omega
  exact cq.succ (cq.of fun q k ki pl hkp=>⟨ki,pl,by simp only[go_sem,pv,Q5,h2],hkp⟩)
 |m+1,s,h=>by
  have bg:s<t.2.2.length:=by omega
  have hf6:=hp.iE.f;have hb:=hp.bd _ (aRa bg);have hc:=HL _ (aRa bg);have hB:=Y8 hp.iE fk t.2.2[s] (t.2.2[s].2.2.2.2.toNat+1) t.2.2[s].2.2.2.2.toNat (by omega) (by omega) hc (fun x hx h23=>by
   have:kd ns t.2.2[s].2.2.2.2=x.1:=by simp only[kd,hx]
   rw[hb.2.2.1] at this;omega)
  unfold Bd at hB;rw[aNa hb.1] at hB;refine cq.succ ((hB.tj.and (QA hp fk HL m (s+1) (by omega))).mono fun q k e ki pl hkp=>?_)
  obtain⟨ki1,pl1,w1,w2⟩:=e.1 ki pl hkp;obtain⟨ki2,pl2,w3,w4⟩:=e.2 ki1 pl1 w2;refine⟨ki2,pl2,?_,w4⟩;simp only[go_sem,pv,Q5,bg,cB bg,w1,ai (show s<_ by omega),w3]
theorem TT(hp:P1 ns t D)(fk:jz ns)(hl:ns.length≤1401):∀ m s,m+s=t.2.2.length→cq fun q k=>∀ ki pl,U3 ns 6 pl→∀(fn:Int) (O En:XI) (H:XB) (E:ES) (la:SPS),FG t.2.2.length 6 O H E→En.length=s→O.length≤s * 8000→E.length≤s * 8000→la.length=ns.length→
  ∃ fn' O' En' H' E' la',pw q k ns t.1 t.2.1 t.2.2 ki pl (t.2.2.length:Int) fn O En H E la (s:Int)=some (fn',O',En',H',E',la',())∧FG t.2.2.length 6 O' H' E'∧O'.length≤48000∧E'.length≤48000
 |0,s,h=>by
  have h2:¬ s<t.2.2.length:=by omega
  have hf6:=hp.iE.f;refine cq.succ (cq.of fun q k ki pl _ fn O En H E la hg hEn hO hE My=>⟨fn,O,En,H,E,la,by simp only[go_sem,pw,Q5,h2],hg,by omega,by omega⟩)
 |m+1,s,h=>by
  have bg:s<t.2.2.length:=by omega
  have hf6:=hp.iE.f;have hb:=hp.bd _ (aRa bg);have hw:=hb.2.2.2;have hB:=(X3 (nf:=t.2.2.length) (M:=6) (A:=t.1) (G:=t.2.1) (Fs:=t.2.2) fk (t.2.2[s].2.2.2.2.toNat+1) t.2.2[s].2.2.2.2.toNat (by omega) (by omega)).1 (by rw[aNa hb.1];exact hb.2.2.1)
  unfold BFI at hB;rw[aNa hb.1] at hB;refine cq.succ ((hB.tj.and (TT hp fk hl m (s+1) (by omega))).mono fun q k e ki pl zB fn O En H E la hg hEn hO hE My=>?_)
  have f0:(0:Int)≤(s:Int):=by omega
  have f1:(s:Int)<(t.2.2.length:Nat):=by omega
  have hp1:=qi hg (show O.length≤2000000 by omega) (s:Int) false
  have B0:=hg.oC f0 f1 false;have If:=qi B0 (show(O++[(s:Int)]).length≤2000000 by simp;omega) (s:Int) false
  have Mw:=B0.oC f0 f1 false;have hen:bD En [(O.length:Int)]=some (En++[(O.length:Int)]):=zN (by omega)
  obtain⟨O1,H1,E1,la1,w1,w2,w3⟩:=e.1 ki pl zB (s:Int) (O++[(s:Int)]++[(s:Int)]) (H++[false]++[false]) E (En++[(O.length:Int)]) la (O.length:Int) ((O++[(s:Int)]).length:Int) Mw f0 f1 (by omega) (by simp;omega) My (by simp;omega) (by omega)
  have l1:=w2.lo;have l2:=w2.hi;have l3:=w2.eh;simp only[aua,aDa,aCa] at l1 l2;have hg3:=w2.fg.zx (f:=((O++[(s:Int)]).length:Int)) (t:=((O++[(s:Int)]).length:Int)) (k:=6) (n:=-1) (a:=0) (by omega) (by simp;omega) (fun h=>absurd h (by decide))
  obtain⟨Hz,O2,En2,H2,E2,la2,w4,w5,w6,w7⟩:=e.2 ki pl zB (s:Int) O1 (En++[(O.length:Int)]) H1 (E1++[(((O++[(s:Int)]).length:Int),((O++[(s:Int)]).length:Int),6,-1,0)]) la1 hg3 (by simp;omega) (by omega) (by simp;omega) w3
  refine⟨Hz,O2,En2,H2,E2,la2,?_,w5,w6,w7⟩;simp only[go_sem,pw,rR,Q5,bg,hp1,hen,If,cB bg,w1,tt (show E1.length≤2000000 by omega),ai (show s<_ by omega),w4]
end
theorem Uk{E:ES}{n:Nat}(hE:∀ e∈E,0≤e.1∧e.1<(n:Int))(hl:E.length≤100000)(q:Nat):∀(m s k:Nat) (out:XL),m+s=E.length→m<k→out.length=n→(∀ l∈out,l.length≤s)→∃ PI,px q k E (E.length:Int) out (s:Int)=some (PI,())
 |0,s,k+1,out,h,_,ho,hs=>by
  have h2:¬ s<E.length:=by omega
  exact⟨out,by simp only[go_sem,px,Q5,h2]⟩
 |m+1,s,k+1,out,h,hk,ho,hs=>by
  have bg:s<E.length:=by omega
  have he:=hE _ (aRa bg);have hi:E[s].1.toNat<out.length:=by omega
  have i1:bC out E[s].1=some out[E[s].1.toNat]:=by have:bC out ((E[s].1.toNat:Nat):Int)=some out[E[s].1.toNat]:=cB hi;rwa[aNa he.1] at this
  have i2:bC out ((E[s].1.toNat:Nat):Int)=some out[E[s].1.toNat]:=cB hi;have hol:=hs _ (aRa hi);have ha:bD out[E[s].1.toNat] [(s:Int)]=some (out[E[s].1.toNat]++[(s:Int)]):=zN (by omega)
  obtain⟨PI,e⟩:=Uk hE hl q m (s+1) k (out.set E[s].1.toNat (out[E[s].1.toNat]++[(s:Int)])) (by omega) (by omega) (by simpa using ho) (fun l hl=>by
   rcases List.mem_or_eq_of_mem_set hl with h|rfl
   ·have:=hs l h;omega
   ·simp;omega)
  refine⟨PI,?_⟩;simp only[go_sem,px,Q5,bg,cB bg,i1,i2,ha,b8a,bAa,ai (show s<_ by omega),e]
theorem XG{c:XB}(hc:c.length=36){a b:Nat}(ha:a<6)(hb:b<6):∃ y,bC c ((a:Int) * 6+(b:Int) * 1)=some y:=by
 obtain⟨y,hy⟩:=at_len (i:=a * 6+b * 1) hc (by omega)
 exact⟨y,by rw[←hy];congr 1⟩
theorem fd0{O:XI}{H:XB}{E:ES}{nf:Nat}(hg:FG nf 6 O H E)(hn:nf≤6)(hl:E.length≤100000)(q:Nat):∀(m s k:Nat) (c:XB),m+s=E.length→m<k→c.length=36→∃ c',jJ q k O E (E.length:Int) c (s:Int)=some (c',())∧c'.length=36
 |0,s,k+1,c,h,_,hc=>by
  have h2:¬ s<E.length:=by omega
  exact⟨c,by simp only[go_sem,jJ,Q5,h2],hc⟩
 |m+1,s,k+1,c,h,hk,hc=>by
  have bg:s<E.length:=by omega
  have he:=hg.ed _ (aRa bg);cases h5:(E[s].2.2.1==5) with
  |false=>
   obtain⟨c',e1,e2⟩:=fd0 hg hn hl q m (s+1) k c (by omega) (by omega) hc
   exact⟨c',by simp only[go_sem,jJ,aa,Q5,bg,cB bg,h5,ai (show s<_ by omega),e1],e2⟩
  |true=>
   have ha:=he.2.2 (a9a.1 h5);have hi:E[s].1.toNat<O.length:=by omega
   have i1:bC O E[s].1=some O[E[s].1.toNat]:=by have:bC O ((E[s].1.toNat:Nat):Int)=some O[E[s].1.toNat]:=cB hi;rwa[aNa he.1] at this
   have ho:=hg.ow _ (aRa hi);generalize O[E[s].1.toNat]=o at *;obtain⟨y,hy⟩:=XG hc (a:=o.toNat) (b:=E[s].2.2.2.2.toNat) (by omega) (by omega)
   obtain⟨c',e1,e2⟩:=fd0 hg hn hl q m (s+1) k (c.set (o.toNat * 6+E[s].2.2.2.2.toNat * 1) true) (by omega) (by omega) (by simpa using hc)
   refine⟨c',?_,e2⟩;have b1:decide (0≤o)=true:=decide_eq_true ho.1;have b2:decide (o<6)=true:=decide_eq_true (by omega)
   have b3:decide (0≤E[s].2.2.2.2)=true:=decide_eq_true ha.1;have b4:decide (E[s].2.2.2.2<6)=true:=decide_eq_true ha.2;simp only[go_sem,jJ,aa,Q5,bg,cB bg,h5,i1,b1,b2,b3,b4,bAa,hy,ai (show s<_ by omega),e1]
theorem fd6{kk i n:Nat}(hk:kk<6)(hi:i<6)(hn:n≤6)(q:Nat):∀(m s k:Nat) (c:XB),m+s=n→m<k→c.length=36→∃ c',fW q k (kk:Int) (i:Int) (n:Int) c (s:Int)=some (c',())∧c'.length=36
 |0,s,k+1,c,h,_,hc=>by
  have h2:¬ s<n:=by omega
  exact⟨c,by simp only[go_sem,fW,Q5,h2],hc⟩
 |m+1,s,k+1,c,h,hm,hc=>by
  have bg:s<n:=by omega
  obtain⟨y1,h1⟩:=XG hc hi hk;obtain⟨y2,h2⟩:=XG hc hk (show s<6 by omega)
  obtain⟨y3,h3⟩:=XG hc hi (show s<6 by omega)
  obtain⟨c1,e1,e2⟩:=fd6 hk hi hn q m (s+1) k c (by omega) (by omega) hc
  obtain⟨c2,e3,e4⟩:=fd6 hk hi hn q m (s+1) k (c.set (i * 6+s * 1) true) (by omega) (by omega) (by simpa using hc)
  have bi:decide ((0:Int)≤(i:Int))=true:=decide_eq_true (by omega)
  have bi6:decide ((i:Int)<6)=true:=decide_eq_true (by omega)
  have bk:decide ((0:Int)≤(kk:Int))=true:=decide_eq_true (by omega)
  have bk6:decide ((kk:Int)<6)=true:=decide_eq_true (by omega)
  have bs:decide ((0:Int)≤(s:Int))=true:=decide_eq_true (by omega)
  have bs6:decide ((s:Int)<6)=true:=decide_eq_true (by omega)
  have Ve:fW q (k+1) (kk:Int) (i:Int) (n:Int) c (s:Int)=bif y1 then(bif y2 then fW q k (kk:Int) (i:Int) (n:Int) (c.set (i * 6+s * 1) true) ((s+1:Nat):Int) else fW q k (kk:Int) (i:Int) (n:Int) c ((s+1:Nat):Int)) else fW q k (kk:Int) (i:Int) (n:Int) c ((s+1:Nat):Int):=by simp only[go_sem,fW,aa,Q5,bg,bi,bi6,bk,bk6,bs,bs6,bAa,aAa,h1,h2,h3,ai (show s<_ by omega)]
  rw[Ve];cases y1 with
  |false=>exact⟨c1,e1,e2⟩
  |true=>cases y2 with
   |false=>exact⟨c1,e1,e2⟩
   |true=>exact⟨c2,e3,e4⟩
theorem fd4{kk n:Nat}(hk:kk<6)(hn:n≤6)(q:Nat)(hq:7≤q):∀(m s k:Nat) (c:XB),m+s=n→m<k→c.length=36→∃ c',kI q k (n:Int) (kk:Int) (n:Int) c (s:Int)=some (c',())∧c'.length=36
 |0,s,k+1,c,h,_,hc=>by
  have h2:¬ s<n:=by omega
  exact⟨c,by simp only[go_sem,kI,Q5,h2],hc⟩
 |m+1,s,k+1,c,h,hm,hc=>by
  have bg:s<n:=by omega
  obtain⟨c1,e1,e2⟩:=fd6 hk (show s<6 by omega) hn q n 0 q c (by omega) (by omega) hc
  obtain⟨c2,e3,e4⟩:=fd4 hk hn q hq m (s+1) k c1 (by omega) (by omega) e2
  have e1:fW q q (kk:Int) (s:Int) (n:Int) c 0=some (c1,()):=e1;exact⟨c2,by simp only[go_sem,kI,Q5,bg,e1,ai (show s<_ by omega),e3],e4⟩
theorem fd2{n:Nat}(hn:n≤6)(q:Nat)(hq:7≤q):∀(m s k:Nat) (c:XB),m+s=n→m<k→c.length=36→∃ c',kH q k (n:Int) (n:Int) c (s:Int)=some (c',())∧c'.length=36
 |0,s,k+1,c,h,_,hc=>by
  have h2:¬ s<n:=by omega
  exact⟨c,by simp only[go_sem,kH,Q5,h2],hc⟩
 |m+1,s,k+1,c,h,hm,hc=>by
  have bg:s<n:=by omega
  obtain⟨c1,e1,e2⟩:=fd4 (show s<6 by omega) hn q hq n 0 q c (by omega) (by omega) hc
  obtain⟨c2,e3,e4⟩:=fd2 hn q hq m (s+1) k c1 (by omega) (by omega) e2
  have e1:kI q q (n:Int) (s:Int) (n:Int) c 0=some (c1,()):=e1;exact⟨c2,by simp only[go_sem,kH,Q5,bg,e1,ai (show s<_ by omega),e3],e4⟩
theorem ad3{c:XB}(hc:c.length=36){i n:Nat}(hi:i<n)(hn:n≤6)(q:Nat):∀(m s k:Nat) (d:XB),m+s=n→m<k→d.length=n→∃ d',gk q k c (i:Int) (n:Int) d (s:Int)=some (d',())∧d'.length=n
 |0,s,k+1,d,h,_,hd=>by
  have h2:¬ s<n:=by omega
  exact⟨d,by simp only[go_sem,gk,Q5,h2],hd⟩
 |m+1,s,k+1,d,h,hm,hd=>by
  have bg:s<n:=by omega
  obtain⟨y1,h1⟩:=XG hc (show s<6 by omega) (show s<6 by omega)
  obtain⟨y2,h2⟩:=XG hc (show s<6 by omega) (show i<6 by omega)
  obtain⟨y3,h3⟩:=at_len hd hi;obtain⟨d1,e1,e2⟩:=ad3 hc hi hn q m (s+1) k d (by omega) (by omega) hd
  obtain⟨d2,e3,e4⟩:=ad3 hc hi hn q m (s+1) k (d.set i true) (by omega) (by omega) (by simpa using hd)
  have bi:decide ((0:Int)≤(i:Int))=true:=decide_eq_true (by omega)
  have bi6:decide ((i:Int)<6)=true:=decide_eq_true (by omega)
  have bs:decide ((0:Int)≤(s:Int))=true:=decide_eq_true (by omega)
  have bs6:decide ((s:Int)<6)=true:=decide_eq_true (by omega)
  have Ve:gk q (k+1) c (i:Int) (n:Int) d (s:Int)=bif (y1&&((i:Int)==(s:Int)||y2)) then gk q k c (i:Int) (n:Int) (d.set i true) ((s+1:Nat):Int) else gk q k c (i:Int) (n:Int) d ((s+1:Nat):Int):=by
   simp only[go_sem,gk,aa,Q5,bg,bi,bi6,bs,bs6,bAa,aAa,h1,h2,h3,ai (show s<_ by omega)]
   cases y1<;>cases ((i:Int)==(s:Int))<;>rfl
  rw[Ve];cases (y1&&((i:Int)==(s:Int)||y2)) with
  |false=>exact⟨d1,e1,e2⟩
  |true=>exact⟨d2,e3,e4⟩
theorem fd8{c:XB}(hc:c.length=36){n:Nat}(hn:n≤6)(q:Nat)(hq:7≤q):∀(m s k:Nat) (d:XB),m+s=n→m<k→d.length=n→∃ d',kJ q k (n:Int) c (n:Int) d (s:Int)=some (d',())∧d'.length=n
 |0,s,k+1,d,h,_,hd=>by
  have h2:¬ s<n:=by omega
  exact⟨d,by simp only[go_sem,kJ,Q5,h2],hd⟩
 |m+1,s,k+1,d,h,hm,hd=>by
  have bg:s<n:=by omega
  obtain⟨d1,e1,e2⟩:=ad3 hc bg hn q n 0 q d (by omega) (by omega) hd
  obtain⟨d2,e3,e4⟩:=fd8 hc hn q hq m (s+1) k d1 (by omega) (by omega) e2
  have e1:gk q q c (s:Int) (n:Int) d 0=some (d1,()):=e1;exact⟨d2,by simp only[go_sem,kJ,Q5,bg,e1,ai (show s<_ by omega),e3],e4⟩
theorem KC{α:Type}(n:Nat)(x:α)(h:n≤1000000):mkl (n:Int) x=some (List.replicate n x):=by
 have h1:decide ((0:Int)≤(n:Int))=true:=decide_eq_true (by omega)
 have h2:decide ((n:Int)≤4294967296)=true:=decide_eq_true (by omega)
 simp only[go_sem,mkl,h1,h2,bAa,aAa]
theorem FD{α:Type}{l:List α}{n:Nat}(h:l.length=n):sub l 0 (n:Int)=some l:=by
 have:=wV (l:=l) (m:=0) (n:=n) (by omega) (by omega)
 rw[show(0:Int)=((0:Nat):Int) from rfl,this,←h,cta];rfl
theorem Pk{F:FS}{O:XI}{H:XB}{E:ES}(hg:FG F.length 6 O H E)(hn:F.length≤6)(hl:E.length≤100000){k:Nat}(hk:200000≤k):∃ d,vL k F O E=some (d,()):=by
 obtain⟨c1,e1,e2⟩:=fd0 hg hn hl k E.length 0 k (List.replicate 36 false) (by omega) (by omega) (by simp)
 obtain⟨c2,e3,e4⟩:=fd2 hn k (by omega) F.length 0 k c1 (by omega) (by omega) e2
 obtain⟨d,e5,e6⟩:=fd8 e4 hn k (by omega) F.length 0 k (List.replicate F.length false) (by omega) (by omega) (by simp)
 have e1:jJ k k O E (E.length:Int) (List.replicate 36 false) 0=_:=e1;have e3:kH k k (F.length:Int) (F.length:Int) c1 0=_:=e3;have e5:kJ k k (F.length:Int) c2 (F.length:Int) (List.replicate F.length false) 0=_:=e5;exact⟨d,by simp only[go_sem,vL,e1,e3,KC F.length false (by omega),FD (bwa (n:=F.length) (a:=false)),e5]⟩
section
variable {ns:List eu} {t:zw} {D:AS}
theorem Yi(hp:P1 ns t D)(fk:jz ns)(HL:∀ x∈t.2.2,Ip ns t x.1 x.2.2.2.2.toNat)(hl:ns.length≤1401):Ev fun k=>∀ bB,pA k bB=some (ns,(0,0),())→jc k ns=some (t,(0,0),())→
  ∃ ki pl O En H E la out d,tI k bB=some (.inl (ns,t.1,t.2.1,t.2.2,ki,pl,O,En,H,E,la,out,d,(0,0),())):=by
 have hf6:=hp.iE.f;refine((QA hp fk HL t.2.2.length 0 rfl).jY.and ((TT hp fk hl t.2.2.length 0 rfl).jY.and (⟨200000,fun k hk=>hk⟩:Ev fun k=>200000≤k))).mono fun k e bB hT hN=>?_;obtain⟨e1,e2,hk⟩:=e;have h0:KP ns (List.replicate ns.length 0) (List.replicate ns.length 0):=⟨by simp,by simp,fun j x hj _=>⟨0,by
  have:=(aka.1 hj).1;simp[this],by omega,by omega⟩⟩
 obtain⟨ki,pl,w1,w2⟩:=e1 _ _ h0;obtain⟨fn,O,En,H,E,la,w3,w4,w5,w6⟩:=e2 ki pl w2.o 0 [] [] [] [] (List.replicate ns.length (0,0,0,0)) ⟨rfl,by simp,by simp⟩ rfl (by simp) (by simp) (by simp)
 obtain⟨out,w7⟩:=Uk (n:=O.length) (fun e he=>⟨(w4.ed e he).1,(w4.ed e he).2.1⟩) (by omega) k E.length 0 k (List.replicate O.length []) (by omega) (by omega) (by simp) (by simp)
 obtain⟨d,w8⟩:=Pk w4 hf6 (by omega) hk
 have w1:pv k k ns t.1 t.2.1 t.2.2 t.2.2 (t.2.2.length:Int) (List.replicate ns.length 0) (List.replicate ns.length 0) 0=_:=w1;have w3:pw k k ns t.1 t.2.1 t.2.2 ki pl (t.2.2.length:Int) 0 [] [] [] [] (List.replicate ns.length (0,0,0,0)) 0=_:=w3;have w7:px k k E (E.length:Int) (List.replicate O.length []) 0=_:=w7;refine⟨ki,pl,O,En,H,E,la,out,d,?_⟩;simp only[go_sem,tI,hT,hN,KC ns.length (0:Int) (by omega),FD (bwa (n:=ns.length) (a:=(0:Int))),w1,KC ns.length ((0,0,0,0):Int×Int×Int×Int) (by omega),FD (bwa (n:=ns.length) (a:=((0,0,0,0):Int×Int×Int×Int))),w3,KC O.length ([]:XI) (by omega),FD (bwa (n:=O.length) (a:=([]:XI))),w7,w8]
end
end Go.Fx.R5
namespace Go.Fx.R5
open Go Go.Fx
theorem afe{ns:List eu}(hl:ns.length≤1000000)(q:Nat):∀(m s k:Nat) (fr to:XI),m+s=ns.length→m<k→fr.length=s→to.length=s→∃ Qi to',ov q k ns fr to (s:Int)=some (Qi,to',())∧Qi.length=ns.length∧to'.length=ns.length
 |0,s,k+1,fr,to,h,_,hf,ht=>by
  have h2:¬ s<ns.length:=by omega
  exact⟨fr,to,by simp only[go_sem,ov,Q5,h2],by omega,by omega⟩
 |m+1,s,k+1,fr,to,h,hk,hf,ht=>by
  have bg:s<ns.length:=by omega
  obtain⟨Qi,to',e1,e2,e3⟩:=afe hl q m (s+1) k (fr++[-1]) (to++[-1]) (by omega) (by omega) (by simp;omega) (by simp;omega)
  exact⟨Qi,to',by simp only[go_sem,ov,Q5,bg,zN (show fr.length≤2000000 by omega),zN (show to.length≤2000000 by omega),ai (show s<_ by omega),e1],e2,e3⟩
section
variable {ns:List eu} {t:zw} {D:AS}
theorem aff(hp:P1 ns t D)(fk:jz ns)(HL:∀ x∈t.2.2,Ip ns t x.1 x.2.2.2.2.toNat)(hl:ns.length≤1401):∀ m s,m+s=t.2.2.length→cq fun q k=>∀(fn:Int) (O En:XI) (H:XB) (E:ES) (fr to:XI),FG t.2.2.length t.2.2.length O H E→En.length=s→O.length≤s * 8000→E.length≤s * 8000→fr.length=ns.length→to.length=ns.length→
  ∃ fn' O' En' H' E' Qi to',oz q k t.2.2 t.1 t.2.1 t.2.2 ns fn O En H E fr to (s:Int)=some (fn',O',En',H',E',Qi,to',())∧FG t.2.2.length t.2.2.length O' H' E'∧E'.length≤48000∧En'.length=t.2.2.length
 |0,s,h=>by
  have h2:¬ s<t.2.2.length:=by omega
  have hf6:=hp.iE.f;refine cq.succ (cq.of fun q k fn O En H E fr to hg hEn hO hE tV JN=>⟨fn,O,En,H,E,fr,to,by simp only[go_sem,oz,Q5,h2],hg,by omega,by omega⟩)
 |m+1,s,h=>by
  have bg:s<t.2.2.length:=by omega
  have hf6:=hp.iE.f;have hb:=hp.bd _ (aRa bg);have hw:=hb.2.2.2;have hB:=(X4 (nf:=t.2.2.length) (nmf:=t.2.2[s].1) hp.iE fk (t.2.2[s].2.2.2.2.toNat+1) t.2.2[s].2.2.2.2.toNat (by omega) (by omega) (HL _ (aRa bg))).1 (by rw[aNa hb.1];exact hb.2.2.1)
  unfold BFS at hB;rw[aNa hb.1] at hB;refine cq.succ ((hB.tj.and (aff hp fk HL hl m (s+1) (by omega))).mono fun q k e fn O En H E fr to hg hEn hO hE tV JN=>?_)
  have f0:(0:Int)≤(s:Int):=by omega
  have f1:(s:Int)<(t.2.2.length:Nat):=by omega
  have hp1:=ry hg (show O.length≤2000000 by omega) (s:Int) false
  have B0:=hg.oC f0 f1 false;have If:=ry B0 (show(O++[(s:Int)]).length≤2000000 by simp;omega) (s:Int) false
  have Mw:=B0.oC f0 f1 false;have hen:bD En [(O.length:Int)]=some (En++[(O.length:Int)]):=zN (by omega)
  obtain⟨O1,H1,E1,fr1,to1,w1,w2,w3,w3'⟩:=e.1 (s:Int) (O++[(s:Int)]++[(s:Int)]) (H++[false]++[false]) E (En++[(O.length:Int)]) fr to (O.length:Int) ((O++[(s:Int)]).length:Int) Mw f0 f1 (by omega) (by simp;omega) tV JN (by simp;omega) (by omega)
  have l1:=w2.lo;have l2:=w2.hi;have l3:=w2.eh;simp only[aua,aDa,aCa] at l1 l2;have hg3:=w2.fg.zx (f:=((O++[(s:Int)]).length:Int)) (t:=((O++[(s:Int)]).length:Int)) (k:=6) (n:=-1) (a:=0) (by omega) (by simp;omega) (fun h=>absurd h (by decide))
  obtain⟨Hz,O2,En2,H2,E2,fr2,Ds,w4,w5,w6,w7⟩:=e.2 (s:Int) O1 (En++[(O.length:Int)]) H1 (E1++[(((O++[(s:Int)]).length:Int),((O++[(s:Int)]).length:Int),6,-1,0)]) fr1 to1 hg3 (by simp;omega) (by omega) (by simp;omega) w3 w3'
  refine⟨Hz,O2,En2,H2,E2,fr2,Ds,?_,w5,w6,w7⟩;simp only[go_sem,oz,Q5,bg,hp1,hen,If,cB bg,w1,uB (show E1.length≤2000000 by omega),ai (show s<_ by omega),w4]
end
section
variable {O En:XI} {H:XB} {E:ES}
theorem U6{α:Type}{l:List α}{v:Int}(h0:0≤v)(h1:v<l.length):∃ y,bC l v=some y∧bC l ((v.toNat:Nat):Int)=some y:=by
 obtain⟨y,hy⟩:=at_len (l:=l) (i:=v.toNat) rfl (by omega)
 exact⟨y,by rw[←hy,aNa h0],hy⟩
theorem VN{n:Nat}(hg:FG n n O H E)(hl:E.length≤100000)(fn:Int)(q:Nat):∀(m s k:Nat) (r:XB),m+s=E.length→m<k→r.length=n→∃ r',gR q k O E fn r (s:Int)=some (r',())∧r'.length=n
 |0,s,k+1,r,h,_,hr=>by
  have h2:¬ s<E.length:=by omega
  exact⟨r,by simp only[go_sem,gR,Q5,h2],hr⟩
 |m+1,s,k+1,r,h,hk,hr=>by
  have bg:s<E.length:=by omega
  have he:=hg.ed _ (aRa bg);obtain⟨r1,e1,e2⟩:=VN hg hl fn q m (s+1) k r (by omega) (by omega) hr
  cases h5:(E[s].2.2.1==5) with
  |false=>exact⟨r1,by simp only[go_sem,gR,aa,Q5,bg,cB bg,h5,ai (show s<_ by omega),e1],e2⟩
  |true=>
   have ha:=he.2.2 (a9a.1 h5);obtain⟨o,o1,o2⟩:=U6 (l:=O) he.1 he.2.1;have hom:o∈O:=by
    simp only[go_sem,bC,aAa,show decide (0≤((E[s].1.toNat:Nat):Int))=true from decide_eq_true (by omega)] at o2
    exact a1a o2
   have ho:=hg.ow o hom;obtain⟨b,b1,b2⟩:=U6 (l:=r) (v:=o) ho.1 (by omega)
   obtain⟨c,c1,c2⟩:=U6 (l:=r) (v:=E[s].2.2.2.2) ha.1 (by omega)
   obtain⟨r2,e3,e4⟩:=VN hg hl fn q m (s+1) k (r.set E[s].2.2.2.2.toNat true) (by omega) (by omega) (by simpa using hr)
   have Ve:gR q (k+1) O E fn r (s:Int)=bif (o==fn||b) then gR q k O E fn (r.set E[s].2.2.2.2.toNat true) ((s+1:Nat):Int) else gR q k O E fn r ((s+1:Nat):Int):=by
    simp only[go_sem,gR,aa,Q5,bg,cB bg,h5,o1,b1,b2,c1,c2,ai (show s<_ by omega)]
    cases (o==fn)<;>rfl
   rw[Ve];cases (o==fn||b) with
   |false=>exact⟨r1,e1,e2⟩
   |true=>exact⟨r2,e3,e4⟩
theorem aaS{n:Nat}(hg:FG n n O H E)(hn:n≤6)(hEn:En.length=n)(hl:E.length≤100000)(fn:Int)(q:Nat)(hq:100001≤q):∀(m s k:Nat) (r:XB),m+s=n→m<k→r.length=n→∃ r',mm q k O En E fn r (s:Int)=some (r',())∧r'.length=n
 |0,s,k+1,r,h,_,hr=>by
  have h2:¬ s<En.length:=by omega
  exact⟨r,by simp only[go_sem,mm,Q5,h2],hr⟩
 |m+1,s,k+1,r,h,hk,hr=>by
  have bg:s<En.length:=by omega
  obtain⟨r1,e1,e2⟩:=VN hg hl fn q E.length 0 q r (by omega) (by omega) hr
  obtain⟨r2,e3,e4⟩:=aaS hg hn hEn hl fn q hq m (s+1) k r1 (by omega) (by omega) e2
  have e1:gR q q O E fn r 0=_:=e1;exact⟨r2,by simp only[go_sem,mm,Q5,bg,e1,ai (show s<_ by omega),e3],e4⟩
theorem Uu{n:Nat}(hg:FG n n O H E)(hn:n≤6)(hEn:En.length=n)(hl:E.length≤100000)(fn:Int){k:Nat}(hk:100001≤k):∃ r,xU k (O,En,H,E) fn=some (r,())∧r.length=n:=by
 obtain⟨r,e1,e2⟩:=aaS hg hn hEn hl fn k hk n 0 k (List.replicate n false) (by omega) (by omega) (by simp)
 have e1:mm k k O En E fn (List.replicate n false) 0=_:=e1;exact⟨r,by simp only[go_sem,xU,hEn,KC n false (by omega),FD (bwa (n:=n) (a:=false)),e1],e2⟩
theorem kW{n:Nat}{r:XB}(hr:r.length=n)(hn:n≤6)(q:Nat):∀(m s k:Nat) (d:XB),m+s=n→m<k→d.length=n→∃ d',nt q k r d (s:Int)=some (d',())∧d'.length=n
 |0,s,k+1,d,h,_,hd=>by
  have h2:¬ s<r.length:=by omega
  exact⟨d,by simp only[go_sem,nt,Q5,h2],hd⟩
 |m+1,s,k+1,d,h,hk,hd=>by
  have bg:s<r.length:=by omega
  obtain⟨y,hy⟩:=at_len (l:=d) hd (show s<n by omega)
  obtain⟨z,hz⟩:=at_len (l:=r) hr (show s<n by omega)
  obtain⟨d1,e1,e2⟩:=kW hr hn q m (s+1) k (d.set s (y||z)) (by omega) (by omega) (by simpa using hd)
  refine⟨d1,?_,e2⟩;rw[←e1];simp only[go_sem,nt,aa,Q5,bg,aAa,hy,hz,ai (show s<_ by omega)]
  cases y<;>rfl
theorem Zh{n:Nat}(hg:FG n n O H E)(hn:n≤6)(hEn:En.length=n)(hl:E.length≤100000)(q:Nat)(hq:100001≤q):∀(m s k:Nat) (d:XB),m+s=n→m<k→d.length=n→∃ d',jh q k O En H E d (s:Int)=some (d',())∧d'.length=n
 |0,s,k+1,d,h,_,hd=>by
  have h2:¬ s<En.length:=by omega
  exact⟨d,by simp only[go_sem,jh,Q5,h2],hd⟩
 |m+1,s,k+1,d,h,hk,hd=>by
  have bg:s<En.length:=by omega
  obtain⟨r,e1,e2⟩:=Uu hg hn hEn hl (s:Int) hq;obtain⟨x,hx⟩:=at_len (l:=r) e2 (show s<n by omega)
  obtain⟨y,hy⟩:=at_len (l:=d) hd (show s<n by omega)
  obtain⟨d1,e3,e4⟩:=kW e2 hn q n 0 q (d.set s true) (by omega) (by omega) (by simpa using hd)
  have e3:nt q q r (d.set s true) 0=_:=e3;obtain⟨d2,e5,e6⟩:=Zh hg hn hEn hl q hq m (s+1) k d (by omega) (by omega) hd
  obtain⟨d3,e7,e8⟩:=Zh hg hn hEn hl q hq m (s+1) k d1 (by omega) (by omega) e4
  have Ve:jh q (k+1) O En H E d (s:Int)=bif x then jh q k O En H E d1 ((s+1:Nat):Int) else jh q k O En H E d ((s+1:Nat):Int):=by
   simp only[go_sem,jh,aa,Q5,bg,e1,hx,hy,aAa,e3,ai (show s<_ by omega)]
   cases x<;>rfl
  rw[Ve];cases x with
  |false=>exact⟨d2,e5,e6⟩
  |true=>exact⟨d3,e7,e8⟩
end
section
variable {ns:List eu} {t:zw} {D:AS}
theorem Yu(hp:P1 ns t D)(fk:jz ns)(HL:∀ x∈t.2.2,Ip ns t x.1 x.2.2.2.2.toNat)(hl:ns.length≤1401):Ev fun k=>∀ bB,gQ k bB=some (ns,(0,0),())→dG k bB=some (t,(0,0),())→
  ∃ O En H E d,uD k bB=some (.inl (t.1,t.2.1,t.2.2,ns,O,En,H,E,d,true,())):=by
 have hf6:=hp.iE.f;refine((aff hp fk HL hl t.2.2.length 0 rfl).jY.and (⟨200000,fun k hk=>hk⟩:Ev fun k=>200000≤k)).mono fun k e bB hT hN=>?_;obtain⟨e2,hk⟩:=e;obtain⟨fr,to,w1,w2,w3⟩:=afe (ns:=ns) (by omega) k ns.length 0 k [] [] rfl (by omega) rfl rfl
 obtain⟨fn,O,En,H,E,Qi,to',w4,w5,w6,w7⟩:=e2 0 [] [] [] [] fr to ⟨rfl,by simp,by simp⟩ rfl (by simp) (by simp) w2 w3
 obtain⟨d,w8,_⟩:=Zh w5 hf6 w7 (by omega) k (by omega) t.2.2.length 0 k (List.replicate t.2.2.length false) (by omega) (by omega) (by simp)
 have w1:ov k k ns [] [] 0=_:=w1;have w4:oz k k t.2.2 t.1 t.2.1 t.2.2 ns 0 [] [] [] [] fr to 0=_:=w4;have w8:jh k k O En H E (List.replicate t.2.2.length false) 0=_:=w8;refine⟨O,En,H,E,d,?_⟩;simp only[go_sem,uD,hN,hT,Ia,H9,w1,w4,E9,w7,KC t.2.2.length false (by omega),FD (bwa (n:=t.2.2.length) (a:=false)),w8]
end
theorem AO(q:Nat)(A:AS):∀ k l i,mv q k A (A.length:Int) l i=gJ q k A l i
 |0,_,_=>rfl
 |k+1,l,i=>by simp only[mv,gJ,AO q A k];cases bC A i<;>rfl
theorem st2(q:Nat)(ns:List eu):∀ k l i,mw q k ns (ns.length:Int) l i=fK q k ns l i
 |0,_,_=>rfl
 |k+1,l,i=>by simp only[mw,fK,aa,st2 q ns k];cases bC ns i<;>rfl
theorem VZ(k:Nat)(ns:List eu)(A:AS):ri k ns A=nN k A ns:=by simp only[ri,nN,AO,st2]
theorem VY(A:AS)(ns:List eu)(ha:A.length≤4)(hn:ns.length≤1401){k:Nat}(hk:2000≤k):∃ l:XI,nN k A ns=some (l,())∧l.length≤20000:=by
 have l0:∀(m s k':Nat) (l:XI),m+s=A.length→m<k'→l.length≤2 * s→∃ l',gJ k k' A l (s:Int)=some (l',())∧l'.length≤8:=by
  intro m;induction m with
  |zero=>
   intro s k' l h hk' hl;obtain⟨k',rfl⟩:∃ j,k' = j+1:=⟨k' - 1,by omega⟩
   have h2:¬ s<A.length:=by omega
   exact⟨l,by simp only[go_sem,gJ,Q5,h2],by omega⟩
  |succ m ih=>
   intro s k' l h hk' hl;obtain⟨k',rfl⟩:∃ j,k' = j+1:=⟨k' - 1,by omega⟩
   have bg:s<A.length:=by omega
   obtain⟨l',e1,e2⟩:=ih (s+1) k' (l++[bh (A[s].2 - 1),A[s].2]) (by omega) (by omega) (by simp;omega)
   have ha:bD l [bh (A[s].2 - 1),A[s].2]=some (l++[bh (A[s].2 - 1),A[s].2]):=oj (by simp;omega)
   exact⟨l',by simp only[go_sem,gJ,Q5,bg,cB bg,ha,ai (show s<_ by omega),e1],e2⟩
 have l2:∀(m s k':Nat) (l:XI),m+s=ns.length→m<k'→l.length≤8+6 * s→∃ l',fK k k' ns l (s:Int)=some (l',())∧l'.length≤20000:=by
  intro m;induction m with
  |zero=>
   intro s k' l h hk' hl;obtain⟨k',rfl⟩:∃ j,k' = j+1:=⟨k' - 1,by omega⟩
   have h2:¬ s<ns.length:=by omega
   exact⟨l,by simp only[go_sem,fK,Q5,h2],by omega⟩
  |succ m ih=>
   intro s k' l h hk' hl;obtain⟨k',rfl⟩:∃ j,k' = j+1:=⟨k' - 1,by omega⟩
   have bg:s<ns.length:=by omega
   cases h24:(ns[s].1==24) with
   |false=>
    obtain⟨l',e1,e2⟩:=ih (s+1) k' l (by omega) (by omega) (by omega)
    exact⟨l',by simp only[go_sem,fK,aa,Q5,bg,cB bg,h24,ai (show s<_ by omega),e1],e2⟩
   |true=>
    have ha:∀ a b c d e f:Int,bD l [a,b,c,d,e,f]=some (l++[a,b,c,d,e,f]):=fun a b c d e f=>oj (by simp;omega)
    obtain⟨l',e1,e2⟩:=ih (s+1) k' (l++[bh (ns[s].2.2.1 - 1),ns[s].2.2.1,bh (ns[s].2.2.1+1),bh (bh (0 - ns[s].2.2.1) - 1),bh (0 - ns[s].2.2.1),bh (1 - ns[s].2.2.1)]) (by omega) (by omega) (by simp;omega)
    exact⟨l',by simp only[go_sem,fK,aa,Q5,bg,cB bg,h24,ha,ai (show s<_ by omega),e1],e2⟩
 obtain⟨a,e1,e2⟩:=l0 A.length 0 k [] rfl (by omega) (by simp)
 obtain⟨b,e3,e4⟩:=l2 ns.length 0 k a rfl (by omega) (by omega)
 have e1:gJ k k A [] 0=_:=e1;have e3:fK k k ns a 0=_:=e3;exact⟨b,by simp only[go_sem,nN,e1,e3],e4⟩
theorem Yh(bB:ab):(∃ c p,c≠0∧Ev fun k=>dG k bB=some (([],[],[]),(c,p),())∧tI k bB=some (.inr ((c,p),())))∨
  ∃ ns t D,U5 ns∧P1 ns t D∧Ev fun k=>(gQ k bB=some (ns,(0,0),())∧dG k bB=some (t,(0,0),()))∧
   (∃ ki pl O En H E la out d,tI k bB=some (.inl (ns,t.1,t.2.1,t.2.2,ki,pl,O,En,H,E,la,out,d,(0,0),())))∧∃ O En H E d,uD k bB=some (.inl (t.1,t.2.1,t.2.2,ns,O,En,H,E,d,true,())):=by
 rcases VH bB with ⟨ns,hT,he⟩|⟨c,p,hc,he⟩
 ·rcases V2 hT with ⟨c,p,hc,hN⟩|⟨t,D,hp,HL,hN⟩
  ·refine .inl ⟨c,p,hc,(he.and hN).mono fun k e=>⟨e.2.2 bB e.1.1,?_⟩⟩
   simp only[go_sem,tI,e.1.2,e.2.1,aUa.2 hc]
  ·have hl:ns.length≤1401:=hT.len
   refine .inr ⟨ns,t,D,hT,hp,((he.and hN).and ((Yi hp hT.all HL hl).and (Yu hp hT.all HL hl))).mono fun k e=>?_⟩;obtain⟨⟨⟨e1,e2⟩,e3,e4⟩,e5,e6⟩:=e;exact⟨⟨e1,e4 bB e1⟩,e5 bB e2 e3,e6 bB e1 (e4 bB e1)⟩
 ·refine .inl ⟨c,p,hc,he.mono fun k e=>⟨by simp only[go_sem,dG,e.1,aUa.2 hc],?_⟩⟩
  simp only[go_sem,tI,e.2,aUa.2 hc]
end Go.Fx.R5
namespace Go.Fx.R5
open Go Go.Fx
theorem Oy(q:Nat)(out:XI)(x:Int):∀(m s k:Nat),m+s=out.length→m<k→out.length≤1000→
  (iJ q k out x (s:Int)=some (.inl ())∧fT q k x out (out.length:Int) (s:Int)=some (.inl ())∧∀ y∈out.drop s,y≠x)∨
  ∃ j:Nat,iJ q k out x (s:Int)=some (.inr ((j:Int),()))∧fT q k x out (out.length:Int) (s:Int)=some (.inr (true,()))
 |0,s,k+1,h,_,_=>by
  have h2:¬ s<out.length:=by omega
  refine .inl ⟨?_,?_,?_⟩
  ·simp only[go_sem,iJ,Q5,h2]
  ·simp only[go_sem,fT,Q5,h2]
  ·rw[cqa (by omega)];simp
 |m+1,s,k+1,h,hk,hl=>by
  have bg:s<out.length:=by omega
  simp only[go_sem,iJ,fT,Q5,bg,cB bg,ai (show s<_ by omega)]
  cases he:(out[s]==x) with
  |true=>exact .inr ⟨s,rfl,rfl⟩
  |false=>
   rcases Oy q out x m (s+1) k (by omega) (by omega) hl with ⟨a,b,c⟩|h
   ·refine .inl ⟨a,b,fun y hy=>?_⟩
    rw[aQa bg] at hy;rcases ama.1 hy with rfl|hy
    ·exact ne_of_beq_false he
    ·exact c y hy
   ·exact .inr h
theorem aaJ(out:XI)(x:Int){k:Nat}(hk:out.length<k)(hl:out.length≤1000):∃ p,sC k out x=some (p,())∧oN k out x=some (!decide (p<0),())∧(p<0→x∉out):=by
 rcases Oy k out x out.length 0 k rfl hk hl with ⟨a,b,c⟩|⟨j,a,b⟩
 ·have a:iJ k k out x 0=_:=a
  have b:fT k k x out (out.length:Int) 0=_:=b;exact⟨-1,by simp only[go_sem,sC,a],by simp only[go_sem,oN,b];rfl,fun _ hx=>c x (by simpa using hx) rfl⟩
 ·have a:iJ k k out x 0=_:=a
  have b:fT k k x out (out.length:Int) 0=_:=b;have h2:¬ ((j:Int)<0):=by omega
  exact⟨j,by simp only[go_sem,sC,a],by simp only[go_sem,oN,b,h2],fun h=>absurd h h2⟩
theorem aaw(x:Int):∃ b,CC x=some (b,())∧Cq x=some (b,()):=by
 refine⟨decide (x≥-2147483648)&&decide (x≤2147483647),?_,?_⟩
 ·simp only[CC,tR,aa]
  cases decide (x≥-2147483648)<;>rfl
 ·simp only[Cq,aa]
  cases decide (x≥-2147483648)<;>rfl
theorem Ff(q:Nat)(hq:9≤q)(l:XI)(hl:l.length≤100000):∀(m s k:Nat) (out:XI),m+s=l.length→m<k→4≤out.length→out.length≤8→out.Nodup→
  ∃ b,kq q k l out (s:Int)=some (b,())∧hJ q k l (l.length:Int) out (s:Int)=some (b,())∧4≤b.length∧b.length≤8∧b.Nodup
 |0,s,k+1,out,h,_,h4,h8,hn=>by
  have h2:¬ s<l.length:=by omega
  exact⟨out,by simp only[go_sem,kq,aa,Q5,h2],by simp only[go_sem,hJ,Q5,h2],h4,h8,hn⟩
 |m+1,s,k+1,out,h,hk,h4,h8,hn=>by
  have bg:s<l.length:=by omega
  have i2:=cB bg;have i3:bC l ((Int.toNat (s:Int):Nat):Int)=some l[s]:=by simpa using i2
  by_cases h9:out.length=8
  ·have h5:¬ ((out.length:Int)<8):=by omega
   have h6:((out.length:Int)==8)=true:=by rw[h9];rfl
   exact⟨out,by simp only[go_sem,kq,aa,Q5,bg,h5],
    by simp only[go_sem,hJ,aa,Q5,bg,i2,i3,h6],h4,h8,hn⟩
  ·have h5:(out.length:Int)<8:=by omega
   have h6:((out.length:Int)==8)=false:=Q6.2 (by omega)
   obtain⟨p,p1,p2,p3⟩:=aaJ out l[s] (k:=q) (by omega) (by omega)
   obtain⟨o,o1,o2⟩:=aaw l[s];simp only[go_sem,kq,hJ,aa,Q5,bg,h5,i2,i3,h6,p1,p2,o1,o2,ai (show s<_ by omega),oj (show out.length+[l[s]].length≤4294967296 by simp;omega)]
   cases o with
   |false=>
    obtain⟨b,e1,e2⟩:=Ff q hq l hl m (s+1) k out (by omega) (by omega) h4 h8 hn
    refine⟨b,?_,e2⟩;cases decide (p<0)<;>simpa using e1
   |true=>
    by_cases hp:p<0
    ·obtain⟨b,e1,e2⟩:=Ff q hq l hl m (s+1) k (out++[l[s]]) (by omega) (by omega) (by simp;omega) (by simp;omega) (by
      rw[bba];exact⟨hn,by simp,fun a ha b hb=>by rw[Q7.1 hb];exact fun e=>p3 hp (e ▸ ha)⟩)
     exact⟨b,by simpa[hp] using e1,by simpa[hp] using e2⟩
    ·obtain⟨b,e1,e2⟩:=Ff q hq l hl m (s+1) k out (by omega) (by omega) h4 h8 hn
     exact⟨b,by simpa[hp] using e1,by simpa[hp] using e2⟩
theorem agQ(q:Nat)(b:XI):∀(k:Nat) (n s c:Int),oO q k b n s c=qN q k b n s c
 |0,_,_,_=>rfl
 |k+1,n,s,c=>by simp only[oO,qN,agQ q b k]
theorem agR(q:Nat)(b:XI):∀(k:Nat) (n:Int) (o:XI) (i:Int),oP q k b n o i=qO q k b n o i
 |0,_,_,_=>rfl
 |k+1,n,o,i=>by simp only[oP,qO,agR q b k]
theorem abm(k:Nat)(b:XI)(n:Int):vM k b n=pd k b n:=by simp only[vM,pd,agQ,agR]
def PP(L n:Nat):List Nat:=
 if n<1 then [] else if n<1+L then [n - 1] else if n<1+L+L * L then [(n - 1 - L) / L,(n - 1 - L) % L] else
  [(n - 1 - L - L * L) / (L * L),(n - 1 - L - L * L) / L % L,(n - 1 - L - L * L) % L]
theorem ag6{α:Type}{f g:Nat→α}{n:Nat}(h:(List.range 60).map f=(List.range 60).map g)(hn:n<60):f n=g n:=by
 have:=bLa (·[n]?) h
 simpa[hn] using this
theorem OR(l:XI)(k:Nat){n:Nat}(hn:n<60)(h:((List.range 60).map fun n=>pd (k+6) l ((n:Nat):Int))=(List.range 60).map fun n=>some ((PP l.length n).map fun i=>l.getD i 0,())):
 pd (k+6) l (n:Int)=some ((PP l.length n).map fun i=>l.getD i 0,()):=ag6 h hn
theorem ae7(b:XI)(h4:4≤b.length)(h8:b.length≤8)(n:Nat)(hn:n<60)(k:Nat):pd (k+6) b (n:Int)=some ((PP b.length n).map fun i=>b.getD i 0,()):=by
 match b,h4,h8 with
 |[a,b,c,d],_,_=>exact OR _ k hn (by kernel_rfl)
 |[a,b,c,d,e],_,_=>exact OR _ k hn (by kernel_rfl)
 |[a,b,c,d,e,f],_,_=>exact OR _ k hn (by kernel_rfl)
 |[a,b,c,d,e,f,g],_,_=>exact OR _ k hn (by kernel_rfl)
 |[a,b,c,d,e,f,g,h],_,_=>exact OR _ k hn (by kernel_rfl)
theorem acJ:∀ L n:Nat,(PP L n).length≤3:=fun L n=>by
 unfold PP
 repeat' split
 all_goals simp
theorem Yc(bB:ab):(∃ c p,c≠0∧Ev fun k=>dG k bB=some (([],[],[]),(c,p),())∧∀ n:Int,rA k bB n=some ([],())∧pu k bB n=some ([],()))∨
  ∃ t,Ev fun k=>dG k bB=some (t,(0,0),())∧∃ b:XI,(4≤b.length∧b.length≤8∧b.Nodup)∧∀ n:Int,
   rA k bB n=some (bif decide (0≤n)&&decide (n≤59) then(PP b.length n.toNat).map fun i=>b.getD i 0 else [],())∧
   pu k bB n=some (bif decide (0≤n)&&decide (n≤59) then(PP b.length n.toNat).map fun i=>b.getD i 0 else [],()):=by
 rcases Yh bB with ⟨c,p,hc,he⟩|⟨ns,t,D,hT,hp,he⟩
 ·refine .inl ⟨c,p,hc,he.mono fun k e=>⟨e.1,fun n=>⟨?_,?_⟩⟩⟩
  ·simp only[go_sem,rA,aa,e.1,aUa.2 hc]
  ·simp only[go_sem,pu,aa,e.2,aUa.2 hc]
   cases decide (n<0)<;>cases decide (n≥60)<;>rfl
 ·refine .inr ⟨t,(he.and (⟨30000,fun k hk=>hk⟩:Ev fun k=>30000≤k)).mono fun k e=>⟨e.1.1.2,?_⟩⟩
  obtain⟨⟨⟨_,w0⟩,⟨ki,pl,O,En,H,E,la,out,d,w1⟩,O',En',H',E',d',w2⟩,hk⟩:=e;obtain⟨l,w3,w4⟩:=VY t.1 ns hp.iE.a hT.len (k:=k) (by omega)
  obtain⟨b,w5,w6,h4,h8,hn⟩:=Ff k (by omega) l (by omega) l.length 0 k [0,1,-1,2] rfl (by omega) (by simp) (by simp) (by decide)
  have w5:kq k k l [0,1,-1,2] 0=_:=w5;have w6:hJ k k l (l.length:Int) [0,1,-1,2] 0=_:=w6;obtain⟨k',rfl⟩:∃ j,k=j+6:=⟨k - 6,by omega⟩
  refine⟨b,⟨h4,h8,hn⟩,fun n=>?_⟩;have key:∀ n:Int,0≤n→n≤59→pd (k' + 6) b n=some ((PP b.length n.toNat).map fun i=>b.getD i 0,()):=fun n h0 h1=>by
   have:=ae7 b h4 h8 n.toNat (by omega) k'
   rwa[aNa h0] at this
  simp only[go_sem,rA,pu,tR,aa,w0,w1,CD,vH,w2,w3,w5,vq,VZ,w6,abm];by_cases h0:0≤n
  ·have g0:¬ n<0:=by omega
   by_cases h1:n≤59
   ·have g1:¬ n≥60:=by omega
    simp only[go_sem,h0,h1,g0,g1,bAa,key n h0 h1,aPa]
   ·have g1:n≥60:=by omega
    simp only[go_sem,h0,h1,g0,g1,Bool.and_false,aPa]
  ·have g0:n<0:=by omega
   simp only[go_sem,h0,g0,ge_iff_le,Bool.false_and,aPa]
end Go.Fx.R5
namespace Go.Fx.R5
open Go Go.Fx
theorem YI{x y:Int}(hx:0≤x)(hx2:x<1000000000000000)(hy:0≤y)(I4:y<1000000000000000):0≤PW .xor .i64 x y:=by
 have e:∀ z:Int,0≤z→z<1000000000000000→(BitVec.ofInt 64 z).toNat=z.toNat:=fun z h0 h1=>by rw[BitVec.toNat_ofInt];omega
 have h:(BitVec.ofInt 64 x ^^^ BitVec.ofInt 64 y).toNat<2 ^ 60:=by rw[BitVec.toNat_xor,e x hx hx2,e y hy I4];exact Nat.xor_lt_two_pow (by omega) (by omega)
 have hb:PW .xor .i64 x y=bh ((BitVec.ofInt 64 x ^^^ BitVec.ofInt 64 y).toNat:Int):=rfl;rw[hb];have:=bw (x:=((BitVec.ofInt 64 x ^^^ BitVec.ofInt 64 y).toNat:Int)) (by omega) (by omega)
 rw[this];omega
theorem Fa{x:Int}(h:0≤x){n:Nat}(hn:1≤n):∃ v:Nat,v<n∧x.tmod (n:Int)=(v:Int):=by
 have h1:=Int.tmod_nonneg (n:Int) h;have h2:=Int.tmod_lt_of_pos x (show(0:Int)<n by omega)
 exact⟨(x.tmod n).toNat,by omega,by omega⟩
structure By(b:XI):Prop where
 v:∀ x∈b,0≤x∧x≤255
 l:b.length≤2000
theorem By.at{b:XI}(h:By b){i:Nat}(hi:i<b.length):0≤b[i]∧b[i]≤255:=h.v _ (aRa hi)
theorem W4{b:XI}(hb:By b){p:Nat}(hp:p≤1000000000){n:Nat}(hn:1≤n):∃ v:Nat,v<n∧aA b (p:Int) (n:Int)=some ((v:Int),((p+1:Nat):Int),()):=by
 have hl:=hb.l;have w1:bh ((p:Int)+1)=((p+1:Nat):Int):=ai (by omega)
 have w2:bh (((p+1:Nat):Int) - 1)=(p:Int):=by rw[bw (by omega) (by omega)];omega
 have n1:¬ ((n:Int)<1):=by omega
 have n0:¬ ((n:Int)=0):=by omega
 simp only[go_sem,aA,aa,w1,w2,n1,n0];cases b with
 |nil=>exact⟨0,by omega,rfl⟩
 |cons b0 b=>
  have h0:(((b0::b).length:Int)==0)=false:=Q6.2 (by simp;omega)
  have h1:¬ (((b0::b).length:Int)=0):=by simp;omega
  generalize hB:b0::b=B at *;simp only[go_sem,h0,h1,Q5];have rQ:1≤B.length:=by rw[←hB];simp
  by_cases bg:p<B.length
  ·obtain⟨x0,x1⟩:=hb.at bg
   obtain⟨v,v1,v2⟩:=Fa (x:=bh B[p]) (by rw[bw (by omega) (by omega)];exact x0) hn
   exact⟨v,v1,by simp only[go_sem,bg,cB bg,v2]⟩
  ·have a0:bh ((p:Int) * 7)=(p:Int) * 7:=bw (by omega) (by omega)
   have a1:bh ((p:Int) * 7+3)=(p:Int) * 7+3:=bw (by omega) (by omega)
   obtain⟨i,i1,i2⟩:=Fa (x:=(p:Int)) (by omega) rQ
   obtain⟨j,j1,j2⟩:=Fa (x:=(p:Int) * 7+3) (by omega) rQ
   obtain⟨x0,x1⟩:=hb.at i1;obtain⟨y0,y1⟩:=hb.at j1;have d0:0≤(p:Int).tdiv (B.length:Int):=Int.tdiv_nonneg (by omega) (by omega)
   have d1:(p:Int).tdiv (B.length:Int)≤p:=by rw[Int.tdiv_eq_ediv_of_nonneg (by omega)];exact Int.ediv_le_self _ (by omega)
   generalize hd:(p:Int).tdiv (B.length:Int)=d at d0 d1;generalize hX:B[i]=X at x0 x1;generalize hY:B[j]=Y at y0 y1;have c1:bh X=X:=bw (by omega) (by omega)
   have c2:bh Y=Y:=bw (by omega) (by omega)
   have c3:bh (X * 131)=X * 131:=bw (by omega) (by omega)
   have c4:bh (Y * 1117)=Y * 1117:=bw (by omega) (by omega)
   have c5:bh (X * 131+Y * 1117)=X * 131+Y * 1117:=bw (by omega) (by omega)
   have c6:bh ((p:Int) * 29)=(p:Int) * 29:=bw (by omega) (by omega)
   have c7:bh (X * 131+Y * 1117+(p:Int) * 29)=X * 131+Y * 1117+(p:Int) * 29:=bw (by omega) (by omega)
   have c8:bh d=d:=bw (by omega) (by omega)
   have c9:bh (d * 53)=d * 53:=bw (by omega) (by omega)
   have c10:bh (X * 131+Y * 1117+(p:Int) * 29+d * 53)=X * 131+Y * 1117+(p:Int) * 29+d * 53:=bw (by omega) (by omega)
   have e0:0≤X * 131+Y * 1117+(p:Int) * 29+d * 53:=by omega
   have e1:X * 131+Y * 1117+(p:Int) * 29+d * 53<1000000000000000:=by omega
   generalize hE:X * 131+Y * 1117+(p:Int) * 29+d * 53=A at c10 e0 e1;have f0:0≤A.tdiv 64:=Int.tdiv_nonneg e0 (by omega)
   have f1:A.tdiv 64≤A:=by rw[Int.tdiv_eq_ediv_of_nonneg e0];exact Int.ediv_le_self _ e0
   have M1:bh (A.tdiv 64)=A.tdiv 64:=bw (by omega) (by omega)
   obtain⟨v,v1,v2⟩:=Fa (YI e0 e1 f0 (by omega)) hn
   exact⟨v,v1,by simp only[go_sem,bg,a0,a1,i2,j2,cB i1,cB j1,hX,hY,c1,c2,c3,c4,c5,c6,c7,c8,c9,hE,c10,M1,v2]⟩
def b8{α:Type}(P:α→Prop)(x:Option α):Prop:=∃ a,x=some a∧P a
section
variable {α β:Type} {P R:α→Prop} {x:Option α}
theorem b8.of{a:α}(h:P a):b8 P (some a):=⟨a,rfl,h⟩
theorem b8.mono(h:b8 P x)(g:∀ a,P a→R a):b8 R x:=let⟨a,e,p⟩:=h;⟨a,e,g a p⟩
theorem b8.bind{S:β→Prop}{f:α→Option β}(h:b8 P x)(g:∀ a,P a→b8 S (f a)):b8 S (x.bind f):=by obtain⟨a,rfl,p⟩:=h;exact g a p
theorem b8.bif{c:Bool}{x y:Option α}(h:c=true→b8 P x)(g:c=false→b8 P y):b8 P (bif c then x else y):=by
 cases c with
 |false=>exact g rfl
 |true=>exact h rfl
theorem b8.agd{β:Type}(I:β→Prop){f:β→Option α}{body:(β→Option α)→Option α}(h:∀ v,I v→b8 P (f v))(g:∀ jx,(∀ v,I v→b8 P (jx v))→b8 P (body jx)):b8 P (aa f body):=g f h
theorem b8.K9{f:Bool→Option α}{body:(Bool→Option α)→Option α}(h:∀ v,b8 P (f v))(g:∀ jx,(∀ v,b8 P (jx v))→b8 P (body jx)):b8 P (aa f body):=g f h
theorem b8.tj{c d e:Bool}{jx:Bool→Option α}(h:∀ v,b8 P (jx v)):b8 P (bif c then jx d else jx e):=.bif (fun _=>h _) fun _=>h _
end
section
variable {β:Type} {S:β→Prop} {b:XI}
theorem b8.pick{f:Int×Int×Unit→Option β}(hb:By b){p:Nat}{n:Int}(m:Nat)(hm:n=(m:Int))(g:∀ v:Nat,v<m→b8 S (f ((v:Int),((p+1:Nat):Int),())))(hp:p≤1000000000:=by omega)(hn:1≤m:=by omega):b8 S ((aA b (p:Int) n).bind f):=by subst hm;obtain⟨v,v1,v2⟩:=W4 hb hp hn;rw[v2];exact g v v1
theorem b8.bD{l m:ab}{f:ab→Option β}(A B:Nat)(hl:l.length≤A)(hm:m.length≤B)(g:∀ s:ab,s.length≤A+B→b8 S (f s))(hAB:A+B≤1000000000:=by omega):b8 S ((Go.Fx.bD l m).bind f):=by
 rw[oj (by omega)]
 exact g _ (by simp;omega)
def Gn(L M p:Nat)(r:ab×Int×Unit):Prop:=∃(s:ab) (p':Nat),r=(s,(p':Int),())∧s.length≤L∧p'≤p+M
theorem Gn.of{L M p p':Nat}{s:ab}(h1:s.length≤L:=by omega)(h2:p'≤p+M:=by omega):b8 (Gn L M p) (some (s,(p':Int),())):=⟨_,rfl,s,p',rfl,h1,h2⟩
theorem Gn.bind{L M p:Nat}{x:Option (ab×Int×Unit)}{f:ab×Int×Unit→Option β}(h:b8 (Gn L M p) x)(g:∀(s:ab) (p':Nat),s.length≤L→p'≤p+M→b8 S (f (s,(p':Int),()))):b8 S (x.bind f):=by obtain⟨_,rfl,s,p',rfl,h1,h2⟩:=h;exact g s p' h1 h2
end
def Ws(n:Nat)(l:XS):Prop:=∀ x∈l,x.length≤n
section
variable {b:XI} {p:Nat}
theorem wS(hb:By b){n:Nat}{l:XS}(hl:Ws n l)(hp:p≤1000000000:=by omega)(h1:1≤n:=by omega):b8 (Gn n 1 p) (bJ b (p:Int) l):=by
 unfold bJ;refine b8.bif (fun _=>Gn.of (by simpa using h1)) fun h=>?_
 have h:=Q6.1 h;refine b8.pick hb l.length rfl fun v hv=>?_;simp only[go_sem,cB hv];exact Gn.of (hl _ (aRa hv)) (by omega)
theorem Nk{k:Nat}{n:Nat}(hk:4≤k:=by omega)(hn:n<60:=by omega):b8 (fun r:ab×Unit=>r.1.length≤2) (nq k (n:Int)):=by
 obtain⟨k,rfl⟩:∃ j,k=j+4:=⟨k - 4,by omega⟩
 have h:((List.range 60).map fun n=>(match nq (k+4) (n:Nat) with|some (s,())=>decide (s.length≤2)|none=>false))=(List.range 60).map fun _=>true:=by kernel_rfl
 have h:=bLa (·[n]?) h
 simp only[bGa,List.getElem?_range hn,bIa,OQ] at h;split at h
 ·rename_i s e;exact⟨_,e,bRa h⟩
 ·cases h
end
end Go.Fx.R5
namespace Go.Fx.R5
open Go Go.Fx
structure Wz(gU fJ gz:XS):Prop where
 i:Ws 4 gU
 r:Ws 4 fJ
 o:Ws 4 gz
abbrev TFn:=XS→XS→XS→Int→XI→Int→Int→Option (ab×Int×Unit)
def zL(B L M:Nat)(d:Int)(f:TFn):Prop:=∀ gU fJ gz less b (p:Nat),Wz gU fJ gz→By b→p≤B→b8 (Gn L M p) (f gU fJ gz less b (p:Int) d)
theorem pH{n:Nat}{l:XS}(h:(l.all fun x=>decide (x.length≤n))=true):Ws n l:=fun x hx=>bRa (ana.1 h x hx)
theorem abk{k:Nat}(hk:5≤k):zL 900000000 4 3 0 (cw k):=fun gU fJ gz less b p hw hb hp=>by
 obtain⟨k,rfl⟩:∃ j,k=j+1:=⟨k - 1,by omega⟩
 simp only[go_sem,cw,th,aa,coa];refine b8.pick hb 12 rfl fun v hv=>b8.pick hb 2 rfl fun v2 Gx=>b8.bif (fun _=>?_) fun _=>?_
 ·exact Gn.bind (wS hb hw.i) fun s p' h1 h2=>Gn.of h1
 ·refine b8.pick hb 9 rfl fun v3 hv3=>b8.bind (Nk (k:=k) (n:=v3)) fun r hr=>Gn.of
theorem adH{k L M B B2:Nat}{d:Int}(hk:4≤k)(hd:0<d)(hL:L≤1000000)(hM:M≤1000000)(h4:4≤L)(hB:B2+2 * M+5≤B)(hB2:B≤900000000)(h:zL B L M (bh (d - 1)) (cw k))(h0:zL B L M 0 (cw k)):zL B2 (2 * L+10) (2 * M+5) d (cw (k+1)):=fun gU fJ gz less b p hw hb hp=>by
 have hd0:¬ d≤0:=by omega
 simp only[go_sem,cw,th,aa,hd0];refine b8.pick hb 12 rfl fun v hv=>b8.bif (fun _=>?_) fun _=>b8.bif (fun _=>?_) fun _=>b8.bif (fun _=>?_) fun _=>?_
 ·refine b8.pick hb 2 rfl fun v2 Gx=>b8.bif (fun _=>?_) fun _=>?_
  ·exact Gn.bind (wS hb hw.i) fun s p' h1 h2=>Gn.of (s:=s)
  ·refine b8.pick hb 9 rfl fun v3 hv3=>b8.bind (Nk (k:=k) (n:=v3)) fun r hr=>Gn.of
 ·exact Gn.bind (wS hb (n:=10) (pH (by decide))) fun s p' h1 h2=>Gn.of (s:=s)
 ·refine Gn.bind (h _ _ _ _ _ _ hw hb (by omega)) fun s p' h1 h2=>b8.bD 2 L (by decide) h1 fun s h3=>b8.bD _ 1 h3 (by decide) fun s h4=>Gn.of
 ·have se:b8 (Gn (2 * L+10) (2 * M+5) p) (bif ((v:Int)==6) then(cw k gU fJ gz less b ((p+1:Nat):Int) 0).bind fun r9=>(Go.Fx.bD ([45]:ab) r9.1).bind fun s4=>some (s4,r9.2.1,()) else
    (bJ b ((p+1:Nat):Int) ([([43]:ab),([45]:ab),([42]:ab),([47]:ab),([37]:ab),([38]:ab),([124]:ab),([94]:ab),([60,60]:ab),([62,62]:ab),([43,37]:ab),([45,37]:ab),([42,37]:ab),([43]:ab),([45]:ab),([43]:ab)])).bind fun kz=>
     (cw k gU fJ gz less b kz.2.1 (bh (d - 1))).bind fun n8=>
     (Go.Fx.bD n8.1 ([32]:ab)).bind fun s5=>(Go.Fx.bD s5 kz.1).bind fun s6=>(Go.Fx.bD s6 ([32]:ab)).bind fun s7=>
     (cw k gU fJ gz less b n8.2.1 (bh (d - 1))).bind fun o7=>(Go.Fx.bD s7 o7.1).bind fun s8=>
     (aA b o7.2.1 2).bind fun pX=>bif pX.1==0 then(Go.Fx.bD ([40]:ab) s8).bind fun s9=>(Go.Fx.bD s9 ([41]:ab)).bind fun s10=>some (s10,pX.2.1,()) else some (s8,pX.2.1,())):=by
   refine b8.bif (fun _=>?_) fun _=>?_
   ·exact Gn.bind (h0 _ _ _ _ _ _ hw hb (by omega)) fun s p' h1 h2=>b8.bD 1 L (by decide) h1 fun s h3=>Gn.of
   ·refine Gn.bind (wS hb (n:=2) (pH (by decide))) fun so p1 a1 a2=>Gn.bind (h _ _ _ _ _ _ hw hb (by omega)) fun s p2 b1 b2=>b8.bD L 1 b1 (by decide) fun s c1=>b8.bD _ 2 c1 a1 fun s c2=>b8.bD _ 1 c2 (by decide) fun s c3=>
      Gn.bind (h _ _ _ _ _ _ hw hb (by omega)) fun s2 p3 d1 d2=>b8.bD _ _ c3 d1 fun s c4=>b8.pick hb 2 rfl fun v2 _=>b8.bif (fun _=>?_) fun _=>Gn.of
    exact b8.bD 1 _ (by decide) c4 fun s e1=>b8.bD _ 1 e1 (by decide) fun s e2=>Gn.of
  refine b8.bif (fun _=>b8.bif (fun _=>?_) fun _=>se) fun _=>se;exact Gn.bind (wS hb hw.r) fun s p' h1 h2=>b8.bD 1 4 (by decide) h1 fun s h3=>Gn.of
theorem zL.mono{B B2 L M L2 M2:Nat}{d:Int}{f:TFn}(h:zL B L M d f)(hL:L≤L2)(hM:M≤M2)(hB:B2≤B):zL B2 L2 M2 d f:=fun gU fJ gz less b p hw hb hp=>(h gU fJ gz less b p hw hb (bEa hp hB)).mono fun r ⟨s,p',e,a,c⟩=>⟨s,p',e,by omega,by omega⟩
theorem Xt{k:Nat}(hk:6≤k):zL 800000000 30 11 1 (cw k):=by
 obtain⟨k,rfl⟩:∃ j,k=j+1:=⟨k - 1,by omega⟩
 have h:=(abk (k:=k) (by omega)).mono (show 4≤10 by omega) (show 3≤3 by omega) (awa _)
 exact adH (L:=10) (M:=3) (by omega) (by omega) (by omega) (by omega) (by omega) (by omega) (by omega) h h
theorem adG{k:Nat}(hk:7≤k):zL 700000000 70 27 2 (cw k):=by
 obtain⟨k,rfl⟩:∃ j,k=j+1:=⟨k - 1,by omega⟩
 exact adH (L:=30) (M:=11) (by omega) (by omega) (by omega) (by omega) (by omega) (by omega) (by omega) (Xt (by omega)) ((abk (by omega)).mono (by omega) (by omega) (by omega))
end Go.Fx.R5
namespace Go.Fx.R5
open Go Go.Fx
theorem P4{k:Nat}(hk:20≤k){gU fJ gz:XS}{less:Int}{b:XI}{p v:Nat}(hw:Wz gU fJ gz)(hb:By b)(hp:p≤600000000)(hv:v<9){c:Bool}:b8 (Gn 100 30 p)
  (bif c then(bJ b (p:Int) fJ).bind fun r7=>(Go.Fx.bD ([110,117,108,108,32]:ab) r7.1).bind fun s7=>some (s7,r7.2.1,()) else
   bif decide ((v:Int)<6) then(qo (fL k) k b gU (p:Int)).bind fun o=>some (o.2.1,o.1,()) else
    (cw k gU fJ gz less b (p:Int) 1).bind fun r8=>(Go.Fx.bD r8.1 ([32]:ab)).bind fun s8=>
    (bJ b r8.2.1 ([([61,61]:ab),([33,61]:ab),([60]:ab),([60,61]:ab),([62]:ab),([62,61]:ab)])).bind fun r9=>
    (Go.Fx.bD s8 r9.1).bind fun s9=>(Go.Fx.bD s9 ([32]:ab)).bind fun s10=>
    (cw k gU fJ gz less b r9.2.1 1).bind fun kz=>(Go.Fx.bD s10 kz.1).bind fun s11=>some (s11,kz.2.1,())):=by
 refine b8.bif (fun _=>?_) fun _=>b8.bif (fun _=>?_) fun _=>?_
 ·exact Gn.bind (wS hb hw.r) fun s p' h1 h2=>b8.bD 5 4 (by decide) h1 fun s h3=>Gn.of
 ·unfold qo
  simp only[a6a];refine Gn.bind (wS hb hw.i) fun s p1 a1 a2=>b8.bD 4 1 a1 (by decide) fun s c1=>Gn.bind (wS hb (n:=2) (pH (by decide))) fun so p2 b1 b2=>
   b8.bD _ 2 c1 b1 fun s c2=>b8.bD _ 1 c2 (by decide) fun s c3=>b8.pick hb 12 rfl fun v3 hv3=>b8.bind (Nk (k:=k) (n:=v3)) fun r hr=>
   b8.bD _ 2 c3 hr fun s c4=>Gn.of (s:=s)
 ·exact Gn.bind (Xt (by omega) _ _ _ _ _ _ hw hb (by omega)) fun s p1 a1 a2=>b8.bD 30 1 a1 (by decide) fun s c1=>Gn.bind (wS hb (n:=2) (pH (by decide))) fun so p2 b1 b2=>
   b8.bD _ 2 c1 b1 fun s c2=>b8.bD _ 1 c2 (by decide) fun s c3=>Gn.bind (Xt (by omega) _ _ _ _ _ _ hw hb (by omega)) fun s2 p3 d1 d2=>b8.bD _ _ c3 d1 fun s c4=>Gn.of
theorem afo{k:Nat}(hk:21≤k):zL 500000000 100 31 0 (fL k):=fun gU fJ gz less b p hw hb hp=>by
 obtain⟨k,rfl⟩:∃ j,k=j+1:=⟨k - 1,by omega⟩
 simp only[go_sem,fL,tg,aa,show decide ((0:Int) > 0)=false from rfl]
 refine b8.pick hb 9 rfl fun v hv=>?_;have h:=fun c=>(P4 (k:=k) (less:=less) (p:=p+1) (v:=v) (c:=c) (by omega) hw hb (by omega) hv).mono (R:=Gn 100 31 p) fun r ⟨s,p',e,a,c⟩=>⟨s,p',e,a,by omega⟩
 exact b8.bif (fun _=>h _) fun _=>h false
theorem acY{k L M B B2:Nat}{d:Int}(hk:20≤k)(hd:0<d)(hL:L≤1000000)(hM:M≤1000000)(h4:100≤L)(h5:31≤M)(hB:B2+2 * M+5≤B)(hB2:B≤500000000)(h:zL B L M (bh (d - 1)) (fL k)):zL B2 (2 * L+10) (2 * M+5) d (fL (k+1)):=fun gU fJ gz less b p hw hb hp=>by
 have hd0:d > 0:=by omega
 simp only[go_sem,fL,tg,hd0];refine b8.pick hb 9 rfl fun v hv=>b8.K9 (fun c=>b8.bif (fun _=>?_) fun _=>b8.K9 (fun c=>b8.bif (fun _=>?_) fun _=>b8.K9 (fun c=>b8.bif (fun _=>?_) fun _=>b8.K9 (fun c=>?_) fun jx hj=>b8.tj hj) fun jx hj=>hj _) fun jx hj=>hj _) fun jx hj=>hj _
 ·exact Gn.bind (h _ _ _ _ _ _ hw hb (by omega)) fun s p1 a1 a2=>b8.bD L 5 a1 (by decide) fun s c1=>Gn.bind (h _ _ _ _ _ _ hw hb (by omega)) fun s2 p2 b1 b2=>b8.bD _ _ c1 b1 fun s c2=>Gn.of
 ·exact Gn.bind (h _ _ _ _ _ _ hw hb (by omega)) fun s p1 a1 a2=>b8.bD L 4 a1 (by decide) fun s c1=>Gn.bind (h _ _ _ _ _ _ hw hb (by omega)) fun s2 p2 b1 b2=>b8.bD _ _ c1 b1 fun s c2=>Gn.of
 ·exact Gn.bind (h _ _ _ _ _ _ hw hb (by omega)) fun s p1 a1 a2=>b8.bD 5 L (by decide) a1 fun s c1=>b8.bD _ 1 c1 (by decide) fun s c2=>Gn.of
 ·exact(P4 (k:=k) (less:=less) (p:=p+1) (v:=v) (c:=c) hk hw hb (by omega) hv).mono (R:=Gn (2 * L+10) (2 * M+5) p) fun r ⟨s,p',e,a,c⟩=>⟨s,p',e,by omega,by omega⟩
theorem acX{k:Nat}(hk:22≤k):zL 400000000 210 67 1 (fL k):=by
 obtain⟨k,rfl⟩:∃ j,k=j+1:=⟨k - 1,by omega⟩
 exact acY (L:=100) (M:=31) (by omega) (by omega) (by omega) (by omega) (by omega) (by omega) (by omega) (by omega) (afo (by omega))
theorem afp{k:Nat}(hk:23≤k):zL 300000000 430 139 2 (fL k):=by
 obtain⟨k,rfl⟩:∃ j,k=j+1:=⟨k - 1,by omega⟩
 exact acY (L:=210) (M:=67) (by omega) (by omega) (by omega) (by omega) (by omega) (by omega) (by omega) (by omega) (acX (by omega))
theorem aa8{k:Nat}(hk:20≤k){gU fJ gz:XS}{less:Int}{b:XI}{p:Nat}{n:Int}(hw:Wz gU fJ gz)(hb:By b)(hp:p≤600000000):b8 (Gn 200 60 p) (uF k gU fJ gz less b (p:Int) n):=by
 have up:∀{l:XS},Ws 4 l→Ws 10 l:=fun h x hx=>bEa (h x hx) (by omega)
 have one:∀{p:Nat} {l:XS},Ws 10 l→p≤700000000→b8 (Gn 10 1 p) (bJ b (p:Int) l):=fun hl hp=>wS hb hl;have acf:∀{p:Nat},p≤700000000→b8 (Gn 10 1 p) (bJ b (p:Int) fJ):=fun hp=>one (up hw.r) hp;have Yn:∀{p:Nat},p≤700000000→b8 (Gn 10 1 p) (bJ b (p:Int) gz):=fun hp=>one (up hw.o) hp;have t1:∀{p:Nat},p≤700000000→b8 (Gn 30 11 p) (cw k gU fJ gz less b (p:Int) 1):=fun hp=>Xt (by omega) _ _ _ _ _ _ hw hb (by omega)
 have t0:∀{p:Nat},p≤700000000→b8 (Gn 4 3 p) (cw k gU fJ gz less b (p:Int) 0):=fun hp=>abk (by omega) _ _ _ _ _ _ hw hb (by omega)
 unfold uF;refine b8.bif (fun _=>?_) fun _=>b8.bif (fun _=>?_) fun _=>b8.bif (fun _=>?_) fun _=>b8.K9 (fun v=>b8.bif (fun _=>?_) fun _=>b8.K9 (fun v=>b8.bif (fun _=>?_) fun _=>b8.K9 (fun v=>b8.bif (fun _=>?_) fun _=>
  b8.K9 (fun v=>b8.bif (fun _=>?_) fun _=>b8.bif (fun _=>?_) fun _=>b8.bif (fun _=>?_) fun _=>b8.agd (fun v=>∃ p':Nat,v.2=(p':Int)∧p'≤p+1) (fun v ⟨p',e,AF⟩=>?_)
   fun jx hj=>b8.bif (fun _=>b8.pick hb 4 rfl fun v hv=>hj _ ⟨_,rfl,by omega⟩) fun _=>hj _ ⟨_,rfl,by omega⟩)
   fun jx hj=>b8.tj hj) fun jx hj=>b8.tj hj) fun jx hj=>b8.tj hj) fun jx hj=>b8.tj hj
 ·exact Gn.bind (one (pH (by decide)) (by omega)) fun s p1 a1 a2=>b8.bD 2 10 (by decide) a1 fun s c1=>b8.bD _ 4 c1 (by decide) fun s c2=>Gn.bind (t1 (by omega)) fun s2 p2 b1 b2=>b8.bD _ _ c2 b1 fun s c3=>b8.bD _ 2 c3 (by decide) fun s c4=>Gn.of
 ·exact Gn.bind (Yn (by omega)) fun s p1 a1 a2=>b8.bD 5 10 (by decide) a1 fun s c1=>b8.bD _ 2 c1 (by decide) fun s c2=>Gn.of
 ·exact Gn.bind ((adG (by omega)) _ _ _ _ _ _ hw hb (by omega)) fun s p1 a1 a2=>b8.bD 6 70 (by decide) a1 fun s c1=>b8.bD _ 2 c1 (by decide) fun s c2=>Gn.of
 ·exact Gn.bind (acf (by omega)) fun s p1 a1 a2=>b8.bD 10 4 a1 (by decide) fun s c1=>Gn.bind (one (pH (by decide)) (by omega)) fun s2 p2 b1 b2=>b8.bD _ _ c1 b1 fun s c2=>b8.bD _ 1 c2 (by decide) fun s c3=>
   Gn.bind (one (pH (by decide)) (by omega)) fun s3 p3 d1 d2=>b8.bD _ _ c3 d1 fun s c4=>b8.bD _ 3 c4 (by decide) fun s c5=>Gn.of
 ·exact Gn.bind (acf (by omega)) fun s p1 a1 a2=>b8.bD 1 10 (by decide) a1 fun s c1=>b8.bD _ 3 c1 (by decide) fun s c2=>Gn.bind (t1 (by omega)) fun s2 p2 b1 b2=>b8.bD _ _ c2 b1 fun s c3=>b8.bD _ 2 c3 (by decide) fun s c4=>Gn.of
 ·exact Gn.bind (acf (by omega)) fun s p1 a1 a2=>b8.bD 10 4 a1 (by decide) fun s c1=>Gn.bind (one (pH (by decide)) (by omega)) fun s2 p2 b1 b2=>b8.bD _ _ c1 b1 fun s c2=>b8.bD _ 2 c2 (by decide) fun s c3=>Gn.of
 ·exact Gn.bind (acf (by omega)) fun s p1 a1 a2=>b8.bD 10 3 a1 (by decide) fun s c1=>Gn.bind (one (pH (by decide)) (by omega)) fun s2 p2 b1 b2=>b8.bD _ _ c1 b1 fun s c2=>b8.bD _ 2 c2 (by decide) fun s c3=>Gn.of
 ·exact Gn.bind (Yn (by omega)) fun s p1 a1 a2=>b8.bD 10 5 a1 (by decide) fun s c1=>Gn.bind (t1 (by omega)) fun s2 p2 b1 b2=>b8.bD _ _ c1 b1 fun s c2=>b8.bD _ 2 c2 (by decide) fun s c3=>Gn.bind (t0 (by omega)) fun s3 p3 d1 d2=>b8.bD _ _ c3 d1 fun s c4=>b8.bD _ 3 c4 (by decide) fun s c5=>Gn.of
 ·exact Gn.bind (Yn (by omega)) fun s p1 a1 a2=>b8.bD 10 5 a1 (by decide) fun s c1=>Gn.bind (t1 (by omega)) fun s2 p2 b1 b2=>b8.bD _ _ c1 b1 fun s c2=>b8.bD _ 3 c2 (by decide) fun s c3=>Gn.of
 ·simp only[e]
  refine b8.bif (fun _=>?_) fun _=>Gn.of (by decide)
  exact Gn.bind (one (pH (by decide)) (by omega)) fun s p1 a1 a2=>Gn.of (s:=s)
end Go.Fx.R5
namespace Go.Fx.R5
open Go Go.Fx
def Gl(lo L M p:Nat)(r:ab×Int×Int×Unit):Prop:=∃(s:ab) (p':Nat) (l:Int),r=(s,(p':Int),l,())∧lo≤s.length∧s.length≤L∧p'≤p+M
theorem Gl.of{lo L M p p':Nat}{s:ab}{l:Int}(h0:lo≤s.length:=by omega)(h1:s.length≤L:=by omega)(h2:p'≤p+M:=by omega):b8 (Gl lo L M p) (some (s,(p':Int),l,())):=⟨_,rfl,s,p',l,rfl,h0,h1,h2⟩
theorem Gl.bind{β:Type}{S:β→Prop}{lo L M p:Nat}{x:Option (ab×Int×Int×Unit)}{f:ab×Int×Int×Unit→Option β}(h:b8 (Gl lo L M p) x)(g:∀(s:ab) (p':Nat) (l:Int),lo≤s.length→s.length≤L→p'≤p+M→b8 S (f (s,(p':Int),l,()))):b8 S (x.bind f):=by obtain⟨_,rfl,s,p',l,rfl,h0,h1,h2⟩:=h;exact g s p' l h0 h1 h2
abbrev LFn:=XS→XS→XS→Int→XI→Int→Int→Option (ab×Int×Int×Unit)
abbrev BFn:=XS→XS→XS→Int→XI→Int→Int→Int→Option (ab×Int×Int×Unit)
def SV(B L M:Nat)(d:Int)(f:LFn):Prop:=∀ gU fJ gz less b (p:Nat),Wz gU fJ gz→By b→p≤B→b8 (Gl 0 L M p) (f gU fJ gz less b (p:Int) d)
def Wa(B L M:Nat)(d:Int)(f:BFn):Prop:=∀ gU fJ gz less b (p n:Nat),Wz gU fJ gz→By b→p≤B→n≤2→b8 (Gl 2 L M p) (f gU fJ gz less b (p:Int) d (n:Int))
theorem R8{rl:LFn}{rb:BFn}{k B B2 L M:Nat}{d:Int}(hk:30≤k)(hL:L≤1000000)(hM:M≤1000000)(hB:B2+2 * M+300≤B)(hB2:B≤200000000)(h:0<d→Wa B L M (bh (d - 1)) rb):SV B2 (2 * L+700) (2 * M+300) d (pT rl rb k):=fun gU fJ gz less b p hw hb hp=>by
 have Yn:∀{p:Nat},p≤700000000→b8 (Gn 4 1 p) (bJ b (p:Int) gz):=fun hp=>wS hb hw.o;have c1:∀{less:Int} {p:Nat},p≤210000000→b8 (Gn 210 67 p) (fL k gU fJ gz less b (p:Int) 1):=fun hp=>acX (by omega) _ _ _ _ _ _ hw hb (by omega)
 have dec:∀{n:Nat},n<60→b8 (fun r:ab×Unit=>r.1.length≤2) (nq k (n:Int)):=fun hn=>Nk (by omega) hn
 have w1:∀{n:Nat},n<60→bh (1+(n:Int))=((n+1:Nat):Int):=fun hn=>by rw[bw (by omega) (by omega)];omega
 unfold pT;refine b8.pick hb 22 rfl fun v hv=>b8.bif (fun _=>Gl.of (by omega) (by simp only[List.length];omega) (by omega)) fun _=>b8.agd (fun c=>c=false→0<d∨11≤v) (fun c hc=>b8.bif (fun _=>?_) fun hcf=>?_) fun jx hj=>?_
 ·exact Gn.bind (Yn (by omega)) fun s p1 a1 a2=>b8.bD 4 3 a1 (by decide) fun s e1=>Gn.bind (adG (by omega) _ _ _ _ _ _ hw hb (by omega)) fun s2 p2 b1 b2=>b8.bD _ _ e1 b1 fun s e2=>b8.bD _ 2 e2 (by decide) fun s e3=>Gl.of
 ·have hdv:=hc hcf
  refine b8.bif (fun e=>?_) fun _=>b8.bif (fun e=>?_) fun _=>b8.bif (fun e=>?_) fun _=>b8.bif (fun e=>?_) fun _=>b8.bif (fun e=>?_) fun _=>b8.bif (fun e=>?_) fun _=>?_
  ·have e:=a9a.1 e
   have h:=h (by dsimp only at e;omega)
   refine Gn.bind (c1 (by omega)) fun s p1 a1 a2=>b8.bD 3 _ (by decide) a1 fun s e1=>b8.bD _ 1 e1 (by decide) fun s e2=>b8.pick hb 2 rfl fun v2 Gx=>?_
   simp only[w1 (show v2<60 by omega)]
   refine Gl.bind (h _ _ _ _ _ _ _ hw hb (by omega) (by omega)) fun s p2 l b0 b1 b2=>b8.bD _ _ e2 b1 fun s e3=>b8.bD _ 6 e3 (by decide) fun s e4=>b8.pick hb 2 rfl fun v3 hv3=>?_
   exact Gl.bind (h _ _ _ _ _ _ _ hw hb (by omega) (by omega)) fun s p3 l d0 d1 d2=>b8.bD _ _ e4 d1 fun s e5=>b8.bD _ 1 e5 (by decide) fun s e6=>Gl.of
  ·have e:=a9a.1 e
   have h:=h (by dsimp only at e;omega)
   refine Gn.bind (afp (by omega) _ _ _ _ _ _ hw hb (by omega)) fun s p1 a1 a2=>b8.bD 3 _ (by decide) a1 fun s e1=>b8.bD _ 1 e1 (by decide) fun s e2=>b8.pick hb 2 rfl fun v2 Gx=>?_
   simp only[w1 (show v2<60 by omega)]
   exact Gl.bind (h _ _ _ _ _ _ _ hw hb (by omega) (by omega)) fun s p2 l b0 b1 b2=>b8.bD _ _ e2 b1 fun s e3=>b8.bD _ 1 e3 (by decide) fun s e4=>Gl.of
  ·have e:=a9a.1 e
   have h:=h (by dsimp only at e;omega)
   refine Gn.bind (Yn (by omega)) fun so p1 a1 a2=>b8.bD 6 4 (by decide) a1 fun s e1=>b8.bD _ 3 e1 (by decide) fun s e2=>b8.pick hb 14 rfl fun v2 Gx=>b8.bind (dec (n:=v2) (by omega)) fun r hr=>
    b8.bD _ 2 e2 hr fun s e3=>b8.bD _ 1 e3 (by decide) fun s e4=>b8.pick hb 2 rfl fun v3 hv3=>Gl.bind (h _ _ _ _ _ _ _ hw hb (by omega) (by omega)) fun sb p2 l b0 b1 b2=>?_
   have p6:sub sb 0 2=some (sb.take 2):=by
    have:=wV (l:=sb) (m:=0) (n:=2) (by omega) b0
    simpa using this
   simp only[go_sem,p6];refine b8.bD _ 2 e4 (by simp;omega) fun s e5=>b8.bD _ 4 e5 a1 fun s e6=>b8.bD _ 3 e6 (by decide) fun s e7=>b8.bD _ 4 e7 a1 fun s e8=>b8.bD _ 3 e8 (by decide) fun s e9=>b8.pick hb 3 rfl fun v4 hv4=>?_
   simp only[w1 (show v4<60 by omega)]
   exact b8.bind (dec (n:=v4+1) (by omega)) fun r hr=>b8.bD _ 2 e9 hr fun s e10=>b8.bD _ 4 e10 (by decide) fun s e11=>Gl.of
  ·have e:=a9a.1 e
   have h:=h (by dsimp only at e;omega)
   unfold uE;simp only[a6a];refine b8.pick hb 3 rfl fun v2 Gx=>b8.bind (dec (n:=v2) (by omega)) fun r hr=>b8.bD 8 2 (by decide) hr fun s e1=>b8.bD _ 4 e1 (by decide) fun s e2=>Gn.bind (wS hb (n:=1) (pH (by decide))) fun s2 p1 a1 a2=>
    b8.bD _ 1 e2 a1 fun s e3=>b8.bD _ 1 e3 (by decide) fun s e4=>b8.pick hb 2 rfl fun v3 hv3=>?_
   simp only[w1 (show v3<60 by omega)]
   exact Gl.bind (h _ _ _ _ _ _ _ hw hb (by omega) (by omega)) fun sb p2 l b0 b1 b2=>b8.bD _ _ e4 b1 fun s e5=>b8.bD _ 1 e5 (by decide) fun s e6=>Gl.of (s:=s)
  ·have e:=a9a.1 e
   have h:=h (by dsimp only at e;omega)
   refine Gn.bind (c1 (by omega)) fun s p1 a1 a2=>b8.bD 6 _ (by decide) a1 fun s e1=>b8.bD _ 1 e1 (by decide) fun s e2=>b8.pick hb 2 rfl fun v2 Gx=>?_
   simp only[w1 (show v2<60 by omega)]
   exact Gl.bind (h _ _ _ _ _ _ _ hw hb (by omega) (by omega)) fun s p2 l b0 b1 b2=>b8.bD _ _ e2 b1 fun s e3=>b8.bD _ 1 e3 (by decide) fun s e4=>Gl.of
  ·exact Gn.bind (c1 (by omega)) fun s p1 a1 a2=>b8.bD 7 _ (by decide) a1 fun s e1=>b8.bD _ 2 e1 (by decide) fun s e2=>Gl.of
  ·exact Gn.bind (aa8 (by omega) hw hb (by omega)) fun s p1 a1 a2=>Gl.of (s:=s)
 ·refine b8.bif (fun _=>hj _ (by simp)) fun _=>?_
  show b8 _ (bif decide (d≤0) then jx (decide ((v:Int)<11)) else jx false)
  exact b8.bif (fun _=>hj _ (fun e=>.inr (by have:=cGa e;omega))) fun e=>hj _ (fun _=>.inl (by have:=cGa e;omega))
theorem S7{rl:LFn}{rb:BFn}{k B B2 L M:Nat}{d:Int}(hk:30≤k)(hL:L≤1000000)(hM:M≤1000000)(hB:B2+2 * M≤B)(hB2:B≤200000000)(h:SV B L M d rl):Wa B2 (2 * L+3) (2 * M) d (oX rl rb k):=fun gU fJ gz less b p n hw hb hp hn=>by
 have loop:∀(m j k' p:Nat) (less:Int) (out:ab),m+j=n→m<k'→2≤out.length→out.length+m * L≤2 * L+2→p+m * M≤B→m≤2→b8 (fun r:Int×Int×ab×Unit=>∃(p':Nat) (l:Int) (s:ab),r=((p':Int),l,s,())∧2≤s.length∧s.length≤2 * L+2∧p'≤p+m * M)
   (lQ rl rb k k' b gU fJ gz d (n:Int) (p:Int) less out (j:Int)):=by
  intro m;induction m with
  |zero=>
   intro j k' p less out hj hk' ho hl hpB _;obtain⟨k',rfl⟩:∃ i,k' = i+1:=⟨k' - 1,by omega⟩
   have h2:¬ j<n:=by omega
   simp only[go_sem,lQ,Q5,h2];exact⟨_,rfl,p,less,out,rfl,ho,by omega,by omega⟩
  |succ m ih=>
   intro j k' p less out hj hk' ho hl hpB hm;obtain⟨k',rfl⟩:∃ i,k' = i+1:=⟨k' - 1,by omega⟩
   have h2:j<n:=by omega
   rw[Nat.succ_mul] at hl hpB;simp only[go_sem,lQ,Q5,h2,ai (show j<_ by omega)]
   refine Gl.bind (h _ _ _ _ _ _ hw hb (by omega)) fun s p1 l a0 a1 a2=>?_
   rw[oj (show out.length+s.length≤4294967296 by omega)]
   refine(ih (j+1) k' p1 l (out++s) (by omega) (by omega) (by simp;omega) (by simp;omega) (by omega) (by omega)).mono fun r ⟨p',l,s,e,x,y,z⟩=>⟨p',l,s,e,x,y,?_⟩
   rw[Nat.succ_mul];omega
 unfold oX;have hn2:n * L≤2 * L:=bna _ hn;have hn3:n * M≤2 * M:=bna _ hn;refine b8.bind (loop n 0 k p less [123,10] (by omega) (by omega) (by decide) (by simp only[List.length];omega) (by omega) hn) fun r ⟨p',l,s,e,x,y,z⟩=>?_
 subst e;rw[oj (show s.length+([125]:ab).length≤4294967296 by simp;omega)]
 exact Gl.of (s:=s++[125]) (by simp;omega) (by simp;omega) (by omega)
theorem ND(k:Nat):mL (k+1)=pT (mL k) (oW k) k:=rfl
theorem Ql(k:Nat):oW (k+1)=oX (mL k) (oW k) k:=rfl
theorem agl{k:Nat}(hk:40≤k):SV 150000000 14730 6300 2 (mL k):=by
 obtain⟨k,rfl⟩:∃ j,k=j+5:=⟨k - 5,by omega⟩
 have l0:SV 190000000 700 300 0 (mL (k+1)):=by rw[ND];exact R8 (B:=200000000) (L:=0) (M:=0) (by omega) (by omega) (by omega) (by omega) (by omega) (fun h=>absurd h (by decide))
 have b0:Wa 180000000 1403 600 0 (oW (k+2)):=by rw[Ql];exact S7 (L:=700) (M:=300) (by omega) (by omega) (by omega) (by omega) (by omega) l0
 have l1:SV 170000000 3506 1500 1 (mL (k+3)):=by rw[ND];exact R8 (L:=1403) (M:=600) (by omega) (by omega) (by omega) (by omega) (by omega) (fun _=>b0)
 have b1:Wa 160000000 7015 3000 1 (oW (k+4)):=by rw[Ql];exact S7 (L:=3506) (M:=1500) (by omega) (by omega) (by omega) (by omega) (by omega) l1
 rw[ND];exact R8 (L:=7015) (M:=3000) (by omega) (by omega) (by omega) (by omega) (by omega) (fun _=>b1)
theorem Rp{k:Nat}(hk:41≤k){gU fJ gz:XS}{less:Int}{b:XI}{p n:Nat}(hw:Wz gU fJ gz)(hb:By b)(hp:p≤100000000:=by omega)(hn:1≤n:=by omega)(hn5:n≤5:=by omega):b8 (Gl 0 147300 63001 p) (pY k gU fJ gz less b (p:Int) (n:Int)):=by
 have loop:∀(m k' p:Nat) (less:Int) (out:ab),m<k'→out.length+m * 14730≤147300→p+m * 6300≤150000000→m≤10→b8 (fun r:Int×Int×ab×Unit=>∃(p':Nat) (l:Int) (s:ab),r=((p':Int),l,s,())∧s.length≤147300∧p'≤p+m * 6300)
   (mR k k' b gU fJ gz (p:Int) less out (m:Int)):=by
  intro m;induction m with
  |zero=>
   intro k' p less out hk' hl hp _;obtain⟨k',rfl⟩:∃ i,k' = i+1:=⟨k' - 1,by omega⟩
   simp only[mR];exact⟨_,rfl,p,less,out,rfl,by omega,by omega⟩
  |succ m ih=>
   intro k' p less out hk' hl hp hm;obtain⟨k',rfl⟩:∃ i,k' = i+1:=⟨k' - 1,by omega⟩
   have h2:((m+1:Nat):Int) > 0:=by omega
   have h3:bh (((m+1:Nat):Int) - 1)=(m:Int):=by rw[bw (by omega) (by omega)];omega
   simp only[go_sem,mR,h2,h3];refine Gl.bind (agl (by omega) _ _ _ _ _ _ hw hb (by omega)) fun s p1 l a0 a1 a2=>?_
   rw[oj (show out.length+s.length≤4294967296 by omega)]
   exact(ih k' p1 l (out++s) (by omega) (by simp;omega) (by omega) (by omega)).mono fun r ⟨p',l,s,e,x,y⟩=>⟨p',l,s,e,x,by omega⟩
 have w2:bh (2 * (n:Int))=((2 * n:Nat):Int):=by rw[bw (by omega) (by omega)];omega
 unfold pY;refine b8.pick hb (2 * n) w2 fun v hv=>?_;have w3:bh (1+(v:Int))=((v+1:Nat):Int):=by rw[bw (by omega) (by omega)];omega
 simp only[w3];refine b8.bind (loop (v+1) k (p+1) less [] (by omega) (by simp only[List.length];omega) (by omega) (by omega)) fun r ⟨p',l,s,e,x,y⟩=>?_
 subst e;exact Gl.of (s:=s)
theorem YB{k:Nat}(hk:41≤k){b:XI}{p:Nat}(hb:By b)(hp:p≤1000):b8 (Gn 450000 300000 p) (vU k b (p:Int)):=by
 have hw:Wz [[120],[121],[103]] [] [[120],[103]]:=⟨pH (by decide),pH (by decide),pH (by decide)⟩
 have hw2:Wz [[120],[121],[122],[103],[110],[105]] [[112],[113]] [[120],[121],[122],[103],[110]]:=⟨pH (by decide),pH (by decide),pH (by decide)⟩
 unfold vU;refine b8.pick hb 16 rfl fun v hv=>b8.pick hb 5 rfl fun v2 Gx=>?_;have w3:bh (1+(v2:Int))=((v2+1:Nat):Int):=by rw[bw (by omega) (by omega)];omega
 simp only[w3];refine b8.bind (Nk (k:=k) (n:=v2+1)) fun r hr=>b8.bD 20 2 (by decide) hr fun s e1=>b8.bD _ 17 e1 (by decide) fun s1 e2=>Gl.bind (Rp (n:=1) hk hw hb) fun s p1 l a0 a1 a2=>
  b8.bD 22 _ (by decide) a1 fun s e3=>b8.bD _ 12 e3 (by decide) fun s2 e4=>Gl.bind (Rp (n:=1) hk hw hb) fun s p2 l b0 b1 b2=>b8.bD 22 _ (by decide) b1 fun s e5=>b8.bD _ 12 e5 (by decide) fun s3 e6=>
  b8.pick hb 14 rfl fun v3 hv3=>Gl.bind (Rp (n:=5) hk hw2 hb) fun s p3 l c0 c1 c2=>b8.bD 42 _ (by decide) c1 fun s e7=>b8.bD _ 2 e7 (by decide) fun s4 e8=>b8.pick hb 4 rfl fun v4 hv4=>b8.bif (fun _=>?_) fun _=>?_
 ·exact b8.bD _ _ e2 e8 fun s f1=>b8.bD _ _ f1 e6 fun s f2=>b8.bD _ _ f2 e4 fun s f3=>Gn.of
 ·exact b8.bD _ _ e2 e4 fun s f1=>b8.bD _ _ f1 e6 fun s f2=>b8.bD _ _ f2 e8 fun s f3=>Gn.of
theorem b8.Z1{β:Type}{S:β→Prop}{l:XS}{v:Nat}(n:Nat)(hl:(l.all fun x=>decide (x.length≤n))=true)(hv:v<l.length){f:ab→Option β}(g:∀ x:ab,x.length≤n→b8 S (f x)):b8 S ((Go.Fx.bC l (v:Int)).bind fun _=>(Go.Fx.bC l ((v:Int).toNat:Int)).bind f):=by rw[aAa,cB hv];exact g _ (pH hl _ (aRa hv))
theorem Xz{b:XI}{p:Nat}(hb:By b)(hp:p≤900000000):b8 (Gn 20 2 p) (wB b (p:Int)):=by
 unfold wB;refine b8.pick hb 8 rfl fun v hv=>b8.bif (fun _=>?_) fun _=>b8.bif (fun _=>?_) fun _=>b8.bif (fun _=>?_) fun _=>?_
 ·exact b8.pick hb 17 rfl fun v2 Gx=>b8.Z1 20 (by decide) (by simpa using Gx) fun x hx=>Gn.of hx
 ·exact b8.pick hb 5 rfl fun v2 Gx=>b8.Z1 20 (by decide) (by simpa using Gx) fun x hx=>Gn.of hx
 ·exact b8.pick hb 4 rfl fun v2 Gx=>b8.Z1 20 (by decide) (by simpa using Gx) fun x hx=>Gn.of hx
 ·refine b8.bind (P:=fun r:XS×Unit=>Ws 20 r.1∧1≤r.1.length) ⟨_,rfl,pH (by decide),by decide⟩ fun r ⟨h1,h2⟩=>b8.pick hb r.1.length rfl fun v2 Gx=>?_
  rw[cB Gx];exact Gn.of (h1 _ (aRa Gx)) (by omega)
theorem aeH{b:XI}{p:Nat}(hb:By b)(hp:p≤900000000):b8 (Gn 20 2 p) (CE b (p:Int)):=by unfold CE;exact b8.pick hb 15 rfl fun v2 Gx=>b8.Z1 20 (by decide) (by simpa using Gx) fun x hx=>Gn.of hx
theorem ace{b:XI}{p:Nat}(hb:By b)(hp:p≤900000000):b8 (Gn 200 2 p) (CH b (p:Int)):=by unfold CH;exact b8.pick hb 30 rfl fun v2 Gx=>b8.Z1 200 (by decide) (by simpa using Gx) fun x hx=>Gn.of hx
theorem abB{b:XI}{p:Nat}{s:ab}(hb:By b)(hp:p≤800000000)(hs:s.length≤500000):b8 (Gn 1000100 10 p) (Ak b (p:Int) s):=by
 unfold Ak;refine b8.bif (fun _=>Gn.of) fun h0=>?_;have h0:=Q6.1 h0;have rQ:1≤s.length:=by omega
 refine b8.pick hb 256 rfl fun v hv=>b8.pick hb 256 rfl fun v2 Gx=>b8.bif (fun h=>absurd (bRa h) h0) fun _=>b8.pick hb 6 rfl fun v3 hv3=>?_;have e1:bh ((v:Int) * 256)=(v:Int) * 256:=bw (by omega) (by omega)
 have e2:bh ((v:Int) * 256+(v2:Int))=(v:Int) * 256+(v2:Int):=bw (by omega) (by omega)
 obtain⟨i,i1,i2⟩:=Fa (x:=(v:Int) * 256+(v2:Int)) (by omega) rQ
 have e3:bh ((i:Int)+1)=((i+1:Nat):Int):=ai (by omega)
 have s1:sub s 0 (i:Int)=some (s.take i):=by
  have:=wV (l:=s) (m:=0) (n:=i) (by omega) (by omega)
  simpa using this
 have s2:sub s ((i+1:Nat):Int) (s.length:Int)=some (s.drop (i+1)):=by rw[wV (by omega) (awa _),cta]
 have s3:sub s (i:Int) (s.length:Int)=some (s.drop i):=by rw[wV (by omega) (awa _),cta]
 simp only[go_sem,e1,e2,i2,e3,s1,s2,s3];have t1:(s.take i).length≤500000:=by simp;omega
 have t2:(s.drop (i+1)).length≤500000:=by simp;omega
 have t3:(s.drop i).length≤500000:=by simp;omega
 refine b8.bif (fun _=>?_) fun _=>b8.bif (fun _=>?_) fun _=>b8.bif (fun _=>?_) fun _=>b8.bif (fun _=>?_) fun _=>b8.bif (fun _=>?_) fun _=>?_
 ·exact b8.bD _ _ t1 t2 fun s f1=>Gn.of
 ·exact Gn.of
 ·exact b8.bD _ 1 t1 (by decide) fun s f1=>Gn.bind (Xz hb (by omega)) fun s2 p1 a1 a2=>b8.bD _ _ f1 a1 fun s f2=>b8.bD _ 1 f2 (by decide) fun s f3=>b8.bD _ _ f3 t3 fun s f4=>Gn.of
 ·refine b8.pick hb 20 rfl fun v4 hv4=>?_
  rw[cB (show v4<_ by simpa using hv4),bza]
  exact b8.bD _ 1 t1 (by simp) fun s f1=>b8.bD _ _ f1 t2 fun s f2=>Gn.of
 ·exact Gn.bind (Xz hb (by omega)) fun s2 p1 a1 a2=>b8.bD _ _ hs a1 fun s f2=>Gn.of
 ·exact Gn.bind (aeH hb (by omega)) fun s2 p1 a1 a2=>b8.bD _ _ t1 a1 fun s f2=>b8.bD _ _ f2 t3 fun s f3=>Gn.of
theorem WZ{code:XI}(h:∀ x∈code,0≤x∧x≤255):b8 (fun r:XI×Int×Unit=>By r.1∧r.2.1=((0:Nat):Int)) (wA code):=by
 simp only[wA,aa];refine b8.bif (fun h2=>?_) fun h2=>b8.of ⟨⟨h,by have:=cGa h2;show code.length≤2000;omega⟩,rfl⟩
 have h2:=bRa h2;have:=wV (l:=code) (m:=0) (n:=2000) (by omega) (by omega)
 rw[show sub code 0 2000=some (code.take 2000) by simpa using this,bza]
 exact b8.of ⟨⟨fun x hx=>h x (List.mem_of_mem_take hx),by simp;omega⟩,rfl⟩
theorem Xu{code:XI}(h:∀ x∈code,0≤x∧x≤255){k:Nat}(hk:41≤k):∃ s,iK k code=some (s,()):=by
 have:b8 (fun _:ab×Unit=>True) (iK k code):=by
  unfold iK;refine b8.bind (WZ h) fun r ⟨hb,hr⟩=>?_;rw[hr];refine b8.pick hb 14 rfl fun v hv=>b8.bif (fun _=>?_) fun _=>?_
  ·exact Gn.bind (ace hb (by omega)) fun s p1 a1 a2=>b8.of trivial
  ·exact Gn.bind (YB hk hb (by omega)) fun s p1 a1 a2=>b8.bif (fun _=>Gn.bind (abB hb (by omega) (s:=s) (by omega)) fun s p1 a1 a2=>b8.of trivial) fun _=>b8.of trivial
 obtain⟨⟨s,u⟩,e,_⟩:=this;exact⟨s,e⟩
end Go.Fx.R5
namespace Go.Fx.R5
open Go Go.Fx
theorem QV(q:Nat)(a b:XI)(hl:a.length=b.length)(h:a.length≤100000):∀(m s k:Nat),m+s=a.length→m<k→
  (iI q k a b (s:Int)=some (.inl ())∧a.drop s=b.drop s)∨(iI q k a b (s:Int)=some (.inr (false,()))∧a.drop s≠b.drop s)
 |0,s,k+1,hs,_=>by
  have h2:¬ s<a.length:=by omega
  exact .inl ⟨by simp only[go_sem,iI,Q5,h2],by rw[cqa (by omega),cqa (by omega)]⟩
 |m+1,s,k+1,hs,hk=>by
  have ha:s<a.length:=by omega
  have hb:s<b.length:=by omega
  simp only[go_sem,iI,Q5,ha,cB ha,cB hb,ai (show s<_ by omega)]
  rw[aQa ha,aQa hb];cases he:(a[s] != b[s]) with
  |true=>exact .inr ⟨rfl,fun e=>(aUa.1 he) (List.cons.inj e).1⟩
  |false=>
   have he:a[s]=b[s]:=by simpa using he
   rcases QV q a b hl h m (s+1) k (by omega) (by omega) with ⟨e1,e2⟩|⟨e1,e2⟩
   ·exact .inl ⟨e1,by rw[he,e2]⟩
   ·exact .inr ⟨e1,fun e=>e2 (List.cons.inj e).2⟩
theorem MJ(a b:XI)(h:a.length≤100000){k:Nat}(hk:100001≤k):mI k a b=some (decide (a=b),()):=by
 by_cases hl:a.length=b.length
 ·rcases QV k a b hl h a.length 0 k rfl (by omega) with ⟨e1,e2⟩|⟨e1,e2⟩
  ·have e1:iI k k a b 0=_:=e1
   simp only[go_sem,mI,hl,e1,decide_eq_true (show a=b from e2)]
  ·have e1:iI k k a b 0=_:=e1
   simp only[go_sem,mI,hl,e1,bha (show ¬ a=b from e2)]
 ·have h1:((a.length:Int) != (b.length:Int))=true:=aUa.2 (by omega)
  simp only[go_sem,mI,h1,bha (show ¬ a=b from fun e=>hl (e ▸ rfl))]
def ae4(L n m:Nat):Bool:=(PP L n).all (fun i=>decide (i<L))&&(decide (n=m) ||((PP L n != PP L m)&&(decide (n<m)==(decide ((PP L n).length<(PP L m).length) ||(decide ((PP L n).length=(PP L m).length)&&decide (n<m))))))
theorem acI:(([4,5,6,7,8]:List Nat).all fun L=>(List.range 60).all fun n=>(List.range 60).all fun m=>ae4 L n m)=true:=by kernel_rfl
theorem abl{L n m:Nat}(h4:4≤L)(h8:L≤8)(hn:n<60)(hm:m<60):ae4 L n m=true:=by
 have h1:=ana.1 acI L (by simp;omega)
 exact ana.1 (ana.1 h1 n (bWa.2 hn)) m (bWa.2 hm)
theorem WS{b:XI}(hb:b.Nodup):∀ l l':List Nat,(∀ i∈l,i<b.length)→(∀ i∈l',i<b.length)→(l.map fun i=>b.getD i 0)=(l'.map fun i=>b.getD i 0)→l=l'
 |[],[],_,_,_=>rfl
 |[],_::_,_,_,h=>by cases h
 |_::_,[],_,_,h=>by cases h
 |i::l,j::l',h1,h2,h=>by
  obtain⟨a,c⟩:=List.cons.inj h;have hi:=h1 i (ata ..);have hj:=h2 j (ata ..);have a:b[i]=b[j]:=by simpa[List.getD,hi,hj] using a
  have e:i=j:=(List.getElem_inj hb).1 a;rw[e,WS hb l l' (fun x hx=>h1 x (Q8 _ hx)) (fun x hx=>h2 x (Q8 _ hx)) c]
theorem afi{code:XI}(hc:∀ x∈code,0≤x∧x≤255):∃ v:Nat,v≤255∧Je code 5=some ((v:Int),()):=by
 have wr:∀ x:Int,∃ v:Nat,v≤255∧IntKind.u8.wrap x=(v:Int):=fun x=>by have:IntKind.u8.wrap x=x % 256:=rfl;exact⟨(x % 256).toNat,by omega,by rw[this];omega⟩
 cases code with
 |nil=>obtain⟨v,v1,v2⟩:=wr (bh (5 * 37));exact⟨v,v1,by simp only[Je,List.length];exact bLa (fun x=>some (x,())) v2⟩
 |cons c0 c=>
  generalize hB:c0::c=B at *;have rQ:1≤B.length:=by rw[←hB];simp
  have h0:((B.length:Int)==0)=false:=Q6.2 (by omega)
  have h1:¬ ((B.length:Int)=0):=by omega
  simp only[go_sem,Je,h0,h1];by_cases h5:5<B.length
  ·have h6:(5:Int)<(B.length:Int):=by omega
   obtain⟨a,b⟩:=hc _ (aRa h5);have:=cB h5;refine⟨B[5].toNat,by omega,?_⟩
   simp only[go_sem,h6];rw[show bC B 5=some B[5] from this,bza,aNa a]
  ·have h6:¬ (5:Int)<(B.length:Int):=by omega
   obtain⟨i,i1,i2⟩:=Fa (x:=5) (by omega) rQ
   obtain⟨j,j1,j2⟩:=Fa (x:=bh (bh (5 * 5)+1)) (by decide) rQ
   obtain⟨v,v1,v2⟩:=wr (IntKind.u8.wrap (IntKind.u8.wrap (B[i] * 31)+B[j])+IntKind.u8.wrap 5);exact⟨v,v1,by simp only[go_sem,h6,i2,j2,cB i1,cB j1,v2]⟩
theorem ab1(a b:Nat):((a:Int)==(b:Int))=decide (a=b):=by
 by_cases h:a=b
 ·subst h;simp
 ·rw[bha h];exact Q6.2 (by omega)
theorem abF{code:XI}(hc:∀ x∈code,0≤x∧x≤255){k:Nat}{bB:ab}(h:iK k code=some (bB,())):∃ n:Int,-1≤n∧n≤61∧∀ k bB,iK k code=some (bB,())→rz k code=some (bB,n,()):=by
 obtain⟨⟨b,p,u⟩,e,hb,hp⟩:=WZ hc;have hp:p=((0:Nat):Int):=hp;subst hp;obtain⟨v,v1,v2⟩:=W4 hb (p:=0) (by omega) (n:=63) (by omega)
 have v2:aA b ((0:Nat):Int) 63=_:=v2;refine⟨(v:Int) - 1,by omega,by omega,fun k bB h=>?_⟩
 simp only[go_sem,rz,e,h,v2,bw (show -4611686018427387904≤(v:Int) - 1 by omega) (by omega)]
theorem Pq(code:XI)(hc:∀ x∈code,0≤x∧x≤255)(hd:∀ k1 k2 s1 s2,iK k1 code=some (s1,())→iK k2 code=some (s2,())→s1=s2):∃ k,kQ k code=some (true,()):=by
 by_cases hb:(code.length:Int) > 1048576
 ·exact⟨0,by simp only[go_sem,kQ,hb]⟩
 obtain⟨bB,h1⟩:=Xu hc (awa 41);have h0:∀ k,41≤k→iK k code=some (bB,()):=fun k hk=>by obtain⟨s2,e2⟩:=Xu hc hk;rw[e2,hd _ _ _ _ e2 h1]
 obtain⟨n,n0,n1,hdr⟩:=abF hc h1;obtain⟨w,w1,w2⟩:=afi hc;rcases Yc bB with ⟨c,p,xd,he⟩|⟨t,he⟩
 ·refine Ev.vK ((he.and (⟨100001,fun k hk=>hk⟩:Ev fun k=>100001≤k)).mono fun k e=>?_)
  obtain⟨⟨e1,e2⟩,hk⟩:=e;simp only[go_sem,kQ,aa,hb,hdr k bB (h0 k (by omega)),(e2 n).1,(e2 n).2,MJ [] [] (by simp) hk,e1,aUa.2 xd]
  rfl
 ·refine Ev.vK ((he.and (⟨100001,fun k hk=>hk⟩:Ev fun k=>100001≤k)).mono fun k e=>?_)
  obtain⟨⟨e1,b,⟨h4,h8,HO⟩,e2⟩,hk⟩:=e;have hsm:∀ l:List Nat,l.length≤3→(l.map fun i=>b.getD i 0).length≤100000:=fun l h=>by simp;omega
  by_cases hn0:n<0
  ·have g0:¬ 0≤n:=by omega
   simp only[go_sem,kQ,aa,hb,hdr k bB (h0 k (by omega)),(e2 n).1,(e2 n).2,g0,Bool.false_and,MJ [] [] (by simp) hk,e1,hn0]
   rfl
  by_cases hn1:n≥60
  ·have g0:¬ n≤59:=by omega
   simp only[go_sem,kQ,aa,hb,hdr k bB (h0 k (by omega)),(e2 n).1,(e2 n).2,g0,Bool.and_false,MJ [] [] (by simp) hk,e1,hn0,hn1]
   rfl
  obtain⟨n,rfl⟩:∃ i:Nat,n=(i:Int):=⟨n.toNat,by omega⟩
  obtain⟨m,m1,m2⟩:=Fa (x:=bh (w:Int)) (by rw[bw (by omega) (by omega)];omega) (show 1≤60 by omega)
  have m2:(bh (w:Int)).tmod 60=(m:Int):=m2;have f:=fun i:Nat=>e2 (i:Int);have g:∀ i:Nat,i<60→(decide (0≤(i:Int))&&decide ((i:Int)≤59))=true:=fun i hi=>by simp;omega
  have fn:=f n;have fm:=f m;rw[g n (by omega)] at fn
  rw[g m m1] at fm;simp only[go_sem,aAa] at fn fm;simp only[go_sem,kQ,aa,hb,hdr k bB (h0 k (by omega)),fn.1,fn.2,fm.2,MJ _ _ (hsm _ (acJ _ _)) hk,e1,hn0,hn1,w2,m2]
  have T:=abl h4 h8 (show n<60 by omega) m1
  have T2:=abl h4 h8 m1 (show n<60 by omega)
  simp only[ae4,Q3] at T T2;by_cases hnm:n=m
  ·subst hnm
   simp only[go_sem]
  ·have hz:((n:Int)==(m:Int))=false:=Q6.2 (by omega)
   have T1:=T.2;simp only[go_sem,hnm,Bool.false_or,Q3,aUa,ne_eq,a9a] at T1;have hG:¬ ((PP b.length n).map fun i=>b.getD i 0)=((PP b.length m).map fun i=>b.getD i 0):=fun e=>T1.1 (WS HO _ _ (fun i hi=>bRa (ana.1 T.1 i hi)) (fun i hi=>bRa (ana.1 T2.1 i hi)) e);simp only[go_sem,hz,bha hG,cya,Q5];have h:=T1.2;rw[ab1];revert h;cases decide ((PP b.length n).length<(PP b.length m).length)<;>cases decide ((PP b.length n).length=(PP b.length m).length)<;>cases decide (n<m)<;>simp
end Go.Fx.R5
