/- Proved here: laws.FnExactEngineSteps returns true at every input (the tied card), no condition beyond the card. -/
import Derived.Test.YtooajghcoijkaaaGreatDoorFb
set_option linter.unusedVariables false
set_option linter.unusedSimpArgs false
set_option linter.unusedSectionVars false
set_option maxRecDepth 100000
namespace Go.Fx
def Gh.iz(G G3:Gh)(told:Nat→Option (Option Nat))(kW om:Nat→Option Nat):Gh:={G with
 S:=G3.S
 φ:=fun o=>match om o with | some k=>G3.φ k | none=>G.φ o
 pre:=fun o=>match om o with | some k=>G3.pre k | none=>G.pre o
 post:=fun o=>match om o with | some k=>G3.post k | none=>G.post o
 ψ:=fun a=>match told a with | some (some k)=>G3.ψ k | some none=>.slice none 0 0 | none=>G.ψ a
 HA:=fun a=>match told a with | some (some k)=>G3.HA k | some none=>[] | none=>match kW a with | some k=>G3.HA k | none=>G.HA a
 vn:=fun a=>match kW a with | some _=>G.vn a + 1 | none=>G.vn a
 HV:=fun a v=>match told a with | some (some k)=>kh (G3.HA k) | some none=>[] | none=>match kW a with | some k=>if v≤G.vn a then G.HV a v else kh (G3.HA k) | none=>G.HV a v}
structure F6(st t s st':St)(al:AL)(told:Nat→Option (Option Nat))(kW om:Nat→Option Nat):Prop where
 n:st'.n=st.n
 vr:∀ a,st'.dy a=(match kW a with | some _=>st.dy a + 1 | none=>st.dy a)
 ib:∀ i,st'.ib i=st.ib i
 bl:st'.cz=st.cz
 ZC:∀ q tl,t.dJ q=some tl→q < 10000∧(∃ ls,st.dJ q=some ls)∧∃ sl,s.dJ q=some sl
 dJ:∀ q wd,st'.dJ q=some wd→(t.dJ q=none∧st.dJ q=some wd)∨
  (∃ ls tl sl,st.dJ q=some ls∧t.dJ q=some tl∧s.dJ q=some sl∧tl.length=ls.length∧sl.length=ls.length∧wd.length=ls.length∧∀(j:Nat) (l' l a:af),wd[j]? = some l'→ls[j]? = some l→sl[j]? = some a→
   (st'.res q j l' = st.res q j l∧tl[j]? = some .t6∧∃ lf,dV t.cz q j=some lf)∨∀(G G3:Gh) (u:Value),(∃ X w',aB X s G3 w')→(∀ q tl,t.dJ q=some tl→G3.φ q=G.φ q∧G3.pre q=G.pre q)→aX G3 (s.res q j a) u→aX (G.iz G3 told kW om) (st'.res q j l') u)∨
  (∃ k sl,om q=some k∧s.dJ k=some sl∧wd.length=sl.length∧∀(j:Nat) (l' a:af),wd[j]? = some l'→sl[j]? = some a→∀(G G3:Gh) (u:Value),(∃ X w',aB X s G3 w')→(∀ q tl,t.dJ q=some tl→G3.φ q=G.φ q∧G3.pre q=G.pre q)→aX G3 (s.res k j a) u→aX (G.iz G3 told kW om) (st'.res q j l') u)
 CR:∀ q k,om q=some k→st.dJ q=none∧st.cY false q=false∧t.dJ k=none
 acZ:∀ q q' k,om q=some k→om q' = some k→q=q'
 T5:∀ q ls,st.dJ q=some ls→∃ wd,st'.dJ q=some wd
 t6:∀ q j ls lf,st.dJ q=some ls→ls[j]? = some .t6→dV st.cz q j=some lf→∃ wd,st'.dJ q=some wd∧wd[j]? = some .t6∧(t.dJ q=none∨∃ tl lf',t.dJ q=some tl∧tl[j]? = some .t6∧dV t.cz q j=some lf')
 arr:∀ a A,st'.arr a=some A→(∃ k,told a=some (some k)∧s.arr k=some A∧A.sh=false∧∀ i o,A.md≠.BX i o)∨
  (told a=some none∧A.l = []∧A.sh=false∧A.oW=true)∨
  (∃ k,told a=none∧kW a=some k∧True∧s.arr k=some A∧A.sh=false∧∀ i o,A.md≠.BX i o)∨
  (told a=none∧kW a=none∧st.arr a=some A∧(A.sh=true∨∀ nm B,look al nm≠some (some a,B)))
 ti:∀ a a' k,told a=some (some k)→told a' = some (some k)→a=a'
 ki:∀ a a' k,kW a=some k→kW a' = some k→a=a'
 tk:∀ a a' k,told a=some (some k)→kW a'≠some k
 Ej:∀ a k,told a=some k→st.cY true a=false
 pn:st'.pin=st.pin
 ap:∀ a A,eT a st.pin=true→st.arr a=some A→told a=none∧∃ B,st'.arr a=some B
theorem rq(st:St)(o:Nat):∀(ls:List af) (i j:Nat),(st.jO o i ls)[j]? = (ls[j]?).map (st.res o (i + j))
 |[],i,j=>by simp [St.jO]
 |l :: r,i,0=>by simp [St.jO]
 |l :: r,i,j + 1=>by simp only [St.jO,List.getElem?_cons_succ];rw [rq st o r (i + 1) j,show i + 1 + j=i + (j + 1) by omega]
theorem All2.S1{α β:Type}{R:α→β→Prop}:∀{xs:List α} {ys:List β},xs.length=ys.length→(∀(j:Nat) (x:α) (y:β),xs[j]? = some x→ys[j]? = some y→R x y)→All2 R xs ys
 |[],[],_,_=>trivial
 |x :: xs,y :: ys,h,f=>⟨f 0 x y rfl rfl,All2.S1 (by simpa using h) (fun j x y hx hy=>f (j + 1) x y (by simpa using hx) (by simpa using hy))⟩
 |[],_ :: _,h,_=>by simp at h
 |_ :: _,[],h,_=>by simp at h
theorem Pk{arr:Array Value}{pre mid post:List Value}(h:arr.toList=pre ++ (mid ++ post)){j:Nat}(hj:j < mid.length):arr.toList[pre.length + j]? = mid[j]?:=by rw [h,List.getElem?_append_right (by omega),Nat.add_sub_cancel_left,List.getElem?_append_left hj]
section
variable {st t s st':St} {al:AL} {told:Nat→Option (Option Nat)} {kW om:Nat→Option Nat} {X:mo} {G G3:Gh} {w w':World}
theorem F6.le(hM:F6 st t s st' al told kW om)(hS:∀ b o,G.S b=some o→G3.S b=some o){l:af}{v:Value}(hm:∀ a k,told a=some k→l.cY true a=false)(hn:∀ q k,om q=some k→l.cY false q=false)(r:aX G l v):aX (G.iz G3 told kW om) l v:=by
 cases l with
 |any=>trivial
 |t6=>trivial
 |uB=>exact r
 |eX t d=>obtain⟨cs,e,hr⟩:=r;exact⟨cs,e,hr.mono hS⟩
 |nil=>exact r
 |Ir=>exact r
 |mq a=>
  show v=(G.iz G3 told kW om).ψ a;have:told a=none:=by
   cases h:told a with
   |none=>rfl
   |some k=>have:=hm a k h;simp [af.cY] at this
  simp only [Gh.iz,this];exact r
 |mT o off=>
  have:om o=none:=by
   cases h:om o with
   |none=>rfl
   |some k=>have:=hn o k h;simp [af.cY] at this
  simp only [aX,Gh.iz,this];exact r
 |Cs a sz i off=>
  have:told a=none:=by
   cases h:told a with
   |none=>rfl
   |some k=>have:=hm a k h;simp [af.cY] at this
  simp only [aX,Gh.iz,this];exact r
 |M5 t d off=>obtain⟨b,arr,elem,fz,pre,cs,post,h1,h2,h3,h4⟩:=r;exact⟨b,arr,elem,fz,pre,cs,post,hS _ _ h1,h2,h3.mono hS,h4⟩
 |fn f=>exact r
 |Dt a vr sz i off=>
  have hn:told a=none:=by
   cases h:told a with
   |none=>rfl
   |some k=>have:=hm a k h;simp [af.cY] at this
  exact uE.zb r (by simp only [Gh.iz,hn]) (by simp only [Gh.iz];split<;>omega) (fun v hv=>by simp only [Gh.iz,hn];split<;>simp [hv])
 |nse a vr sz i off sz2 j Rq=>
  have hn:told a=none:=by
   cases h:told a with
   |none=>rfl
   |some k=>have:=hm a k h;simp [af.cY] at this
  obtain⟨b2,Il,Jr,h1,h2⟩:=r;exact⟨b2,Il,Jr,uE.zb h1 (by simp only [Gh.iz,hn]) (by simp only [Gh.iz];split<;>omega) (fun v hv=>by simp only [Gh.iz,hn];split<;>simp [hv]),h2⟩
 |JY a kk n=>
  have hn:told a=none:=by
   cases h:told a with
   |none=>rfl
   |some k=>have:=hm a k h;simp [af.cY] at this
  simp only [aX,Gh.iz,hn];exact r
 |ga t l=>obtain⟨b,arr,elem,fz,cs,rest,h1,h2,h3,h4⟩:=r;exact⟨b,arr,elem,fz,cs,rest,hS _ _ h1,h2,h3.CO hS,h4⟩
theorem F6.leV(hM:F6 st t s st' al told kW om)(hS:∀ b o,G.S b=some o→G3.S b=some o){x:ae}{v:Value}(hm:∀ a k,told a=some k→x.cY true a=false)(hn:∀ q k,om q=some k→x.cY false q=false)(r:aT G x v):aT (G.iz G3 told kW om) x v:=by
 have fj:∀{ls:List af} {vs:List Value},(∀ a k,told a=some k→ls.any (af.cY true a)=false)→(∀ a k,om a=some k→ls.any (af.cY false a)=false)→All2 (aX G) ls vs→All2 (aX (G.iz G3 told kW om)) ls vs:=fun {ls vs} h h' hr=>
  hr.ue fun l v hl AJ=>hM.le hS (fun a k hk=>by have:=List.any_eq_false.1 (h a k hk) l hl;simpa using this) (fun a k hk=>by have:=List.any_eq_false.1 (h' a k hk) l hl;simpa using this) AJ
 cases x with
 |one l=>exact hM.le hS hm hn r
 |agg ls=>obtain⟨cs,e,hr⟩:=r;exact⟨cs,e,fj hm hn hr⟩
 |I8 vs=>
  obtain⟨us,e,hr⟩:=r;refine⟨us,e,hr.ue fun p u hp Lh=>?_⟩;have hm':∀ a k,told a=some k→p.2.any (af.cY true a)=false:=fun a k hk=>by have:=List.any_eq_false.1 (hm a k hk) p hp;simpa using this
  have hn':∀ a k,om a=some k→p.2.any (af.cY false a)=false:=fun a k hk=>by have:=List.any_eq_false.1 (hn a k hk) p hp;simpa using this
  split at Lh
  ·rename_i hc;simp only [hc,if_true];obtain⟨cs,e,hr⟩:=Lh;exact⟨cs,e,fj hm' hn' hr⟩
  ·rename_i hc
   obtain⟨l,e,hr⟩:=Lh;simp only [Bool.not_eq_true] at hc;simp only [hc,Bool.false_eq_true,if_false];exact⟨l,e,hM.le hS (fun a k hk=>by have:=hm' a k hk;rw [e] at this;simpa using this) (fun a k hk=>by have:=hn' a k hk;rw [e] at this;simpa using this) hr⟩
 |y5 t ls=>obtain⟨u,cs,e1,e2,hr⟩:=r;exact⟨u,cs,e1,e2,fj hm hn hr⟩
theorem F6.et(hM:F6 st t s st' al told kW om)(hS:∀ b o,G.S b=some o→G3.S b=some o){act:Act}(hr:bI G st act):bI (G.iz G3 told kW om) st' act:=
 ⟨hr.1,hr.2.1.trans hM.n.symm,fun i v hv=>by
  rw [hM.ib] at hv;exact hM.leV hS (fun a k hk=>Aa (hM.Ej a k hk) hv) (fun q k hk=>Aa (hM.CR q k hk).2.1 hv) (hr.2.2 i v hv)⟩
theorem F6.ok(hM:F6 st t s st' al told kW om)(hm:aB X st G w)(jo:∀ x b,eU (G.tC al) t x b→∃ x',eU G st x' b∧((∃ o,x=(false,o)∧x' = (false,o))∨∃ nm a A,x=(true,nm)∧x' = (true,a)∧look al nm=some (some a,A)))
  {X':mo} (y4:aB X' t (G.tC al) w) (h3:aB (vF t (G.tC al) w) s G3 w') (GB:∀ a k,kW a=some k→told a=none→G3.ψ k=G.ψ a):aB X st' (G.iz G3 told kW om) w':=by
 have hS:∀ b o,G.S b=some o→G3.S b=some o:=h3.s0;have hφ:∀ q tl,t.dJ q=some tl→G3.φ q=G.φ q∧G3.pre q=G.pre q∧G3.post q=G.post q:=fun q tl hq=>by obtain⟨bq,_,_⟩:=hM.ZC q tl hq;have:=(h3.pin q _ (NE bq hq)).2;simp only [Prod.mk.injEq] at this;exact⟨this.1.symm,this.2.1.symm,this.2.2.symm⟩
 have hφ2:∀ q tl,t.dJ q=some tl→G3.φ q=G.φ q∧G3.pre q=G.pre q:=fun q tl hq=>⟨(hφ q tl hq).1,(hφ q tl hq).2.1⟩;have acB:∀ q ls,st.dJ q=some ls→om q=none:=fun q ls h=>by
  cases hn:om q with
  |none=>rfl
  |some k=>rw [(hM.CR q k hn).1] at h;cases h
 have bφ:∀ q ls,st.dJ q=some ls→(G.iz G3 told kW om).φ q=G.φ q∧(G.iz G3 told kW om).pre q=G.pre q∧(G.iz G3 told kW om).post q=G.post q:=fun q ls h=>by simp [Gh.iz,acB q ls h]
 have cls:∀ x b,eU (G.iz G3 told kW om) st' x b→(eU G st x b∧∀ y,¬ eU (G.tC al) t y b)∨
   ∃ x3,eU G3 s x3 b∧((∃ q q3,x=(false,q)∧x3=(false,q3)∧((q3=q∧∃ tl,t.dJ q=some tl)∨om q=some q3))∨(∃ a k,x=(true,a)∧x3=(true,k)∧told a=some (some k))∨∃ a k,x=(true,a)∧x3=(true,k)∧kW a=some k):=fun x b hx=>by
  obtain⟨kk,n⟩:=x;cases kk with
  |false=>
   obtain⟨⟨wd,hl⟩,rfl⟩:=hx;rcases hM.dJ n wd hl with ⟨h1,h2⟩ |⟨ls,tl,sl,h1,h2,h4,_⟩ |⟨k,sl,h1,h2,_⟩
   ·rw [(bφ n wd h2).1]
    refine .inl ⟨⟨⟨wd,h2⟩,rfl⟩,fun y hy=>?_⟩;obtain⟨y',Eo,c⟩:=jo y _ hy;have e:=hm.pO (false,n) y' _ ⟨⟨wd,h2⟩,rfl⟩ Eo;rcases c with ⟨o,rfl,rfl⟩ |⟨nm,a,A,rfl,rfl,_⟩
    ·simp only [Prod.mk.injEq,true_and] at e
     subst e;obtain⟨⟨tl,ht⟩,_⟩:=hy;rw [h1] at ht;cases ht
    ·simp at e
   ·rw [(bφ n ls h1).1]
    exact .inr ⟨(false,n),⟨⟨sl,h4⟩,(hφ n tl h2).1.symm⟩,.inl ⟨n,n,rfl,rfl,.inl ⟨rfl,tl,h2⟩⟩⟩
   ·exact .inr ⟨(false,k),⟨⟨sl,h2⟩,by simp [Gh.iz,h1]⟩,.inl ⟨n,k,rfl,rfl,.inr h1⟩⟩
  |true=>
   obtain⟨⟨A,hA,hs⟩,p,hp,rfl⟩:=hx;rcases hM.arr n A hA with ⟨k,h1,h2,h4,_⟩ |⟨h1,_⟩ |⟨k,h0,h1,h2,h4,h5,_⟩ |⟨h0,h1,h2,h4⟩
   ·simp only [Gh.iz,h1] at hp
    exact .inr ⟨(true,k),⟨⟨A,h2,hs⟩,p,hp,rfl⟩,.inr (.inl ⟨n,k,rfl,rfl,h1⟩)⟩
   ·simp only [Gh.iz,h1] at hp;cases hp
   ·simp only [Gh.iz,h0,h1] at hp
    exact .inr ⟨(true,k),⟨⟨A,h4,hs⟩,p,hp,rfl⟩,.inr (.inr ⟨n,k,rfl,rfl,h1⟩)⟩
   ·simp only [Gh.iz,h0,h1] at hp
    have ho:eU G st (true,n) p.1:=⟨⟨A,h2,hs⟩,p,hp,rfl⟩;refine .inl ⟨ho,fun y hy=>?_⟩;obtain⟨y',Eo,c⟩:=jo y _ hy;have e:=hm.pO (true,n) y' _ ho Eo;rcases c with ⟨o,rfl,rfl⟩ |⟨nm,a,B,rfl,rfl,hl⟩
    ·simp at e
    ·simp only [Prod.mk.injEq,true_and] at e
     subst e;rcases h4 with h4 | h4
     ·rw [hs] at h4;cases h4
     ·exact h4 nm B hl
 have su:∀ b,b < w.heap.size→(∀ y,¬ eU (G.tC al) t y b)→w'.heap[b]? = w.heap[b]?:=fun b hb hn=>h3.fr b hb (fun⟨y,hy⟩=>hn y hy);have hin:∀ x3 b,eU G3 s x3 b→(∃ x',eU G st x' b)∨w.heap.size≤b:=fun x3 b hx=>by
  rcases h3.sD x3 b hx with ⟨y,hy⟩ | h
  ·obtain⟨y',Eo,_⟩:=jo y b hy;exact .inl ⟨y',Eo⟩
  ·exact .inr h
 refine {sl:=fun a=>?_,sh:=h3.sh,ob:=fun q wd hq=>?_,ar:=fun a A hA=>?_,ah:=fun a A hA hs p hp=>?_,nd:=fun a A hA hs=>?_,pO:=fun x y b hx hy=>?_,dS:=fun x b hx=>?_,sD:=fun x b hx=>?_,s0:=fun b o h=>hS b o (hm.s0 b o h),sn:=fun b o h=>?_,fr:=fun b hb hn=>?_,sz:=Nat.le_trans hm.sz h3.sz,os:=h3.os.trans hm.os,tp:=h3.tp.trans hm.tp,out:=h3.out.trans hm.out,pin:=fun q p hp=>?_,bv:=fun q j u hu=>?_,ap:=fun a u hu=>(by obtain⟨h1,⟨A,h2⟩,h3⟩:=hm.ap a u hu;obtain⟨h4,h5⟩:=hM.ap a A h1 h2;exact⟨by rw [hM.pn];exact h1,h5,by simp [Gh.iz,h4,h3]⟩),hv:=fun a=>(by rw [hM.vr a];simp only [Gh.iz,hm.hv a]),ds:=hm.ds,hh:=fun a A hA hs hn=>?_}
 ·show SlV (match told a with | some (some k)=>G3.ψ k | some none=>.slice none 0 0 | none=>G.ψ a)
  split
  ·exact h3.sl _
  ·exact .inl ⟨_,_,_,rfl⟩
  ·exact hm.sl _
 ·rcases hM.dJ q wd hq with ⟨h1,h2⟩ |⟨ls,tl,sl,h1,h2,h4,e1,e2,e3,hj⟩ |⟨k,sl,h1,h2,e1,hj⟩
  ·obtain⟨arr,elem,mid,g1,g2,g3⟩:=hm.ob q wd h2
   have bq:=eU.lt hm (x:=(false,q)) ⟨⟨wd,h2⟩,rfl⟩;have vg:∀ y,¬ eU (G.tC al) t y (G.φ q):=fun y hy=>by
    rcases cls (false,q) (G.φ q) ⟨⟨wd,hq⟩,(bφ q wd h2).1.symm⟩ with ⟨_,h⟩ |⟨x3,hx3,c⟩
    ·exact h y hy
    ·obtain⟨y',Eo,c'⟩:=jo y _ hy
     have e:=hm.pO (false,q) y' _ ⟨⟨wd,h2⟩,rfl⟩ Eo;rcases c' with ⟨o,rfl,rfl⟩ |⟨nm,a,A,rfl,rfl,_⟩
     ·simp only [Prod.mk.injEq,true_and] at e
      subst e;obtain⟨⟨tl,ht⟩,_⟩:=hy;rw [h1] at ht;cases ht
     ·simp at e
   obtain⟨b1,b2,b3⟩:=bφ q wd h2;refine⟨arr,elem,mid,by rw [b1,su _ bq vg];exact g1,by rw [b2,b3];exact g2,?_⟩
   unfold hZ at g3 ⊢;rw [jP (st:=st) (fun j l=>by cases l<;>simp [St.res,hM.bl])]
   refine g3.ue fun l v hl AJ=>hM.le hS (fun a k hk=>?_) (fun a k hk=>?_) AJ
   ·have:=List.any_eq_false.1 (rk (hM.Ej a k hk) h2 0) l hl
    simpa using this
   ·have:=List.any_eq_false.1 (rk (hM.CR a k hk).2.1 h2 0) l hl
    simpa using this
  ·obtain⟨arr,elem,mid,g1,g2,g3⟩:=h3.ob q sl h4
   obtain⟨f1,f2,f3⟩:=hφ q tl h2;obtain⟨bq,_,_⟩:=hM.ZC q tl h2;have hml:mid.length=sl.length:=by have:=All2.length g3;rw [iF] at this;exact this.symm
   obtain⟨b1,b2,b3⟩:=bφ q ls h1;refine⟨arr,elem,mid,by rw [b1,←f1];exact g1,by rw [b2,b3];rw [f2,f3] at g2;exact g2,?_⟩
   refine All2.S1 (by rw [iF];omega) fun j x y hx hy=>?_
   rw [rq,Option.map_eq_some_iff] at hx;obtain⟨l',J7,rfl⟩:=hx;rw [Nat.zero_add];have hjl:j < wd.length:=(List.getElem?_eq_some_iff.1 J7).1;have Mj:ls[j]? = some ls[j]:=List.getElem?_eq_getElem (by omega)
   have J9:sl[j]? = some sl[j]:=List.getElem?_eq_getElem (by omega)
   rcases hj j l' ls[j] sl[j] J7 Mj J9 with ⟨e,hb,lf,O4⟩ | hB
   ·obtain⟨wP,qE,u,q1,q2,q3⟩:=Lp y4 bq h2 O4 hb
    obtain⟨_,_,aay,ZR,q4,q5⟩:=h3.bv q j u q3;rw [g1] at q4;cases q4;have hyu:y=u:=by rw [Pk g2 (by omega),hy] at q5;exact Option.some.inj q5
    obtain⟨V3,Wk,aeh,p1,p2,p3⟩:=hm.ob q ls h1;have q1:w.heap[G.φ q]? = some (.cells wP qE (0,0)):=q1;have q2:wP.toList[(G.pre q).length + j]? = some u:=q2;rw [p1] at q1;cases q1;have aeL:aeh.length=ls.length:=by have:=All2.length p3;rw [iF] at this;exact this.symm
    rw [Pk p2 (by omega)] at q2
    obtain⟨u',hu',O7⟩:=All2.vE (i:=j) p3 (by rw [rq,Mj];rfl)
    rw [q2] at hu';cases hu';rw [Nat.zero_add] at O7;rw [e,hyu];refine hM.le hS (fun a k hk=>?_) (fun a k hk=>?_) O7
    ·have:=List.any_eq_false.1 (rk (hM.Ej a k hk) h1 0) (st.res q j ls[j]) (List.mem_of_getElem? (i:=j) (by rw [rq,Mj];simp))
     simpa using this
    ·have:=List.any_eq_false.1 (rk (hM.CR a k hk).2.1 h1 0) (st.res q j ls[j]) (List.mem_of_getElem? (i:=j) (by rw [rq,Mj];simp))
     simpa using this
   ·obtain⟨u',hu',O7⟩:=All2.vE (i:=j) g3 (by rw [rq,J9];rfl)
    rw [hy] at hu';cases hu';rw [Nat.zero_add] at O7;exact hB G G3 _ ⟨_,_,h3⟩ hφ2 O7
  ·obtain⟨arr,elem,mid,g1,g2,g3⟩:=h3.ob k sl h2
   refine⟨arr,elem,mid,by simp only [Gh.iz,h1];exact g1,by simp only [Gh.iz,h1];exact g2,?_⟩
   have hml:mid.length=sl.length:=by have:=All2.length g3;rw [iF] at this;exact this.symm
   refine All2.S1 (by rw [iF];omega) fun j x y hx hy=>?_
   rw [rq,Option.map_eq_some_iff] at hx;obtain⟨l',J7,rfl⟩:=hx;rw [Nat.zero_add];have hjl:j < wd.length:=(List.getElem?_eq_some_iff.1 J7).1;have J9:sl[j]? = some sl[j]:=List.getElem?_eq_getElem (by omega)
   obtain⟨u',hu',O7⟩:=All2.vE (i:=j) g3 (by rw [rq,J9];rfl)
   rw [hy] at hu';cases hu';rw [Nat.zero_add] at O7;exact hj j l' sl[j] J7 J9 G G3 _ ⟨_,_,h3⟩ hφ2 O7
 ·rcases hM.arr a A hA with ⟨k,h1,h2,h4,h6⟩ |⟨h1,h2,h4,h6⟩ |⟨k,h0,h1,h2,h4,h5,h6⟩ |⟨h0,h1,h2,h4⟩
  ·exact(h3.ar k A h2).mono (G:=G3) (a:=k) (G':=G.iz G3 told kW om) (a':=a) (fun _ _ h=>h) (by simp [Gh.iz,h1]) (by simp [Gh.iz,h1]) (fun i o e=>absurd e (h6 i o))
  ·exact(gS h4 h6).2 (.inl ⟨h2,by simp [Gh.iz,h1],by simp [Gh.iz,h1]⟩)
  ·exact(h3.ar k A h4).mono (G:=G3) (a:=k) (G':=G.iz G3 told kW om) (a':=a) (fun _ _ h=>h) (by simp [Gh.iz,h0];exact(GB a k h1 h0).symm) (by simp [Gh.iz,h0,h1]) (fun i o e=>absurd e (h6 i o))
  ·refine(hm.ar a A h2).mono (G:=G) (a:=a) (G':=G.iz G3 told kW om) (a':=a) hS (by simp [Gh.iz,h0]) (by simp [Gh.iz,h0,h1]) (fun i o e=>?_)
   have vg:om o=none:=by
    cases hn:om o with
    |none=>rfl
    |some k=>exact absurd rfl (Dp (hM.CR o k hn).2.1 h2 e)
   simp [Gh.iz,vg]
 ·have hx:eU (G.iz G3 told kW om) st' (true,a) p.1:=⟨⟨A,hA,hs⟩,p,hp,rfl⟩
  rcases hM.arr a A hA with ⟨k,h1,h2,h4,h6⟩ |⟨h1,h2,h4,h6⟩ |⟨k,h0,h1,h2,h4,h5,h6⟩ |⟨h0,h1,h2,h4⟩
  ·simp only [Gh.iz,h1] at hp;exact h3.ah k A h2 hs p hp
  ·simp only [Gh.iz,h1] at hp;cases hp
  ·simp only [Gh.iz,h0,h1] at hp;exact h3.ah k A h4 hs p hp
  ·have zf:p∈G.HA a:=by simpa only [Gh.iz,h0,h1] using hp
   rcases cls _ _ hx with ⟨g1,g2⟩ |⟨x3,_,c⟩
   ·rw [su _ (eU.lt hm g1) g2];exact hm.ah a A h2 hs p zf
   ·rcases c with ⟨q,q3,e,_⟩ |⟨a',k,e,_,ha⟩ |⟨a',k,e,_,ha⟩<;>simp only [Prod.mk.injEq,true_and,reduceCtorEq,false_and] at e
    ·subst e;rw [h0] at ha;cases ha
    ·subst e;rw [h1] at ha;cases ha
 ·rcases hM.arr a A hA with ⟨k,h1,h2,h4,h6⟩ |⟨h1,h2,h4,h6⟩ |⟨k,h0,h1,h2,h4,h5,h6⟩ |⟨h0,h1,h2,h4⟩
  ·simp only [Gh.iz,h1];exact h3.nd k A h2 hs
  ·simp only [Gh.iz,h1];exact List.nodup_nil
  ·simp only [Gh.iz,h0,h1];exact h3.nd k A h4 hs
  ·simp only [Gh.iz,h0,h1];exact hm.nd a A h2 hs
 ·rcases cls x b hx with ⟨h1,h2⟩ |⟨x3,h1,c1⟩<;>rcases cls y b hy with ⟨k1,k2⟩ |⟨y3,k1,c2⟩
  ·exact hm.pO x y b h1 k1
  ·rcases h3.sD y3 b k1 with ⟨z,hz⟩ | h
   ·exact absurd hz (h2 z)
   ·have:=eU.lt hm h1;have h:w.heap.size≤b:=h;omega
  ·rcases h3.sD x3 b h1 with ⟨z,hz⟩ | h
   ·exact absurd hz (k2 z)
   ·have:=eU.lt hm k1;have h:w.heap.size≤b:=h;omega
  ·have e:=h3.pO x3 y3 b h1 k1
   rcases c1 with ⟨q,q3,rfl,rfl,hq⟩ |⟨a,k,rfl,rfl,ha⟩ |⟨a,k,rfl,rfl,ha⟩<;>rcases c2 with ⟨q',q3',rfl,rfl,GE⟩ |⟨a',k',rfl,rfl,ha'⟩ |⟨a',k',rfl,rfl,ha'⟩<;>simp only [Prod.mk.injEq,true_and,reduceCtorEq,false_and] at e
   ·subst e
    rcases hq with ⟨e1,tl,h5⟩ | hq<;>rcases GE with ⟨e2,tl',h6⟩ | GE
    ·rw [←e1,←e2]
    ·rw [←e1,(hM.CR q' q3 GE).2.2] at h5;cases h5
    ·rw [←e2,(hM.CR q q3 hq).2.2] at h6;cases h6
    ·rw [hM.acZ q q' q3 hq GE]
   ·subst e;rw [hM.ti a a' k ha ha']
   ·subst e;exact absurd ha' (hM.tk a a' k ha)
   ·subst e;exact absurd ha (hM.tk a' a k ha')
   ·subst e;rw [hM.ki a a' k ha ha']
 ·rcases cls x b hx with ⟨h1,h2⟩ |⟨x3,h1,c1⟩
  ·cases hc:G3.S b with
   |none=>exact hc
   |some o=>
    rcases h3.sn b o hc with h |⟨y,hy⟩ | h
    ·have:=hm.dS x b h1;rw [show G.S b=some o from h] at this;cases this
    ·exact absurd hy (h2 y)
    ·have:=eU.lt hm h1;have h:w.heap.size≤b:=h;omega
  ·exact h3.dS x3 b h1
 ·rcases cls x b hx with ⟨h1,h2⟩ |⟨x3,h1,c1⟩
  ·exact hm.sD x b h1
  ·rcases hin x3 b h1 with ⟨x',Dl⟩ | h
   ·exact hm.sD x' b Dl
   ·have:=hm.sz;exact .inr (by omega)
 ·rcases h3.sn b o h with h |⟨y,hy⟩ | h
  ·exact hm.sn b o h
  ·obtain⟨y',Eo,_⟩:=jo y b hy
   rcases hm.sD y' b Eo with h | h
   ·exact .inr (.inl h)
   ·exact .inr (.inr h)
  ·have:=hm.sz;have h:w.heap.size≤b:=h;exact .inr (.inr (by omega))
 ·rw [su b (by have:=hm.sz;omega) (fun y hy=>by
   obtain⟨y',Eo,_⟩:=jo y b hy;rcases hm.sD y' b Eo with h | h
   ·exact hn h
   ·omega)]
  exact hm.fr b hb hn
 ·obtain⟨⟨ls,h1⟩,h2⟩:=hm.pin q p hp
  obtain⟨b1,b2,b3⟩:=bφ q ls h1;exact⟨hM.T5 q ls h1,by rw [b1,b2,b3];exact h2⟩
 ·obtain⟨⟨lf,h1⟩,⟨ls,h2,h4⟩,wP,qE,h5,h6⟩:=hm.bv q j u hu
  obtain⟨wd,k1,k2,k3⟩:=hM.t6 q j ls lf h2 h4 h1;refine⟨⟨lf,by rw [hM.bl];exact h1⟩,⟨wd,k1,k2⟩,?_⟩
  obtain⟨b1,b2,b3⟩:=bφ q ls h2;rw [b1,b2];rcases k3 with k3 |⟨tl,lf',k3,k4,k5⟩
  ·have hx:eU (G.iz G3 told kW om) st' (false,q) (G.φ q):=⟨⟨wd,k1⟩,b1.symm⟩
   refine⟨wP,qE,?_,h6⟩;rcases cls _ _ hx with ⟨g1,g2⟩ |⟨x3,g1,c⟩
   ·rw [su _ (eU.lt hm g1) g2];exact h5
   ·have vg:∀ y,¬ eU (G.tC al) t y (G.φ q):=fun y hy=>by
     obtain⟨y',Eo,c'⟩:=jo y _ hy;have e:=hm.pO (false,q) y' _ ⟨⟨ls,h2⟩,rfl⟩ Eo;rcases c' with ⟨o,rfl,rfl⟩ |⟨nm,a,A,rfl,rfl,_⟩
     ·simp only [Prod.mk.injEq,true_and] at e
      subst e;obtain⟨⟨tl,ht⟩,_⟩:=hy;rw [k3] at ht;cases ht
     ·simp at e
    rw [su _ (eU.lt hm (x:=(false,q)) ⟨⟨ls,h2⟩,rfl⟩) vg];exact h5
  ·obtain⟨f1,f2,f3⟩:=hφ q tl k3
   obtain⟨bq,_,_⟩:=hM.ZC q tl k3;obtain⟨aay,ZR,u',q1,q2,q3⟩:=Lp y4 bq k3 k5 k4;have q1:w.heap[G.φ q]? = some (.cells aay ZR (0,0)):=q1;have q2:aay.toList[(G.pre q).length + j]? = some u':=q2;rw [h5] at q1;cases q1;rw [h6] at q2;cases q2;obtain⟨_,_,V3,Wk,q4,q5⟩:=h3.bv q j u q3;exact⟨V3,Wk,by rw [←f1];exact q4,by rw [←f2];exact q5⟩
 ·rcases hM.arr a A hA with ⟨k,h1,_⟩ |⟨h1,_⟩ |⟨k,h0,h1,_⟩ |⟨h0,h1,h2,h4⟩
  ·simp only [Gh.iz,h1]
  ·simp only [Gh.iz,h1,kh]
  ·simp only [Gh.iz,h0,h1];rw [if_neg (by omega)]
  ·simp only [Gh.iz,h0,h1];exact hm.hh a A h2 hs hn
end
end Go.Fx
namespace Go.Fx
noncomputable def wR(E:rQ)(c:Code):List (Code×kZ):=
 Code.rec (motive:=fun _=>List (Code×kZ)) [] (fun id ops draw=>bif draw then(match E.nU (id + 1000000) with | some L=>[(.region id ops true,L)] | none=>[]) else []) (fun _ _ x y=>x ++ y) (fun _ _ _ x y=>x ++ y)
  (fun id b x=>match E.nU id with | some L=>[(.block id b,L)] | none=>x) (fun _ _=>[]) (fun _ _ _ _ _ _=>[])
  (fun _=>[]) (fun _ _=>[]) (fun _=>[]) (fun _=>[]) [] (fun _=>[]) c
theorem SS{P:Program}{E:rQ}{c:Code}:(∀ x∈wR E c,tY P E.gt x.1 x.2)→rH P E c:=by
 induction c with
 |seq a b Ln Pa=>intro h;exact⟨Ln fun x hx=>h x (List.mem_append_left _ hx),Pa fun x hx=>h x (List.mem_append_right _ hx)⟩
 |cond c a b Ln Pa=>intro h;exact⟨Ln fun x hx=>h x (List.mem_append_left _ hx),Pa fun x hx=>h x (List.mem_append_right _ hx)⟩
 |region id ops draw=>
  intro h;cases draw with
  |false=>trivial
  |true=>
   have h:∀ x∈(match E.nU (id + 1000000) with | some L=>[((.region id ops true:Code),L)] | none=>[]),tY P E.gt x.1 x.2:=h
   show(match true,E.nU (id + 1000000) with | true,some L=>tY P E.gt (.region id ops true) L | _,_=>True)
   cases hl:E.nU (id + 1000000) with
   |some L=>rw [hl] at h;exact h (_,L) (by simp)
   |none=>trivial
 |block id b ih=>
  intro h;have h:∀ x∈(match E.nU id with | some L=>[((.block id b:Code),L)] | none=>wR E b),tY P E.gt x.1 x.2:=h
  show(match E.nU id with | some L=>Ou P E.gt id b L | none=>rH P E b)
  cases hl:E.nU id with
  |some L=>rw [hl] at h;exact h (_,L) (by simp)
  |none=>rw [hl] at h;exact ih h
 |_=>intro _;trivial
theorem Ph{P:Program}{E:rQ}{c:Code}{l:List (Code×kZ)}(e:wR E c=l)(h:∀ x∈l,tY P E.gt x.1 x.2):rH P E c:=SS (by rw [e];exact h)
end Go.Fx
namespace Go.Fx
open Go.RowKit (Below)
def Ty.y9:Ty→Bool
 |.int _=>true | .bool=>true | .str=>true | _=>false
def Zw:(t:Ty)→t.mZ→Value
 |.int k,n=>.int k n
 |.bool,b=>.bool b
 |.str,s=>ke s
 |_,_=>undef
def Hr:(ts:List Ty)→DL ts→List Value
 |[],_=>[]
 |t :: r,d=>Zw t d.1 :: Hr r d.2
theorem Aj{G:Gh}{t:Ty}(ht:t.y9=true){d:t.mZ}{v:Value}:aX G (.eX t d) v↔v=Zw t d:=by
 have fwd:∀{t:Ty} {d:t.mZ},t.agg=false→(∀ cs,fY G.S false t cs d []→cs = [Zw t d])→aX G (.eX t d) v→v=Zw t d:=fun {t d} ha hr h=>by obtain⟨cs,e1,e2⟩:=h;simp only [ha,Bool.false_eq_true,if_false] at e1;have:=hr cs e2;rw [e1] at this;simpa using this
 cases t with
 |int k=>exact⟨fwd rfl fun cs h=>h.1,fun h=>by subst h;exact kz k d⟩
 |bool=>exact⟨fwd rfl fun cs h=>h.1,fun h=>by subst h;exact oa d⟩
 |str=>exact⟨fwd rfl fun cs h=>h.1,fun h=>by subst h;exact IA d⟩
 |_=>simp [Ty.y9] at ht
theorem Oj{G:Gh}:∀{ts:List Ty} {d:DL ts} {vs:List Value},(ts.all Ty.y9)=true→yQ G ts d vs→vs=Hr ts d
 |[],d,[],_,_=>rfl
 |t :: r,d,v :: vs,h,hd=>by simp only [List.all_cons,Bool.and_eq_true] at h;rw [Hr,(Aj h.1).1 hd.1,Oj h.2 hd.2]
 |[],d,_ :: _,_,h=>h.elim
 |_ :: _,d,[],_,h=>h.elim
theorem Oi{G:Gh}:∀{ts:List Ty} {d:DL ts},(ts.all Ty.y9)=true→yQ G ts d (Hr ts d)
 |[],d,_=>trivial
 |t :: r,d,h=>by simp only [List.all_cons,Bool.and_eq_true] at h;exact⟨(Aj h.1).2 rfl,Oi h.2⟩
theorem aB.ab1{X:mo}{st:St}{G:Gh}{w w':World}(hm:aB X st G w)(hb:Below w.heap.size w w'):aB X st G w':=by
 have su:∀{b:Nat} {o:Obj},w.heap[b]? = some o→w'.heap[b]? = some o:=fun {b o} h=>by rw [hb.block b (fT h)];exact h
 exact {sl:=hm.sl,sh:=fun b o h=>su (hm.sh b o h),ob:=fun o ls h=>(by obtain⟨arr,elem,mid,g1,g2,g3⟩:=hm.ob o ls h;exact⟨arr,elem,mid,su g1,g2,g3⟩),ar:=hm.ar,ah:=fun a A h hs p hp=>su (hm.ah a A h hs p hp),nd:=hm.nd,pO:=hm.pO,dS:=hm.dS,sD:=hm.sD,s0:=hm.s0,sn:=hm.sn,fr:=fun b h1 h2=>(by rw [hb.block b (by have:=hm.sz;omega)];exact hm.fr b h1 h2),sz:=Nat.le_trans hm.sz hb.size,os:=hb.os.trans hm.os,tp:=hb.tape.trans hm.tp,out:=hb.output.trans hm.out,pin:=hm.pin,bv:=fun o j u h=>(by obtain⟨h1,h2,wP,qE,h4,h5⟩:=hm.bv o j u h;exact⟨h1,h2,wP,qE,su h4,h5⟩),ap:=hm.ap,hv:=hm.hv,ds:=hm.ds,hh:=hm.hh}
theorem N9:∀{ts:List Ty},ts.all Ty.y9=true→ts.all Ty.xE=true
 |[],_=>rfl
 |t :: r,h=>by simp only [List.all_cons,Bool.and_eq_true] at h ⊢;exact⟨by cases t<;>simp_all [Ty.y9,Ty.xE],N9 h.2⟩
theorem C7{P:Program}{gt:Nat→Option GA}{f:FuncId}{ts rs:List Ty}{W:Type}{F:DL ts→Option W}{dec:W→DL rs}(hts:ts.all Ty.y9=true)(hrs:rs.all Ty.y9=true)(zL:∀ args w,(callFunc f args).run P w = .ok (.enter f args) w)
  (h:∀ d y w,mX gt (fun b=>w.heap[b]?)→F d=some y→Calls P f (Hr ts d).toArray w fun e w'=>e = .returned (FE (Hr rs (dec y)))∧Below w.heap.size w w'):zy P gt f (Ah ts rs F dec):=by
 intro R r X st G w dst args vs K KP hr ye hm _ ha;simp only [Ah,N9 hrs,cond_true] at hr;split at hr
 ·rename_i vw hs
  split at hr
  ·rename_i d hd
   obtain⟨y,hx,hr⟩:=Option.bind_eq_some_iff.1 hr;obtain⟨G1,m1,a1,k1⟩:=xP hs hm;have hdr:=Cy m1 hd (ha.imp fun a v h=>h.sub a1);have hv:=Oj hts hdr;subst hv;refine⟨zL _ _,(h d y w (ye.mono fun b o hb=>hm.sh b o (hm.s0 b o hb)) hx).mono fun e w' ⟨he,hb⟩=>?_⟩;subst he;exact⟨_,st,G,hm.ab1 hb,fun act ra=>ra,Kh (Oi hrs),hr⟩
  ·cases hr
 ·cases hr
end Go.Fx
namespace Go.Fx
open Go.RowKit (Below)
theorem aB.toBelow{S:Ce}{st:St}{G:Gh}{w w':World}(h:aB (QD S w) st G w'):Below w.heap.size w w':=
 ⟨h.os,h.tp,h.out,h.sz,fun k hk=>h.fr k hk (fun h=>h)⟩
theorem Sy{P:Program}{f:FuncId}{ts rs:List Ty}{W:Type}{F:DL ts→Option W}{dec:W→DL rs}{gt:Nat→Option GA}(hs:zy P gt f (Ah ts rs F dec))(hrs:rs.all Ty.y9=true){S:Ce}{w:World}(hS:∀ b o,S b=some o→w.heap[b]? = some o)(hg:mX gt S)
  {avs:List ae} {vs:List Value} {d:DL ts} {y:W} (hF:F d=some y) (hv:All2 (aT (ghD S)) avs vs) (dm:uy avs (stD 0 [] ())=some (stD 0 [] ())) (hgv:Nu (stD 0 [] ()) ts avs=some d):
  Calls P f vs.toArray w fun e w'=>e = .returned (FE (Hr rs (dec y)))∧Below w.heap.size w w':=by
 have it:(Ah ts rs F dec).run 0 avs (stD 0 [] ()) (fun av _=>some av) (fun _ _=>none)=some (RG rs (dec y)):=by simp [Ah,dm,hgv,hF]
 obtain⟨_,h⟩:=hs it hg (Tj hS 0 [] ()) ⟨{tmps:=#[],defers:=[]},rfl,rfl,fun i v h=>by cases h⟩ hv
 refine h.mono fun e w' he=>?_;cases e with
 |returned v=>
  obtain⟨av,st',G',h1,h2,h3,h4⟩:=he;cases h4;refine⟨?_,h1.toBelow⟩;have key:∀{rs:List Ty} {x:DL rs},rs.all Ty.y9=true→aT G' (RG rs x) v→v=FE (Hr rs x):=by
   intro rs x hrs hv
   match rs,x,hrs,hv with
   |[],x,_,hv=>obtain⟨us,e,h⟩:=hv;cases us with
    |nil=>exact e
    |cons _ _=>exact h.elim
   |[t],x,hrs,hv=>simp only [List.all_cons,Bool.and_eq_true] at hrs;exact(Aj hrs.1).1 hv
   |t :: t2 :: r,x,hrs,hv=>
    obtain⟨us,e,h⟩:=hv;have I8:∀{rs:List Ty} {x:DL rs} {us:List Value},rs.all Ty.y9=true→All2 (fun(p:Bool×List af) u=>if p.1=true then ∃ cs:List Value,u = .agg cs.toArray∧All2 (aX G') p.2 cs else ∃ l,p.2 = [l]∧aX G' l u) (ZD rs x) us→us=Hr rs x:=by
     intro rs;induction rs with
     |nil=>intro x us _ h;cases us with
      |nil=>rfl
      |cons _ _=>exact h.elim
     |cons t r ih=>
      intro x us hrs h;simp only [List.all_cons,Bool.and_eq_true] at hrs;cases us with
      |nil=>exact h.elim
      |cons u us=>
       have h1:=h.1;have ha:t.agg=false:=by cases t<;>simp [Ty.y9] at hrs<;>rfl
       simp only [ha,Bool.false_eq_true,if_false] at h1;obtain⟨l,e1,e2⟩:=h1;have hl:l = .eX t x.1:=by cases t<;>simp [Ty.y9] at hrs<;>(simp only [jJ,List.cons.injEq,and_true] at e1;exact e1.symm)
       subst hl;rw [(Aj hrs.1).1 e2,ih hrs.2 h.2];rfl
    rw [e,I8 hrs h];rfl
  rw [key hrs h3]
 |panicked Gm=>obtain⟨v,_,_,_,_,_,_,h⟩:=he;cases h
 |outgrown=>exact he.elim
end Go.Fx
namespace Go.Fx
def oN:Nat→List ae→List (Nat×ae)
 |_,[]=>[]
 |i,v :: r=>(i,v) :: oN (i + 1) r
def Bp(n:Nat)(args:List ae)(st:St):St:=⟨n,oN 0 args,st.b9,st.cI,[],st.cz,st.fL,st.pin,st.Dc⟩
def xF(b9:List (Nat×Nat))(st:St):Bool:=b9.all fun p=>match st.dJ p.1 with | some ls=>Nat.beq ls.length p.2 | none=>false
def Fu(o:Nat)(b9:List (Nat×Nat)):Bool:=eT o (b9.map (·.1))
def xD(L:pN):Bool:=
 L.b9.all (fun p=>Nat.blt p.1 10000) && nN (L.b9.map (·.1)) && nN ((L.cs ++ L.vs).map fun p=>p.1.key) &&
  (L.cs ++ L.vs).all (fun p=>match p.1 with | .l o _=>Fu o L.b9 | _=>true) &&
  L.cs.all (fun p=>match p.1 with | .l _ _=>true | _=>false)
def XH(pin:List Nat)(b:AL):Bool:=pin.all fun k=>(look b k).isSome
structure Yt(L:pN) where
 c:PV L.cs
 v:PV L.vs
 st:St
 a:AL
 b:AL
def Wl(L:pN)(args:List ae)(st:St):Option (Yt L):=
 match iB L.cs (Bp L.n args st) with
 |none=>none
 |some s=>(match iB L.vs s with
  |none=>none
  |some s=>(match kT s L.cs with
   |none=>none
   |some (c,a)=>(match kT s L.vs with
    |none=>none
    |some (v,b)=>(bif yU (a ++ b) && xF L.b9 s && xD L && Nat.ble args.length L.n && qOk L.vs s && XH L.pin b then some ⟨c,v,{st with cI:=s.cI},a,b⟩ else none))))
def M4(L:pN)(al:AL)(told:kI)(news:List (Nat×Nat×Nat))(s:St):Option (PV told):=
 match iB told s with
 |none=>none
 |some s=>(match kT s told with
  |none=>none
  |some (o,b)=>(bif uv s L.cs && yU (al ++ b) && xF L.b9 s && xF (news.map fun p=>(p.1,p.2.1)) s && qOk told s && Et L.pin b then some o else none))
def nmO(dst k:Nat):Nat:=(dst + 1) * 1000000000 + k
def GS:List (Nat×Nat×Nat)→Nat→Option Nat
 |[],_=>none
 |p :: r,o=>bif Nat.beq p.1 o then some p.2.2 else GS r o
def XZ(news:List (Nat×Nat×Nat)):af→af
 |.mT o off=>(match GS news o with | some k=>.mT k off | none=>.mT o off)
 |l=>l
def xR(dst:Nat)(pin:List Nat)(news:List (Nat×Nat×Nat))(p:Pl)(s:ml)(x:s.V):af:=bif eT p.key pin then .any else XZ news (s.bJ (nmO dst p.key) x)
def jc(dst:Nat)(pin:List Nat)(news:List (Nat×Nat×Nat)):(ps:kI)→PV ps→List (Nat×Nat×af)
 |[],_=>[]
 |(.l o j,s) :: r,v=>(o,j,xR dst pin news (.l o j) s v.1) :: jc dst pin news r v.2
 |(.r _,_) :: r,v=>jc dst pin news r v.2
 |(.q _ _,_) :: r,v=>jc dst pin news r v.2
def I1(dst:Nat)(pin:List Nat)(news:List (Nat×Nat×Nat)):(ps:kI)→PV ps→List (Nat×ae)
 |[],_=>[]
 |(.r i,s) :: r,v=>(i,.one (xR dst pin news (.r i) s v.1)) :: I1 dst pin news r v.2
 |(.l _ _,_) :: r,v=>I1 dst pin news r v.2
 |(.q _ _,_) :: r,v=>I1 dst pin news r v.2
def S9(dst:Nat)(pin:List Nat)(news:List (Nat×Nat×Nat)):(ps:kI)→PV ps→List (Nat×Nat×af)
 |[],_=>[]
 |(.q i j,s) :: r,v=>(i,j,xR dst pin news (.q i j) s v.1) :: S9 dst pin news r v.2
 |(.r _,_) :: r,v=>S9 dst pin news r v.2
 |(.l _ _,_) :: r,v=>S9 dst pin news r v.2
def Qn(dst:Nat)(pin:List Nat)(news:List (Nat×Nat×Nat))(ps:kI)(v:PV ps):List (Nat×ae):=I1 dst pin news ps v ++ (Vx ps ps).map fun p=>(p.1,.agg (qsh (S9 dst pin news ps v) p.1 0 p.2))
def qW(dst:Nat)(pin:List Nat):(ps:kI)→PV ps→List (Nat×jB)
 |[],_=>[]
 |(p,s) :: r,v=>(match s.arr v.1 with | some A=>(bif eT p.key pin then qW dst pin r v.2 else(nmO dst p.key,A) :: qW dst pin r v.2) | none=>qW dst pin r v.2)
def oB(pin:List Nat)(b:AL):(ps:kI)→PV ps→List (Nat×jB)
 |[],_=>[]
 |(p,s) :: r,v=>(match s.arr v.1 with | some A=>(bif eT p.key pin then(match look b p.key with | some (some a,_)=>(a,A) :: oB pin b r v.2 | _=>oB pin b r v.2) else oB pin b r v.2) | none=>oB pin b r v.2)
def vq(tl:List (Nat×Nat×af))(cs:kI)(o:Nat):Nat→List af→List af
 |_,[]=>[]
 |j,l :: r=>(match dV tl o j with | some x=>x | none=>bif yd o j cs then l else .any) :: vq tl cs o (j + 1) r
def JL(tl:List (Nat×Nat×af))(k:Nat):Nat→Nat→List af
 |_,0=>[]
 |j,n + 1=>(match dV tl k j with | some x=>x | none=>.any) :: JL tl k (j + 1) n
def ID(b:AL):List Nat:=b.filterMap (·.2.1)
def vo(pin:List Nat)(b:AL):AL:=b.filter fun e=>!eT e.1 pin
def Ct(pin:List Nat)(b:AL):AL:=b.filter fun e=>eT e.1 pin
def F9(dst:Nat)(L:pN)(told:kI)(o:PV told)(news:List (Nat×Nat×Nat))(a b:AL)(st:St):St:=
 {st with
  Dc:=(ID (a ++ Ct L.pin b)).map (fun k=>(k,st.dy k + 1)) ++ st.Dc
  b9:=(news.map fun p=>(p.2.2,JL (jc dst L.pin news told o) p.1 0 p.2.1)) ++ ((L.b9.map fun p=>(p.1,vq (jc dst L.pin news told o) L.cs p.1 0 ((st.dJ p.1).getD []))) ++ st.b9)
  cI:=qW dst L.pin told o ++ (oB L.pin b told o ++ kM (ID b) st.cI)}
def Mb:ae→Bool×List af
 |.one (.eX t d)=>(t.agg,jJ t d)
 |.one l=>(false,[l])
 |.agg ls=>(true,ls)
 |_=>(false,[.any])
def N4(l:List (Nat×ae))(i:Nat):ae:=match look l i with | some v=>v | none=>.one .any
def ac5(l:List (Nat×ae)):List Nat→ae
 |[i]=>N4 l i
 |is=>.I8 (is.map fun i=>Mb (N4 l i))
def TG(L:pN)(st:St):Bool:=
 L.b9.all fun p=>(List.range p.2).all fun j=>yd p.1 j L.cs ||(match (st.dJ p.1).bind (·[j]?) with | some .t6=>false | _=>true)
def OK(pin:List Nat)(b:AL)(st:St):Bool:=b.all fun e=>match e.2.1 with | some a=>(look st.fL a).isNone && (eT e.1 pin || !eT a st.pin) | none=>true
def Cv(dst:Nat)(L:pN)(told:kI)(o:PV told)(news:List (Nat×Nat×Nat))(st:St):Bool:=
 nN (told.map fun p=>p.1.key) && (qW dst L.pin told o).all (fun p=>(st.arr p.1).isNone && !st.cY true p.1) &&
  news.all (fun p=>(st.dJ p.2.2).isNone && !st.cY false p.2.2 && !Fu p.1 L.b9) && nN (news.map (·.1)) && nN (news.map (·.2.2)) &&
  told.all (fun p=>match p.1 with | .r _=>true | .q _ _=>true | .l q _=>!ZW p.1.key L.cs && (Fu q L.b9 || eT q (news.map (·.1)))) &&
  told.all (fun p=>match p.2 with | .lit (.mT q _)=>Fu q L.b9 || eT q (news.map (·.1)) | _=>true)
where
 ZW (k:Nat) (cs:kI):Bool:=eT k (cs.map fun p=>p.1.key)
abbrev DkO(W:Type):Type 1:=(R:Type)→W→((told:kI)→PV told→List (Nat×Nat×Nat)→List Nat→Option R)→(TypeId→List af→Option R)→Option R
def aau{W:Type}(dk:DkO W):Prop:=∀ x,(∃ told o news res,∀(R:Type) (f:(told:kI)→PV told→List (Nat×Nat×Nat)→List Nat→Option R) g,dk R x f g=f told o news res)∨
 ∃ T ls,∀(R:Type) (f:(told:kI)→PV told→List (Nat×Nat×Nat)→List Nat→Option R) g,dk R x f g=g T ls
def mF(L:pN){W:Type}(F:PV L.cs→PV L.vs→Option W)(dk:DkO W):iT where
 run dst args st K KP:=(match Wl L args st with
  |none=>none
  |some e=>(bif TG L e.st && OK L.pin e.b e.st then
    (F e.c e.v).bind fun x=>dk _ x (fun told o news res=>bif Cv dst L told o news e.st then K (ac5 (Qn dst L.pin news told o) res) (F9 dst L told o news e.a e.b e.st) else none)
     (fun T ls=>KP (.y5 T ls) (F9 dst L [] () [] e.a e.b e.st))
   else none))
 Ju args st:=(L.b9.flatMap fun p=>((List.range p.2).filter fun j=>!yd p.1 j L.cs).map fun j=>pD.o p.1 j 1) ++
  ((L.b9.flatMap fun p=>match st.dJ p.1 with | some ls=>fJ (st.jO p.1 0 ls) | none=>[]) ++ mV args)
theorem R1(L:pN){W:Type}(F:PV L.cs→PV L.vs→Option W)(dk:DkO W)(hdk:aau dk):oL (mF L F dk):=by
 intro R dst args st K KP;simp only [mF];split
 ·rfl
 ·refine da (fG fun x=>?_) rfl
  rcases hdk x with ⟨told,o,news,res,h⟩ |⟨T,ls,h⟩
  ·rw [h,h];exact da rfl rfl
  ·rw [h,h];rfl
end Go.Fx
namespace Go.Fx
structure yh(st s:St):Prop where
 iH:j0 st s
 et:s.et=st.et
 b9:s.b9=st.b9
 Dc:s.Dc=st.Dc
theorem yh.refl(st:St):yh st st:=⟨.refl _,rfl,rfl,rfl⟩
theorem yh.trans{a b c:St}(h:yh a b)(k:yh b c):yh a c:=⟨h.iH.trans k.iH,k.et.trans h.et,k.b9.trans h.b9,k.Dc.trans h.Dc⟩
theorem yh.at{st s:St}(h:yh st s)(p:Pl):s.at p=st.at p:=by
 have hr:∀ i,s.ib i=st.ib i:=fun i=>by simp only [St.ib,h.et,h.iH.2.1]
 have ho:∀ o,s.dJ o=st.dJ o:=fun o=>by simp only [St.dJ,h.b9]
 have zO:∀ o j l,s.res o j l=st.res o j l:=fun o j l=>by cases l<;>simp [St.res,h.iH.2.2.1]
 cases p with
 |r i=>simp only [St.at,St.tB,hr]
 |q i j=>simp only [St.at,St.tB,hr]
 |l o j=>simp only [St.at,ho,zO]
theorem Hj{st s:St}{l:af}(h:st.xN l=some s):yh st s:=by
 unfold St.xN at h;split at h
 ·split at h
  ·rename_i A _
   cases hs:A.sh with
   |true=>simp only [hs,cond_true,Option.some.injEq] at h;subst h;exact .refl _
   |false=>
    cases hw:A.oW with
    |false=>simp [hs,hw] at h
    |true=>simp only [hs,hw,cond_false,cond_true,Option.some.injEq] at h;subst h;exact⟨⟨rfl,rfl,rfl,rfl⟩,rfl,rfl,rfl⟩
  ·split at h
   ·rename_i A _
    cases hs:A.sh<;>simp [hs] at h;subst h;exact .refl _
   ·cases h
 ·cases h;exact .refl _
theorem AX:∀{ls:List af} {st s:St},st.um ls=some s→yh st s
 |[],st,s,h=>by cases h;exact .refl _
 |l :: r,st,s,h=>by
  simp only [St.um] at h;split at h
  ·rename_i q hq;exact(Hj hq).trans (AX h)
  ·cases h
theorem Hk{st s:St}{v:ae}(h:v.qd st=some s):yh st s:=by
 unfold ae.qd at h;split at h
 ·exact Hj h
 ·exact AX h
 ·cases h
 ·exact AX h
theorem qc:∀{ps:kI} {st s:St},iB ps st=some s→yh st s
 |[],st,s,h=>by simp only [iB,Option.some.injEq] at h;subst h;exact .refl _
 |(p,sp) :: r,st,s,h=>by
  cases sp with
  |d t=>
   simp only [iB] at h;split at h
   ·rename_i q hq;exact(Hk hq).trans (qc h)
   ·cases h
  |_=>exact qc (ps:=r) h
theorem wj{W:List pD}:∀{ps:kI} {st s:St},iB ps st=some s→(∀ p∈ps,∀ q∈(st.at p.1).sR,q∈W)→qn W st s
 |[],st,s,h,_=>by simp only [iB,Option.some.injEq] at h;subst h;exact .refl _ _
 |(p,sp) :: r,st,s,h,hW=>by
  have tail:∀{s1:St},yh st s1→∀ p∈r,∀ q∈(s1.at p.1).sR,q∈W:=fun ha p hp q hq=>hW p (List.mem_cons_of_mem _ hp) q (by rw [←ha.at];exact hq)
  cases sp with
  |d t=>
   simp only [iB] at h;split at h
   ·rename_i s1 h1
    exact((un h1).mono fun q hq=>hW _ (List.mem_cons_self ..) q hq).trans (wj h (tail (Hk h1)))
   ·cases h
  |_=>exact wj (ps:=r) h (tail (.refl st))
theorem FD{s:St}{p:Pl}{sp:ml}{x:sp.V}{b:AL}(h:yJ s p sp=some (x,b)):∀ nm jH A,(nm,jH,A)∈b→nm=p.key∧sp.arr x=some A∧(match jH with | some a=>s.at p = .one (.mq a) | none=>s.at p = .one .nil):=by
 cases sp with
 |any=>simp only [yJ,Option.some.injEq,Prod.mk.injEq] at h;obtain⟨_,rfl⟩:=h;intro _ _ _ hm;cases hm
 |d t=>
  simp only [yJ] at h;split at h
  ·simp only [Option.some.injEq,Prod.mk.injEq] at h;obtain⟨_,rfl⟩:=h;intro _ _ _ hm;cases hm
  ·cases h
 |lit l=>
  simp only [yJ] at h;split at h
  ·rename_i l' _
   cases he:uW l l'<;>simp [he] at h;subst h;intro _ _ _ hm;cases hm
  ·cases h
 |h m t=>
  simp only [yJ] at h;split at h
  ·rename_i ub
   cases hw:m.PB with
   |false=>simp [hw] at h
   |true=>simp only [hw,cond_true,Option.some.injEq,Prod.mk.injEq] at h;obtain⟨rfl,rfl⟩:=h;intro nm jH A hm;simp only [List.mem_singleton,Prod.mk.injEq] at hm;obtain⟨rfl,rfl,rfl⟩:=hm;exact⟨rfl,rfl,ub⟩
  ·rename_i a ub
   split at h
   ·rename_i A hA
    cases hs:(A.sh || !m.kX A.md) with
    |true=>simp [hs] at h
    |false=>
     simp only [hs,cond_false] at h;split at h
     ·simp only [Option.some.injEq,Prod.mk.injEq] at h
      obtain⟨rfl,rfl⟩:=h;intro nm jH B hm;simp only [List.mem_singleton,Prod.mk.injEq] at hm;obtain⟨rfl,rfl,rfl⟩:=hm;exact⟨rfl,rfl,ub⟩
     ·cases h
   ·cases h
  ·cases h
theorem CZ{s:St}:∀{ps:kI} {v:PV ps} {b:AL},kT s ps=some (v,b)→∀ nm jH A,(nm,jH,A)∈b→∃ p∈ps,nm=p.1.key∧(∃ m t,p.2 = .h m t)∧(match jH with | some a=>s.at p.1 = .one (.mq a) | none=>s.at p.1 = .one .nil)
 |[],v,b,h,nm,jH,A,hm=>by simp only [kT,Option.some.injEq,Prod.mk.injEq] at h;obtain⟨_,rfl⟩:=h;cases hm
 |(p,sp) :: r,v,b,h,nm,jH,A,hm=>by
  simp only [kT] at h;split at h
  ·rename_i x a1 h1
   split at h
   ·rename_i xs b1 h2
    simp only [Option.some.injEq,Prod.mk.injEq] at h;obtain⟨_,rfl⟩:=h;rcases List.mem_append.1 hm with hm | hm
    ·obtain⟨e1,e2,e3⟩:=FD h1 nm jH A hm
     exact⟨(p,sp),List.mem_cons_self ..,e1,(zA e2).2,e3⟩
    ·obtain⟨q,hq,e⟩:=CZ h2 nm jH A hm
     exact⟨q,List.mem_cons_of_mem _ hq,e⟩
   ·cases h
  ·cases h
theorem td{α β:Type}{f:Nat×α→β}:∀{l:List (Nat×α)} {o:Nat} {x:α},(l.map (·.1)).Nodup→(o,x)∈l→look (l.map fun p=>(p.1,f p)) o=some (f (o,x))
 |p :: r,o,x,hn,h=>by
  simp only [List.map_cons,aw];rw [List.map_cons,List.nodup_cons] at hn;by_cases e:p.1=o
  ·rcases List.mem_cons.1 h with h | h
   ·rw [if_pos e,←h]
   ·exact absurd (List.mem_map_of_mem (f:=(·.1)) h) (by rw [←e];exact hn.1)
  ·rw [if_neg e]
   rcases List.mem_cons.1 h with h | h
   ·exact absurd (by rw [←h]) e
   ·exact td hn.2 h
theorem Ip{α:Type}:∀{l:List (Nat×α)} {o:Nat},o∉l.map (·.1)→look l o=none
 |[],o,_=>rfl
 |(k,v) :: r,o,h=>by rw [aw];simp only [List.map_cons,List.mem_cons,not_or] at h;rw [if_neg (fun e=>h.1 e.symm)];exact Ip h.2
theorem CM:∀{b:List Nat} {l:List (Nat×jB)} {a:Nat},look (kM b l) a=if a∈b then none else look l a
 |[],l,a=>by simp [kM]
 |x :: r,l,a=>by
  simp only [kM,CM (b:=r),pZ,List.mem_cons];by_cases h1:a∈r
  ·simp [h1]
  ·by_cases h2:a=x
   ·subst h2;simp [h1]
   ·simp [h1,h2,eq_comm (a:=x)]
theorem y7{tl:List (Nat×Nat×af)}{cs:kI}{o:Nat}:∀{ls:List af} {j:Nat},(vq tl cs o j ls).length=ls.length
 |[],j=>rfl
 |l :: r,j=>by simp [vq,y7 (ls:=r)]
theorem AQ{tl:List (Nat×Nat×af)}{cs:kI}{o:Nat}:∀{ls:List af} {i j:Nat},(vq tl cs o i ls)[j]? = (ls[j]?).map fun l=>(match dV tl o (i + j) with | some x=>x | none=>bif yd o (i + j) cs then l else .any)
 |[],i,j=>by simp [vq]
 |l :: r,i,0=>by simp [vq]<;>rfl
 |l :: r,i,j + 1=>by simp only [vq,List.getElem?_cons_succ];rw [AQ (ls:=r),show i + 1 + j=i + (j + 1) by omega]
theorem CQ{tl:List (Nat×Nat×af)}{k:Nat}:∀{n j:Nat},(JL tl k j n).length=n
 |0,j=>rfl
 |n + 1,j=>by simp [JL,CQ (n:=n)]
theorem Rn{tl:List (Nat×Nat×af)}{k:Nat}:∀{n i j:Nat},j < n→(JL tl k i n)[j]? = some (match dV tl k (i + j) with | some x=>x | none=>.any)
 |n + 1,i,0,_=>by simp [JL]<;>rfl
 |n + 1,i,j + 1,h=>by simp only [JL,List.getElem?_cons_succ];rw [Rn (n:=n) (by omega),show i + 1 + j=i + (j + 1) by omega]
theorem CA{o j:Nat}:∀{ps:kI},yd o j ps=true↔∃ s,(Pl.l o j,s)∈ps
 |[]=>by simp [yd]
 |(.r i,s) :: r=>by simp only [yd,CA (ps:=r),List.mem_cons,Prod.mk.injEq,reduceCtorEq,false_and,false_or]
 |(.q i k,s) :: r=>by simp only [yd,CA (ps:=r),List.mem_cons,Prod.mk.injEq,reduceCtorEq,false_and,false_or]
 |(.l o' j',s) :: r=>by
  simp only [yd,Bool.or_eq_true,Bool.and_eq_true,CA (ps:=r),List.mem_cons,Prod.mk.injEq,Pl.l.injEq];constructor
  ·rintro(⟨h1,h2⟩ |⟨x,h⟩)
   ·exact⟨s,.inl ⟨⟨(Nat.eq_of_beq_eq_true h1).symm,(Nat.eq_of_beq_eq_true h2).symm⟩,rfl⟩⟩
   ·exact⟨x,.inr h⟩
  ·rintro⟨x,⟨⟨rfl,rfl⟩,_⟩ | h⟩
   ·exact .inl ⟨by simp,by simp⟩
   ·exact .inr ⟨x,h⟩
theorem uU{dst:Nat}{pin:List Nat}{news:List (Nat×Nat×Nat)}:∀{ps:kI} {v:PV ps} {o j:Nat} {lf:af},dV (jc dst pin news ps v) o j=some lf→∃ s,(Pl.l o j,s)∈ps
 |[],v,o,j,lf,h=>by cases h
 |(.r i,s) :: r,v,o,j,lf,h=>by obtain⟨x,hx⟩:=uU (ps:=r) (v:=v.2) h;exact⟨x,List.mem_cons_of_mem _ hx⟩
 |(.q i k,s) :: r,v,o,j,lf,h=>by obtain⟨x,hx⟩:=uU (ps:=r) (v:=v.2) h;exact⟨x,List.mem_cons_of_mem _ hx⟩
 |(.l o' j',s) :: r,v,o,j,lf,h=>by
  simp only [jc,dV] at h;cases hb:(Nat.beq o' o && Nat.beq j' j) with
  |true=>simp only [Bool.and_eq_true] at hb;rw [Nat.eq_of_beq_eq_true hb.1,Nat.eq_of_beq_eq_true hb.2];exact⟨s,List.mem_cons_self ..⟩
  |false=>simp only [hb,cond_false] at h;obtain⟨x,hx⟩:=uU (ps:=r) (v:=v.2) h;exact⟨x,List.mem_cons_of_mem _ hx⟩
theorem Ch:∀{l:List ae} {i k:Nat} {v:ae},look (oN i l) k=some v→v∈l
 |x :: r,i,k,v,h=>by
  simp only [oN,aw] at h;by_cases e:i=k
  ·simp only [e,if_true,Option.some.injEq] at h;subst h;exact List.mem_cons_self ..
  ·simp only [e,if_false] at h;exact List.mem_cons_of_mem _ (Ch h)
theorem Ib{q:pD}{v:ae}:∀{l:List ae},v∈l→q∈v.sR→q∈mV l
 |x :: r,h,hq=>by
  rcases List.mem_cons.1 h with rfl | h
  ·exact List.mem_append_left _ hq
  ·exact List.mem_append_right _ (Ib h hq)
end Go.Fx
namespace Go.Fx
section
variable {L:pN} {args:List ae} {st:St} {e:Yt L}
structure Dd(L:pN)(args:List ae)(st:St)(e:Yt L)(s1 s:St):Prop where
 sc:iB L.cs (Bp L.n args st)=some s1
 sv:iB L.vs s1=some s
 rc:kT s L.cs=some (e.c,e.a)
 rv:kT s L.vs=some (e.v,e.b)
 al:yU (e.a ++ e.b)=true
 ob:xF L.b9 s=true
 MJ:xD L=true
 len:args.length≤L.n
 q:qOk L.vs s=true
 pin:XH L.pin e.b=true
 st':e.st = {st with cI:=s.cI}
 yo:yh (Bp L.n args st) s
theorem TQ(h:Wl L args st=some e):∃ s1 s,Dd L args st e s1 s:=by
 unfold Wl at h;split at h
 ·cases h
 ·rename_i s1 h1
  split at h
  ·cases h
  ·rename_i s h2
   split at h
   ·cases h
   ·rename_i c a h3
    split at h
    ·cases h
    ·rename_i v b h4
     cases hb:(yU (a ++ b) && xF L.b9 s && xD L && Nat.ble args.length L.n && qOk L.vs s && XH L.pin b) with
     |false=>simp [hb] at h
     |true=>simp only [hb,cond_true,Option.some.injEq] at h;subst h;simp only [Bool.and_eq_true] at hb;exact⟨s1,s,h1,h2,h3,h4,hb.1.1.1.1.1,hb.1.1.1.1.2,hb.1.1.1.2,Nat.le_of_ble_eq_true hb.1.1.2,hb.1.2,hb.2,rfl,(qc h1).trans (qc h2)⟩
theorem T8(h:xD L=true){p:Pl×ml}(hp:p∈L.cs ++ L.vs){o j:Nat}(ho:p.1 = .l o j):o∈L.b9.map (·.1):=by simp only [xD,Bool.and_eq_true,List.all_eq_true] at h;have:=h.1.2 p hp;rw [ho] at this;exact gE.1 this
theorem Pd(h:xD L=true){p:Nat×Nat}(hp:p∈L.b9):p.1 < 10000:=by simp only [xD,Bool.and_eq_true,List.all_eq_true] at h;have:=h.1.1.1.1 p hp;simpa [Nat.blt_eq] using this
theorem Ik(h:xD L=true):(L.b9.map (·.1)).Nodup:=by simp only [xD,Bool.and_eq_true] at h;exact eB h.1.1.1.2
theorem acW(h:xD L=true):((L.cs ++ L.vs).map fun p=>p.1.key).Nodup:=by simp only [xD,Bool.and_eq_true] at h;exact eB h.1.1.2
theorem oo{b9:List (Nat×Nat)}{s:St}(h:xF b9 s=true){p:Nat×Nat}(hp:p∈b9):∃ ls,s.dJ p.1=some ls∧ls.length=p.2:=by
 have:=List.all_eq_true.1 h p hp;split at this
 ·rename_i ls hl;exact⟨ls,hl,Nat.eq_of_beq_eq_true this⟩
 ·cases this
theorem X4{st:St}{o:Nat}:∀{ls:List af} {i j:Nat} {l:af},ls[j]? = some l→st.res o (i + j) l∈st.jO o i ls:=fun {ls i j l} h=>by refine List.mem_of_getElem? (i:=j) ?_;rw [rq,h];rfl
theorem Lb{q:pD}{l:af}:∀{R:List af},l∈R→q∈fJ [l]→q∈fJ R
 |x :: r,hl,hq=>by
  rcases List.mem_cons.1 hl with rfl | hl
  ·cases l<;>simp only [fJ,List.not_mem_nil] at hq<;>simp only [List.mem_singleton] at hq<;>subst hq<;>exact List.mem_cons_self ..
  ·have:=Lb hl hq
   cases x<;>simp only [fJ]<;>first | exact this | exact List.mem_cons_of_mem _ this
theorem JZ{W:Type}{F:PV L.cs→PV L.vs→Option W}{dk:DkO W}(hl:xD L=true){p:Pl×ml}(hp:p∈L.cs ++ L.vs){q:pD}(hq:q∈((Bp L.n args st).at p.1).sR):q∈(mF L F dk).Ju args st:=by
 obtain⟨pl,sp⟩:=p;simp only [mF];refine List.mem_append_right _ ?_;cases pl with
 |r i=>
  refine List.mem_append_right _ ?_;simp only [St.at,St.tB,St.ib,Bp] at hq;cases hr:look (oN 0 args) i with
  |none=>rw [hr] at hq;simp [look,ae.sR,fJ] at hq
  |some v=>rw [hr] at hq;exact Ib (Ch hr) hq
 |q i j=>
  refine List.mem_append_right _ ?_;simp only [St.at,St.tB,St.ib,Bp] at hq;cases hr:look (oN 0 args) i with
  |none=>rw [hr] at hq;simp [look,ae.qls,ae.isAgg,ae.sR,fJ] at hq
  |some v=>
   rw [hr] at hq;simp only at hq;cases hv:v.qls with
   |none=>rw [hv] at hq;simp [ae.sR,fJ] at hq
   |some ls=>
    rw [hv] at hq;simp only at hq;cases hj:ls[j]? with
    |none=>rw [hj] at hq;simp [ae.sR,fJ] at hq
    |some l=>
     rw [hj] at hq;refine Ib (Ch hr) ?_;have hql:q∈fJ ls:=by have:q∈fJ [l]:=hq;have hm:=List.mem_of_getElem? hj;exact Lb hm this
     unfold ae.qls at hv;cases hi:v.isAgg with
     |false=>rw [hi] at hv;cases hv
     |true=>rw [hi,cond_true] at hv;exact CB hv q hql
 |l o j=>
  refine List.mem_append_left _ ?_;have ho:=T8 hl hp rfl;obtain⟨⟨o',n⟩,gT,rfl⟩:=List.mem_map.1 ho;refine List.mem_flatMap.2 ⟨(o',n),gT,?_⟩;simp only [St.at,St.dJ,Bp] at hq;have GD:look st.b9 o' = st.dJ o':=rfl;simp only at hq ⊢;rw [GD] at hq;cases wa:st.dJ o' with
  |none=>rw [wa] at hq;simp [ae.sR,fJ] at hq
  |some ls=>
   rw [wa] at hq;simp only at hq ⊢;cases hj:ls[j]? with
   |none=>rw [hj] at hq;simp [ae.sR,fJ] at hq
   |some l=>
    rw [hj] at hq;have zO:(Bp L.n args st).res o' j l=st.res o' j l:=by cases l<;>rfl
    have hm:=X4 (st:=st) (o:=o') (i:=0) hj;rw [Nat.zero_add] at hm;generalize st.jO o' 0 ls=R at hm;have hq:q∈fJ [st.res o' j l]:=by have:q∈(ae.one ((Bp L.n args st).res o' j l)).sR:=hq;rw [zO] at this;exact this
    exact Lb hm hq
theorem abo{news:List (Nat×Nat×Nat)}{o:Nat}(h:o∉news.map (·.1)):GS news o=none:=by
 induction news with
 |nil=>rfl
 |cons p r ih=>simp only [List.map_cons,List.mem_cons,not_or] at h;simp only [GS,ug (Ne.symm h.1),cond_false];exact ih h.2
theorem Cw{dst:Nat}{told:kI}{o:PV told}{news:List (Nat×Nat×Nat)}{s:St}(h:Cv dst L told o news s=true):
  (told.map fun p=>p.1.key).Nodup∧(∀ p∈qW dst L.pin told o,s.arr p.1=none∧s.cY true p.1=false)∧(∀ p∈news,s.dJ p.2.2=none∧s.cY false p.2.2=false∧p.1∉L.b9.map (·.1))∧
   (news.map (·.1)).Nodup∧(news.map (·.2.2)).Nodup∧(∀ p∈told,∀ q j,p.1 = .l q j→(∀ c∈L.cs,c.1.key≠p.1.key)∧(q∈L.b9.map (·.1)∨q∈news.map (·.1)))∧
   (∀ p∈told,∀ q off,p.2 = .lit (.mT q off)→q∈L.b9.map (·.1)∨q∈news.map (·.1)):=by
 simp only [Cv,Bool.and_eq_true,List.all_eq_true] at h;obtain⟨⟨⟨⟨⟨⟨h1,h2⟩,h3⟩,h4⟩,h5⟩,h6⟩,h7⟩:=h;refine⟨eB h1,fun p hp=>?_,fun p hp=>?_,eB h4,eB h5,fun p hp q j e=>?_,fun p hp q off e=>?_⟩
 ·have:=h2 p hp;simpa using this
 ·have:=h3 p hp
  simp only [Bool.not_eq_true',Fu] at this;refine⟨by simpa using this.1.1,this.1.2,fun hm=>?_⟩
  rw [gE.2 hm] at this;cases this.2
 ·have:=h6 p hp
  rw [e] at this;simp only [Bool.and_eq_true,Bool.not_eq_true',Bool.or_eq_true,Cv.ZW,Fu] at this;refine⟨fun c hc e2=>?_,this.2.imp gE.1 gE.1⟩;have hm:eT p.1.key (L.cs.map fun p=>p.1.key)=true:=gE.2 (by rw [←e2];exact List.mem_map_of_mem hc)
  rw [e] at hm;rw [hm] at this;cases this.1
 ·have:=h7 p hp
  rw [e] at this;simp only [Bool.or_eq_true,Fu] at this;exact this.imp gE.1 gE.1
theorem TB{dst:Nat}{told:kI}{o:PV told}{news:List (Nat×Nat×Nat)}{a b:AL}{s:St}(hn:(L.b9.map (·.1)).Nodup)(MF:xF L.b9 s=true)(hf:∀ p∈news,s.dJ p.2.2=none)(hnn:(news.map (·.2.2)).Nodup)(q:Nat):
  (∃ k n,(k,n,q)∈news∧(F9 dst L told o news a b s).dJ q=some (JL (jc dst L.pin news told o) k 0 n))∨
  (q∉news.map (·.2.2)∧((∃ n ls,(q,n)∈L.b9∧s.dJ q=some ls∧(F9 dst L told o news a b s).dJ q=some (vq (jc dst L.pin news told o) L.cs q 0 ls))∨
   (q∉L.b9.map (·.1)∧(F9 dst L told o news a b s).dJ q=s.dJ q))):=by
 have e1:(F9 dst L told o news a b s).dJ q=look ((news.map fun p=>(p.2.2,JL (jc dst L.pin news told o) p.1 0 p.2.1)) ++ ((L.b9.map fun p=>(p.1,vq (jc dst L.pin news told o) L.cs p.1 0 ((s.dJ p.1).getD []))) ++ s.b9)) q:=rfl;rw [e1,ij,ij];by_cases h:q∈news.map (·.2.2)
 ·obtain⟨⟨k,n,q'⟩,hm,rfl⟩:=List.mem_map.1 h
  refine .inl ⟨k,n,hm,?_⟩;have key:∀{Ro:List (Nat×Nat×Nat)} {k n q:Nat},(Ro.map (·.2.2)).Nodup→(k,n,q)∈Ro→look (Ro.map fun p=>(p.2.2,JL (jc dst L.pin news told o) p.1 0 p.2.1)) q=some (JL (jc dst L.pin news told o) k 0 n):=by
   intro Ro;induction Ro with
   |nil=>intro k n q _ h;cases h
   |cons p r ih=>
    intro k n q hn h;rw [List.map_cons,List.nodup_cons] at hn;simp only [List.map_cons,aw];rcases List.mem_cons.1 h with rfl | h
    ·simp
    ·rw [if_neg (fun e=>hn.1 (by rw [e];exact List.mem_map_of_mem (f:=(·.2.2)) h)),ih hn.2 h]
  rw [key hnn hm]
 ·have h0:look (news.map fun p=>(p.2.2,JL (jc dst L.pin news told o) p.1 0 p.2.1)) q=none:=Ip (by simpa [List.map_map] using h)
  rw [h0];refine .inr ⟨h,?_⟩;by_cases h2:q∈L.b9.map (·.1)
  ·obtain⟨⟨q',n⟩,hm,rfl⟩:=List.mem_map.1 h2
   obtain⟨ls,hl,_⟩:=oo MF hm;refine .inl ⟨n,ls,hm,hl,?_⟩;rw [td (f:=fun p=>vq (jc dst L.pin news told o) L.cs p.1 0 ((s.dJ p.1).getD [])) hn hm,hl];rfl
  ·have h3:look (L.b9.map fun p=>(p.1,vq (jc dst L.pin news told o) L.cs p.1 0 ((s.dJ p.1).getD []))) q=none:=Ip (by simpa [List.map_map,Function.comp_def] using h2)
   rw [h3];exact .inr ⟨h2,rfl⟩
theorem NM(st:St)(q:Nat):∀(ks:List Nat),(match look (ks.map (fun k=>(k,st.dy k + 1)) ++ st.Dc) q with | some v=>v | none=>0)=if q∈ks then st.dy q + 1 else st.dy q
 |[]=>rfl
 |k :: r=>by
  rw [List.map_cons,List.cons_append,aw];by_cases e:k=q
  ·subst e;simp
  ·rw [if_neg e,NM st q r]
   have:(q∈k :: r)↔q∈r:=⟨fun h=>(List.mem_cons.1 h).resolve_left (fun h=>e h.symm),List.mem_cons_of_mem _⟩;simp only [this]
theorem TC{dst:Nat}{told:kI}{o:PV told}{news:List (Nat×Nat×Nat)}{a b:AL}{s:St}(q:Nat):
 (F9 dst L told o news a b s).dy q=if q∈ID (a ++ Ct L.pin b) then s.dy q + 1 else s.dy q:=NM s q _
theorem zB{pin:List Nat}{b:AL}:∀{ps:kI} {v:PV ps} {a:Nat} {A:jB},look (oB pin b ps v) a=some A→∃ nm C,(nm,some a,C)∈b
 |[],v,a,A,h=>by cases h
 |(p,s) :: r,v,a,A,h=>by
  simp only [oB] at h;split at h
  ·cases hm:eT p.key pin with
   |false=>rw [hm,cond_false] at h;exact zB (ps:=r) h
   |true=>
    rw [hm,cond_true] at h;split at h
    ·rename_i x C hl
     rw [aw] at h;by_cases e:x=a
     ·subst e;exact⟨_,_,dT hl⟩
     ·rw [if_neg e] at h;exact zB (ps:=r) h
    ·exact zB (ps:=r) h
  ·exact zB (ps:=r) h
theorem Oa(L:pN){W:Type}(F:PV L.cs→PV L.vs→Option W)(dk:DkO W)(hdk:aau dk):mO (mF L F dk):=by
 intro R dst args st K K' KP KP' hK hP;simp only [mF];cases he:Wl L args st with
 |none=>rfl
 |some e=>
  obtain⟨s1,s,E⟩:=TQ he;simp only;refine t8 (fun hc=>dQ fun x=>?_) (fun _=>rfl);have TY:j0 st e.st:=by rw [E.st'];exact⟨rfl,rfl,rfl,by have:=E.yo.iH.2.2.2;exact rfl⟩
  rcases hdk x with ⟨told,o,news,res,h⟩ |⟨T,ls,h⟩
  ·rw [h,h]
   refine t8 (fun hf=>hK _ _ ?_) (fun _=>rfl);obtain⟨f1,f2,f3,f4,f5,f6,_⟩:=Cw hf;have hW:∀ p∈L.cs ++ L.vs,∀ q∈((Bp L.n args st).at p.1).sR,q∈(mF L F dk).Ju args st:=fun p hp q hq=>JZ E.MJ hp hq;have u0:qn ((mF L F dk).Ju args st) (Bp L.n args st) s:=
    (wj E.sc fun p hp=>hW p (List.mem_append_left _ hp)).trans (wj E.sv fun p hp q hq=>hW p (List.mem_append_right _ hp) q (by rw [←(qc E.sc).at];exact hq))
   have K7:∀ a,e.st.arr a=s.arr a:=fun a=>by rw [E.st'];simp only [St.arr,(Prod.mk.inj E.yo.iH.2.2.2).1];rfl
   have CE:∀ q,e.st.dJ q=st.dJ q:=fun q=>by rw [E.st'];rfl
   have MF:xF L.b9 e.st=true:=by
    have:∀ q,e.st.dJ q=s.dJ q:=fun q=>by rw [CE];simp only [St.dJ,E.yo.b9];rfl
    have:=E.ob;unfold xF at this ⊢;rw [←this]
    congr 1
    funext p
    rw [show e.st.dJ p.1=s.dJ p.1 from ‹∀ q,e.st.dJ q=s.dJ q› p.1]
   refine⟨TY,?_,fun q ls hq _ _=>?_,fun a A hA hn fj=>?_,fun a hn _=>?_⟩
   ·show e.st.et=st.et;rw [E.st']
   ·rcases TB (dst:=dst) (told:=told) (o:=o) (news:=news) (a:=e.a) (b:=e.b) (Ik E.MJ) MF (fun p hp=>(f3 p hp).1) f5 q with ⟨k,n,hm,_⟩ |⟨_,⟨n,wd,hm,hl,e2⟩ |⟨_,e2⟩⟩
    ·have:=(f3 _ hm).1
     rw [CE,hq] at this;cases this
    ·rw [CE,hq] at hl
     cases hl;refine⟨_,e2,y7,fun j hj=>?_⟩;rw [AQ,Nat.zero_add];cases hlj:ls[j]? with
     |none=>rfl
     |some l=>
      have hjn:j < n:=by obtain⟨ls2,h1,h2⟩:=oo MF hm;rw [CE,hq] at h1;cases h1;have:=(List.getElem?_eq_some_iff.1 hlj).1;simp only at h2;omega
      have hc:yd q j L.cs=true:=by
       cases hh:yd q j L.cs with
       |true=>rfl
       |false=>exact absurd ⟨rfl,Nat.le_refl _,Nat.lt_succ_self _⟩ (hj (.o q j 1) (List.mem_append_left _ (List.mem_flatMap.2 ⟨(q,n),hm,List.mem_map.2 ⟨j,List.mem_filter.2 ⟨List.mem_range.2 hjn,by simp [hh]⟩,rfl⟩⟩)))
      have ht:dV (jc dst L.pin news told o) q j=none:=by
       cases hh:dV (jc dst L.pin news told o) q j with
       |none=>rfl
       |some x=>obtain⟨sp,hsp⟩:=uU hh;obtain⟨sc,hsc⟩:=CA.1 hc;exact absurd (rfl:(Pl.l q j).key=(Pl.l q j).key) ((f6 (Pl.l q j,sp) hsp q j rfl).1 (Pl.l q j,sc) hsc)
      simp [ht,hc]
    ·exact⟨ls,by rw [e2,CE];exact hq,rfl,fun _ _=>rfl⟩
   ·have h1:e.st.arr a=some A:=by
     rw [K7];exact u0.arr a A hA hn fj
    have hns:a∉ID e.b:=fun hs=>hn (by
     obtain⟨⟨nm,jH,B⟩,hm,QY⟩:=List.mem_filterMap.1 hs;simp only at QY;subst QY;obtain⟨p,hp,_,_,ub⟩:=CZ E.rv nm _ B hm;exact JZ E.MJ (List.mem_append_right _ hp) (by rw [←E.yo.at,ub];simp [ae.sR,fJ]))
    have hnb:look (oB L.pin e.b told o) a=none:=by
     cases hl:look (oB L.pin e.b told o) a with
     |none=>rfl
     |some B=>obtain⟨nm,C,hm⟩:=zB hl;exact absurd (show a∈ID e.b from List.mem_filterMap.2 ⟨_,hm,rfl⟩) hns
    have hnt:look (qW dst L.pin told o) a=none:=by
     cases hl:look (qW dst L.pin told o) a with
     |none=>rfl
     |some B=>have:=(f2 _ (dT hl)).1;rw [h1] at this;cases this
    have e1:(F9 dst L told o news e.a e.b e.st).arr a=(match look (qW dst L.pin told o ++ (oB L.pin e.b told o ++ kM (ID e.b) e.st.cI)) a with | some v=>some v | none=>look e.st.fL a):=rfl
    rw [e1,ij,hnt,ij,hnb,CM,if_neg hns];exact h1
   ·rw [TC,if_neg ?_]
    ·rw [E.st'];rfl
    ·intro hs
     obtain⟨⟨nm,jH,B⟩,hm,QY⟩:=List.mem_filterMap.1 hs;simp only at QY;subst QY;rcases List.mem_append.1 hm with hm | hm
     ·obtain⟨p,hp,_,_,ub⟩:=CZ E.rc nm _ B hm
      exact hn (JZ E.MJ (List.mem_append_left _ hp) (by rw [←E.yo.at,ub];simp [ae.sR,fJ]))
     ·obtain⟨p,hp,_,_,ub⟩:=CZ E.rv nm _ B (List.mem_filter.1 hm).1
      exact hn (JZ E.MJ (List.mem_append_right _ hp) (by rw [←E.yo.at,ub];simp [ae.sR,fJ]))
  ·rw [h,h]
   exact hP _ _ TY
end
end Go.Fx
namespace Go.Fx
theorem p6{pin:List Nat}{b:AL}{e:Nat×Option Nat×jB}:e∈vo pin b↔e∈b∧eT e.1 pin=false:=by simp [vo,List.mem_filter]
theorem ww{pin:List Nat}{b:AL}{e:Nat×Option Nat×jB}:e∈Ct pin b↔e∈b∧eT e.1 pin=true:=by simp [Ct,List.mem_filter]
theorem AT{pin:List Nat}{b:AL}(h:(b.map (·.1)).Nodup):((vo pin b).map (·.1)).Nodup:=h.sublist (List.filter_sublist.map _)
def xS(dst:Nat)(b:AL)(nm:Nat):Option (Option Nat):=look (b.map fun e=>(nmO dst e.1,e.2.1)) nm
def CG(a:AL)(nm:Nat):Option Nat:=look (a.filterMap fun e=>e.2.1.map fun s=>(s,e.1)) nm
def BD(news:List (Nat×Nat×Nat))(q:Nat):Option Nat:=look (news.map fun p=>(p.2.2,p.1)) q
theorem Y9{dst k k':Nat}(h:nmO dst k=nmO dst k'):k=k':=by unfold nmO at h;omega
theorem uq{dst:Nat}:∀{b:AL} {nm:Nat} {jH:Option Nat},xS dst b nm=some jH→∃ k A,nm=nmO dst k∧(k,jH,A)∈b
 |(k,s,A) :: r,nm,jH,h=>by
  simp only [xS,List.map_cons,aw] at h;by_cases e:nmO dst k=nm
  ·simp only [e,if_true,Option.some.injEq] at h
   exact⟨k,A,e.symm,by rw [h];exact List.mem_cons_self ..⟩
  ·simp only [e,if_false] at h
   obtain⟨k',A',h1,h2⟩:=uq (b:=r) h;exact⟨k',A',h1,List.mem_cons_of_mem _ h2⟩
theorem Db{dst:Nat}:∀{b:AL} {k:Nat} {jH:Option Nat} {A:jB},(b.map (·.1)).Nodup→(k,jH,A)∈b→xS dst b (nmO dst k)=some jH
 |(k',s,B) :: r,k,jH,A,hn,h=>by
  simp only [xS,List.map_cons,aw];rw [List.map_cons,List.nodup_cons] at hn;rcases List.mem_cons.1 h with h | h
  ·cases h;simp
  ·have gU:k'≠k:=fun e=>hn.1 (by rw [e];exact List.mem_map_of_mem (f:=(·.1)) h)
   rw [if_neg (fun e=>gU (Y9 e))];exact Db (b:=r) hn.2 h
theorem qt:∀{a:AL} {nm k:Nat},CG a nm=some k→∃ A,(k,some nm,A)∈a
 |(k',s,A) :: r,nm,k,h=>by
  cases s with
  |none=>
   obtain⟨B,hB⟩:=qt (a:=r) (nm:=nm) (k:=k) (by simpa [CG] using h)
   exact⟨B,List.mem_cons_of_mem _ hB⟩
  |some x=>
   simp only [CG,List.filterMap_cons,Option.map_some,aw] at h;by_cases e:x=nm
   ·simp only [e,if_true,Option.some.injEq] at h
    exact⟨A,by rw [←h,e];exact List.mem_cons_self ..⟩
   ·simp only [e,if_false] at h
    obtain⟨B,hB⟩:=qt (a:=r) (nm:=nm) (k:=k) h;exact⟨B,List.mem_cons_of_mem _ hB⟩
theorem Fv{a:AL}{nm:Nat}(h:CG a nm=none):∀ k A,(k,some nm,A)∉a:=by
 induction a with
 |nil=>intro k A hm;cases hm
 |cons p r ih=>
  obtain⟨k',s,B⟩:=p;intro k A hm;cases s with
  |none=>
   rcases List.mem_cons.1 hm with hm | hm
   ·cases hm
   ·exact ih (by simpa [CG] using h) k A hm
  |some x=>
   simp only [CG,List.filterMap_cons,Option.map_some,aw] at h;by_cases e:x=nm
   ·simp [e] at h
   ·simp only [e,if_false] at h
    rcases List.mem_cons.1 hm with hm | hm
    ·cases hm;exact e rfl
    ·exact ih h k A hm
theorem Ab:∀{news:List (Nat×Nat×Nat)} {q k:Nat},BD news q=some k→∃ n,(k,n,q)∈news
 |(k',n,q') :: r,q,k,h=>by
  simp only [BD,List.map_cons,aw] at h;by_cases e:q' = q
  ·simp only [e,if_true,Option.some.injEq] at h
   exact⟨n,by rw [←h,e];exact List.mem_cons_self ..⟩
  ·simp only [e,if_false] at h
   obtain⟨m,hm⟩:=Ab (news:=r) h;exact⟨m,List.mem_cons_of_mem _ hm⟩
theorem Lz:∀{news:List (Nat×Nat×Nat)} {q k n:Nat},(news.map (·.2.2)).Nodup→(k,n,q)∈news→BD news q=some k
 |(k',n',q') :: r,q,k,n,hn,h=>by
  simp only [BD,List.map_cons,aw];rw [List.map_cons,List.nodup_cons] at hn;rcases List.mem_cons.1 h with h | h
  ·cases h;simp
  ·rw [if_neg (fun e=>hn.1 (by rw [e];exact List.mem_map_of_mem (f:=(·.2.2)) h))]
   exact Lz (news:=r) hn.2 h
theorem NP:∀{news:List (Nat×Nat×Nat)} {o k:Nat},GS news o=some k→∃ n,(o,n,k)∈news
 |p :: r,o,k,h=>by
  simp only [GS] at h;cases hb:Nat.beq p.1 o with
  |true=>simp only [hb,cond_true,Option.some.injEq] at h;have e:=Nat.eq_of_beq_eq_true hb;exact⟨p.2.1,by rw [←e,←h];exact List.mem_cons_self ..⟩
  |false=>simp only [hb,cond_false] at h;obtain⟨n,hn⟩:=NP (news:=r) h;exact⟨n,List.mem_cons_of_mem _ hn⟩
theorem Tu{dst:Nat}{t s4:St}{b4:AL}{G G4:Gh}{kW:Nat→Option Nat}{news:List (Nat×Nat×Nat)}{p:Pl}{sp:ml}{x:sp.V}{bp:AL}(zg:yJ s4 p sp=some (x,bp))(pV:∀ e∈bp,e∈b4)(hn:(b4.map (·.1)).Nodup)
  (hm:∃ X w',aB X s4 G4 w') (hφ:∀ q tl,t.dJ q=some tl→G4.φ q=G.φ q∧G4.pre q=G.pre q) (hnn:(news.map (·.2.2)).Nodup) (hnt:∀ p∈news,t.dJ p.2.2=none)
  (Vb:∀ q off,sp = .lit (.mT q off)→(∃ tl,t.dJ q=some tl)∨q∈news.map (·.1)) {u:Value} (hu:aT G4 (s4.at p) u):aX (G.iz G4 (xS dst b4) kW (BD news)) (XZ news (sp.bJ (nmO dst p.key) x)) u:=by
 obtain⟨X,w',hm⟩:=hm;have gT:=FD zg;cases sp with
 |any=>trivial
 |d t'=>
  simp only [yJ] at zg;split at zg
  ·rename_i y hy
   simp only [Option.some.injEq,Prod.mk.injEq] at zg;obtain⟨rfl,_⟩:=zg;obtain⟨cs,e,hr⟩:=Cj hm hy hu;exact⟨cs,e,hr⟩
  ·cases zg
 |h m t'=>
  show u=(match xS dst b4 (nmO dst p.key) with | some (some k)=>G4.ψ k | some none=>.slice none 0 0 | none=>G.ψ (nmO dst p.key))
  simp only [yJ] at zg;split at zg
  ·rename_i ub
   cases hw:m.PB with
   |false=>simp [hw] at zg
   |true=>simp only [hw,cond_true,Option.some.injEq,Prod.mk.injEq] at zg;obtain⟨_,rfl⟩:=zg;rw [Db hn (pV _ (List.mem_singleton.2 rfl))];rw [ub] at hu;exact hu
  ·rename_i a ub
   split at zg
   ·rename_i A hA
    cases hs:(A.sh || !m.kX A.md) with
    |true=>simp [hs] at zg
    |false=>
     simp only [hs,cond_false] at zg;split at zg
     ·simp only [Option.some.injEq,Prod.mk.injEq] at zg
      obtain⟨_,rfl⟩:=zg;rw [Db hn (pV _ (List.mem_singleton.2 rfl))];rw [ub] at hu;exact hu
     ·cases zg
   ·cases zg
  ·cases zg
 |lit l=>
  simp only [yJ] at zg;split at zg
  ·rename_i l' ub
   cases he:uW l l' with
   |false=>simp [he] at zg
   |true=>
    have e:=Lt he;rw [ub,←e] at hu;show aX _ (XZ news l) u;cases l with
    |mT q off=>
     have hu:u = .pointer (some ⟨G4.φ q,(G4.pre q).length + off,none⟩):=hu;simp only [XZ];cases hq:GS news q with
     |some k=>obtain⟨n,hmm⟩:=NP hq;simp only [aX,Gh.iz,Lz hnn hmm];exact hu
     |none=>
      rcases Vb q off rfl with ⟨tl,htl⟩ | hnw
      ·have vg:BD news q=none:=by
        cases hh:BD news q with
        |none=>rfl
        |some k=>obtain⟨n,hmm⟩:=Ab hh;have:=hnt _ hmm;rw [htl] at this;cases this
       obtain⟨e1,e2⟩:=hφ q tl htl;simp only [aX,Gh.iz,vg];rw [hu,e1,e2]
      ·obtain⟨⟨q',n,k⟩,hmm,rfl⟩:=List.mem_map.1 hnw
       have:∀{news:List (Nat×Nat×Nat)},(q',n,k)∈news→GS news q'≠none:=by
        intro news;induction news with
        |nil=>intro h;cases h
        |cons p r ih=>
         intro h;simp only [GS];cases hb:Nat.beq p.1 q' with
         |true=>simp
         |false=>
          simp only [cond_false];rcases List.mem_cons.1 h with h | h
          ·rw [←h] at hb;simp at hb
          ·exact ih h
       exact absurd hq (this hmm)
    |nil=>exact hu
    |Ir=>exact hu
    |uB=>exact hu
    |fn f=>exact hu
    |_=>simp [uW] at he
  ·cases zg
theorem DE{dst:Nat}{pin:List Nat}{t s4:St}{b4:AL}{G G4:Gh}{kW:Nat→Option Nat}{news:List (Nat×Nat×Nat)}{p:Pl}{sp:ml}{x:sp.V}{bp:AL}(zg:yJ s4 p sp=some (x,bp))(pV:∀ e∈bp,e∈b4)(hn:(b4.map (·.1)).Nodup)
  (hm:∃ X w',aB X s4 G4 w') (hφ:∀ q tl,t.dJ q=some tl→G4.φ q=G.φ q∧G4.pre q=G.pre q) (hnn:(news.map (·.2.2)).Nodup) (hnt:∀ p∈news,t.dJ p.2.2=none)
  (Vb:∀ q off,sp = .lit (.mT q off)→(∃ tl,t.dJ q=some tl)∨q∈news.map (·.1)) {u:Value} (hu:aT G4 (s4.at p) u):aX (G.iz G4 (xS dst (vo pin b4)) kW (BD news)) (xR dst pin news p sp x) u:=by
 unfold xR;cases hp:eT p.key pin with
 |true=>trivial
 |false=>rw [cond_false];refine Tu zg (fun e he=>p6.2 ⟨pV e he,?_⟩) (AT hn) hm hφ hnn hnt Vb hu;obtain⟨k,jH,A⟩:=e;have:=(FD zg k jH A he).1;rw [this];exact hp
theorem Iz{s:St}{pin:List Nat}{ba:AL}:∀{ps:kI} {v:PV ps} {b:AL},kT s ps=some (v,b)→∀{dst:Nat} {news:List (Nat×Nat×Nat)},
  (∀{o j:Nat} {lf:af},dV (jc dst pin news ps v) o j=some lf→∃ sp x bp,(Pl.l o j,sp)∈ps∧yJ s (.l o j) sp=some (x,bp)∧(∀ e∈bp,e∈b)∧lf=xR dst pin news (.l o j) sp x)∧
  (∀{i:Nat} {av:ae},look (I1 dst pin news ps v) i=some av→∃ sp x bp,(Pl.r i,sp)∈ps∧yJ s (.r i) sp=some (x,bp)∧(∀ e∈bp,e∈b)∧av = .one (xR dst pin news (.r i) sp x))∧
  (∀{i j:Nat} {lf:af},dV (S9 dst pin news ps v) i j=some lf→∃ sp x bp,(Pl.q i j,sp)∈ps∧yJ s (.q i j) sp=some (x,bp)∧(∀ e∈bp,e∈b)∧lf=xR dst pin news (.q i j) sp x)∧
  (∀{nm:Nat} {A:jB},look (qW dst pin ps v) nm=some A→∃ p sp x bp,(p,sp)∈ps∧yJ s p sp=some (x,bp)∧(∀ e∈bp,e∈b)∧nm=nmO dst p.key∧sp.arr x=some A∧eT p.key pin=false)∧
  (∀{k:Nat} {jH:Option Nat} {A:jB},(k,jH,A)∈b→eT k pin=false→∃ B,look (qW dst pin ps v) (nmO dst k)=some B)∧
  (∀{nm:Nat} {A:jB},look (oB pin ba ps v) nm=some A→∃ p sp x bp C,(p,sp)∈ps∧yJ s p sp=some (x,bp)∧(∀ e∈bp,e∈b)∧look ba p.key=some (some nm,C)∧sp.arr x=some A∧eT p.key pin=true)∧
  (∀{k a:Nat} {jH:Option Nat} {A C:jB},(k,jH,A)∈b→eT k pin=true→look ba k=some (some a,C)→∃ B,look (oB pin ba ps v) a=some B)
 |[],v,b,h,dst,news=>by simp only [kT,Option.some.injEq,Prod.mk.injEq] at h;obtain⟨_,rfl⟩:=h;exact⟨(fun h=>(by cases h)),(fun h=>(by cases h)),(fun h=>(by cases h)),(fun h=>(by cases h)),(fun h=>(by cases h)),(fun h=>(by cases h)),(fun h=>(by cases h))⟩
 |(p,sp) :: r,v,b,h,dst,news=>by
  simp only [kT] at h;split at h
  ·rename_i x a1 h1
   split at h
   ·rename_i xs b1 h2
    simp only [Option.some.injEq,Prod.mk.injEq] at h;obtain⟨rfl,rfl⟩:=h;obtain⟨g1,g2,g5,g3,g4,g6,g7⟩:=Iz h2 (dst:=dst) (news:=news);have Yg:∀ e∈a1,e∈a1 ++ b1:=fun e he=>List.mem_append_left _ he;refine⟨fun {o j lf} hl=>?_,fun {i av} hl=>?_,fun {i j lf} hl=>?_,fun {nm A} hl=>?_,fun {k jH A} hm hp=>?_,fun {nm A} hl=>?_,fun {k a jH A C} hm hp hb=>?_⟩
    ·have tail:dV (jc dst pin news r xs) o j=some lf→(∃ PM x bp,(Pl.l o j,PM)∈((p,sp) :: r)∧yJ s (.l o j) PM=some (x,bp)∧(∀ e∈bp,e∈a1 ++ b1)∧lf=xR dst pin news (.l o j) PM x):=fun hl=>by
      obtain⟨sp',x',bp,e1,e2,e3,e4⟩:=g1 hl;exact⟨sp',x',bp,List.mem_cons_of_mem _ e1,e2,fun e he=>List.mem_append_right _ (e3 e he),e4⟩
     cases p with
     |r i=>exact tail hl
     |q i k=>exact tail hl
     |l o' j'=>
      simp only [jc,dV] at hl;cases hb:(Nat.beq o' o && Nat.beq j' j) with
      |false=>simp only [hb,cond_false] at hl;exact tail hl
      |true=>simp only [hb,cond_true,Option.some.injEq] at hl;simp only [Bool.and_eq_true] at hb;obtain rfl:=Nat.eq_of_beq_eq_true hb.1;obtain rfl:=Nat.eq_of_beq_eq_true hb.2;exact⟨sp,x,a1,List.mem_cons_self ..,h1,Yg,hl.symm⟩
    ·have tail:look (I1 dst pin news r xs) i=some av→(∃ PM x bp,(Pl.r i,PM)∈((p,sp) :: r)∧yJ s (.r i) PM=some (x,bp)∧(∀ e∈bp,e∈a1 ++ b1)∧av = .one (xR dst pin news (.r i) PM x)):=fun hl=>by
      obtain⟨sp',x',bp,e1,e2,e3,e4⟩:=g2 hl;exact⟨sp',x',bp,List.mem_cons_of_mem _ e1,e2,fun e he=>List.mem_append_right _ (e3 e he),e4⟩
     cases p with
     |l o j=>exact tail hl
     |q i k=>exact tail hl
     |r i'=>
      simp only [I1,aw] at hl;by_cases e:i' = i
      ·subst e
       simp only [if_true,Option.some.injEq] at hl;exact⟨sp,x,a1,List.mem_cons_self ..,h1,Yg,hl.symm⟩
      ·simp only [e,if_false] at hl;exact tail hl
    ·have tail:dV (S9 dst pin news r xs) i j=some lf→(∃ PM x bp,(Pl.q i j,PM)∈((p,sp) :: r)∧yJ s (.q i j) PM=some (x,bp)∧(∀ e∈bp,e∈a1 ++ b1)∧lf=xR dst pin news (.q i j) PM x):=fun hl=>by
      obtain⟨sp',x',bp,e1,e2,e3,e4⟩:=g5 hl;exact⟨sp',x',bp,List.mem_cons_of_mem _ e1,e2,fun e he=>List.mem_append_right _ (e3 e he),e4⟩
     cases p with
     |r i=>exact tail hl
     |l i k=>exact tail hl
     |q o' j'=>
      simp only [S9,dV] at hl;cases hb:(Nat.beq o' i && Nat.beq j' j) with
      |false=>simp only [hb,cond_false] at hl;exact tail hl
      |true=>simp only [hb,cond_true,Option.some.injEq] at hl;simp only [Bool.and_eq_true] at hb;obtain rfl:=Nat.eq_of_beq_eq_true hb.1;obtain rfl:=Nat.eq_of_beq_eq_true hb.2;exact⟨sp,x,a1,List.mem_cons_self ..,h1,Yg,hl.symm⟩
    ·have tail:look (qW dst pin r xs) nm=some A→(∃ p0 PM x bp,(p0,PM)∈((p,sp) :: r)∧yJ s p0 PM=some (x,bp)∧(∀ e∈bp,e∈a1 ++ b1)∧nm=nmO dst p0.key∧PM.arr x=some A∧eT p0.key pin=false):=fun hl=>by
      obtain⟨p',sp',x',bp,e1,e2,e3,e4,e5,e6⟩:=g3 hl;exact⟨p',sp',x',bp,List.mem_cons_of_mem _ e1,e2,fun e he=>List.mem_append_right _ (e3 e he),e4,e5,e6⟩
     simp only [qW] at hl;split at hl
     ·rename_i B hB
      cases P8:eT p.key pin with
      |true=>rw [P8,cond_true] at hl;exact tail hl
      |false=>
       rw [P8,cond_false,aw] at hl;by_cases e:nmO dst p.key=nm
       ·simp only [e,if_true,Option.some.injEq] at hl
        subst hl;exact⟨p,sp,x,a1,List.mem_cons_self ..,h1,Yg,e.symm,hB,P8⟩
       ·simp only [e,if_false] at hl;exact tail hl
     ·exact tail hl
    ·simp only [qW]
     rcases List.mem_append.1 hm with hm | hm
     ·obtain⟨e1,e2,_⟩:=FD h1 k jH A hm
      subst e1;exact⟨A,by simp [e2,aw,hp]⟩
     ·obtain⟨B,hB⟩:=g4 hm hp
      split
      ·cases P8:eT p.key pin with
       |true=>exact⟨B,hB⟩
       |false=>
        rw [cond_false,aw];by_cases e:nmO dst p.key=nmO dst k
        ·exact⟨_,by rw [if_pos e]⟩
        ·exact⟨B,by rw [if_neg e];exact hB⟩
      ·exact⟨B,hB⟩
    ·have tail:look (oB pin ba r xs) nm=some A→(∃ p0 PM x bp C,(p0,PM)∈((p,sp) :: r)∧yJ s p0 PM=some (x,bp)∧(∀ e∈bp,e∈a1 ++ b1)∧look ba p0.key=some (some nm,C)∧PM.arr x=some A∧eT p0.key pin=true):=fun hl=>by
      obtain⟨p',sp',x',bp,C,e1,e2,e3,e4,e5,e6⟩:=g6 hl;exact⟨p',sp',x',bp,C,List.mem_cons_of_mem _ e1,e2,fun e he=>List.mem_append_right _ (e3 e he),e4,e5,e6⟩
     simp only [oB] at hl;split at hl
     ·rename_i B hB
      cases P8:eT p.key pin with
      |false=>rw [P8,cond_false] at hl;exact tail hl
      |true=>
       rw [P8,cond_true] at hl;split at hl
       ·rename_i y C hy
        rw [aw] at hl;by_cases e:y=nm
        ·subst e
         simp only [if_true,Option.some.injEq] at hl;subst hl;exact⟨p,sp,x,a1,C,List.mem_cons_self ..,h1,Yg,hy,hB,P8⟩
        ·rw [if_neg e] at hl;exact tail hl
       ·exact tail hl
     ·exact tail hl
    ·simp only [oB]
     have tail:(∃ B,look (oB pin ba r xs) a=some B)→∃ B,look (match sp.arr x with
       |some A=>bif eT p.key pin then(match look ba p.key with | some (some a,_)=>(a,A) :: oB pin ba r xs | _=>oB pin ba r xs) else oB pin ba r xs
       |none=>oB pin ba r xs) a=some B:=fun⟨B,hB⟩=>by
      split
      ·cases eT p.key pin with
       |false=>exact⟨B,hB⟩
       |true=>
        rw [cond_true];split
        ·rw [aw]
         split
         ·exact⟨_,rfl⟩
         ·exact⟨B,hB⟩
        ·exact⟨B,hB⟩
      ·exact⟨B,hB⟩
     rcases List.mem_append.1 hm with hm | hm
     ·obtain⟨e1,e2,_⟩:=FD h1 k jH A hm
      subst e1;exact⟨A,by simp [e2,hp,hb,aw]⟩
     ·exact tail (g7 hm hp hb)
   ·cases h
  ·cases h
end Go.Fx
namespace Go.Fx
theorem Ly:∀{cs:kI} {c:PV cs} {k:Nat} {jH:Option Nat} {A:jB},(k,jH,A)∈fR cs c→jH=some k∧∃ p∈cs,p.1.key=k∧∃ m t,p.2 = .h m t
 |(p,s) :: r,c,k,jH,A,h=>by
  simp only [fR] at h;split at h
  ·rename_i B hB
   rcases List.mem_cons.1 h with h | h
   ·cases h;exact⟨rfl,(p,s),List.mem_cons_self ..,rfl,(zA hB).2⟩
   ·obtain⟨e,q,hq,e2⟩:=Ly (cs:=r) h
    exact⟨e,q,List.mem_cons_of_mem _ hq,e2⟩
  ·obtain⟨e,q,hq,e2⟩:=Ly (cs:=r) h
   exact⟨e,q,List.mem_cons_of_mem _ hq,e2⟩
theorem Ih{s:St}:∀{cs:kI} {c:PV cs} {a:AL},kT s cs=some (c,a)→∀{k:Nat} {jH:Option Nat} {A:jB},(k,jH,A)∈a→(k,some k,A)∈fR cs c∧look (eF cs c) k≠none
 |[],c,a,h,k,jH,A,hm=>by simp only [kT,Option.some.injEq,Prod.mk.injEq] at h;obtain⟨_,rfl⟩:=h;cases hm
 |(p,sp) :: r,c,a,h,k,jH,A,hm=>by
  simp only [kT] at h;split at h
  ·rename_i x a1 h1
   split at h
   ·rename_i xs b1 h2
    simp only [Option.some.injEq,Prod.mk.injEq] at h;obtain⟨rfl,rfl⟩:=h;simp only [fR,eF];rcases List.mem_append.1 hm with hm | hm
    ·obtain⟨e1,e2,_⟩:=FD h1 k jH A hm
     subst e1;simp only [e2];exact⟨List.mem_cons_self ..,by simp [aw]⟩
    ·obtain⟨g1,g2⟩:=Ih h2 hm
     split
     ·refine⟨List.mem_cons_of_mem _ g1,?_⟩
      rw [aw];split
      ·simp
      ·exact g2
     ·exact⟨g1,g2⟩
   ·cases h
  ·cases h
theorem XW{s:St}{p:Pl}{m:Md}{t:Ty}{x:List t.mZ}{b:AL}(h:yJ s p (.h m t)=some (x,b)):∀ i o,m≠.BX i o:=fun i o e=>by
 subst e;simp only [yJ] at h;split at h
 ·simp [Md.PB] at h
 ·split at h
  ·rename_i A _
   cases hs:A.sh<;>simp [hs,Md.kX] at h
  ·cases h
 ·cases h
theorem GO{cs:kI}{c:PV cs}{o j:Nat}(h:yd o j cs=true):∃ lf,dV (bY cs c) o j=some lf:=by
 induction cs with
 |nil=>cases h
 |cons p r ih=>
  obtain⟨pl,sp⟩:=p;cases pl with
  |r i=>exact ih (c:=c.2) (by simpa [yd] using h)
  |q i k=>exact ih (c:=c.2) (by simpa [yd] using h)
  |l o' j'=>
   simp only [bY,dV];cases hb:(Nat.beq o' o && Nat.beq j' j) with
   |true=>exact⟨_,rfl⟩
   |false=>simp only [cond_false];exact ih (c:=c.2) (by simpa [yd,hb] using h)
section
variable {L:pN} {args:List ae} {st:St} {e:Yt L} {s1 s s4:St} {dst:Nat} {told:kI} {o:PV told} {news:List (Nat×Nat×Nat)} {b4:AL}
theorem IP(E:Dd L args st e s1 s)(q:Nat):e.st.dJ q=s.dJ q:=by rw [E.st'];simp only [St.dJ,E.yo.b9];rfl
theorem IN(E:Dd L args st e s1 s)(a:Nat):e.st.arr a=s.arr a:=by rw [E.st'];simp only [St.arr,(Prod.mk.inj E.yo.iH.2.2.2).1];rfl
theorem aaK(E:Dd L args st e s1 s):e.st.cz=s.cz:=by rw [E.st'];exact E.yo.iH.2.2.1.symm
theorem Gr(E:Dd L args st e s1 s):xF L.b9 e.st=true:=by
 have:=E.ob;unfold xF at this ⊢;rw [←this]
 congr 1
 funext p
 rw [IP E p.1]
theorem XV{s:St}:∀{cs:kI} {c:PV cs} {a0:AL},kT s cs=some (c,a0)→∀ k a (A':jB),(k,some a,A')∈a0→∀ i o,A'.md≠.BX i o:=by
 intro cs;induction cs with
 |nil=>intro c a0 h k a A' hm;simp only [kT,Option.some.injEq,Prod.mk.injEq] at h;obtain⟨_,rfl⟩:=h;cases hm
 |cons q r ih=>
  intro c a0 h k a A' hm i o;simp only [kT] at h;split at h
  ·rename_i x a1 h1
   split at h
   ·rename_i xs b1 h2
    simp only [Option.some.injEq,Prod.mk.injEq] at h;obtain⟨_,rfl⟩:=h;rcases List.mem_append.1 hm with hm | hm
    ·obtain⟨_,e3,_⟩:=FD h1 _ _ _ hm
     obtain⟨_,m',t',e4⟩:=zA e3;obtain⟨q1,q2⟩:=q;simp only at e4;subst e4;simp only [ml.arr,Option.some.injEq] at e3;rw [←e3];exact XW h1 i o
    ·exact ih h2 k a A' hm i o
   ·cases h
  ·cases h
theorem Xi(E:Dd L args st e s1 s)(WA:TG L e.st=true)(ZY:OK L.pin e.b e.st=true)(zg:kT s4 told=some (o,b4))(GB:uv s4 L.cs=true)(YN:yU (fR L.cs e.c ++ b4)=true)
  (acD:xF L.b9 s4=true) (ad3:xF (news.map fun p=>(p.1,p.2.1)) s4=true) (TY:sG L e.c s4) (hf:Cv dst L told o news e.st=true) (WP:Et L.pin b4=true):
  F6 e.st (L.st e.c e.v) s4 (F9 dst L told o news e.a e.b e.st) (e.a ++ e.b) (xS dst (vo L.pin b4)) (CG (e.a ++ Ct L.pin e.b)) (BD news):=by
 obtain⟨f1,f2,f3,f4,f5,f6,f7⟩:=Cw hf;have WM:=Gr E;have GC:=Ik E.MJ;have OV:=TB (dst:=dst) (told:=told) (o:=o) (news:=news) (a:=e.a) (b:=e.b) GC WM (fun p hp=>(f3 p hp).1) f5;have El:=E.al;simp only [yU,Bool.and_eq_true] at El YN;have hn4:(b4.map (·.1)).Nodup:=by have:=eB YN.1;rw [List.map_append,List.nodup_append] at this;exact this.2.1
 have hs4:(b4.filterMap (·.2.1)).Nodup:=by have:=eB YN.2;rw [List.filterMap_append,List.nodup_append] at this;exact this.2.1
 obtain⟨g1,g2,g5,g3,g4,g6,g7⟩:=Iz zg (dst:=dst) (news:=news) (pin:=L.pin) (ba:=e.b);have ZU:=oY zg;have acf:=oY E.rc;have tob:∀ q tl,(L.st e.c e.v).dJ q=some tl→∃ n,(q,n)∈L.b9∧tl=oZ (bY L.cs e.c) (bY L.vs e.v) q 0 n:=fun q tl h=>wv h;have abP:∀{q n},(q,n)∈L.b9→(L.st e.c e.v).dJ q=some (oZ (bY L.cs e.c) (bY L.vs e.v) q 0 n):=fun {q n} hm=>
  td (f:=fun p=>oZ (bY L.cs e.c) (bY L.vs e.v) p.1 0 p.2) GC hm
 have UK:∀ q,q∉L.b9.map (·.1)→(L.st e.c e.v).dJ q=none:=fun q hq=>by
  cases h:(L.st e.c e.v).dJ q with
  |none=>rfl
  |some tl=>obtain⟨n,hm,_⟩:=tob q tl h;exact absurd (List.mem_map_of_mem (f:=(·.1)) hm) hq
 have shl:∀(cl vl:List (Nat×Nat×af)) (q j n:Nat),(oZ cl vl q j n).length=n:=by
  intro cl vl q j n;induction n generalizing j with
  |zero=>rfl
  |succ n ih=>simp [oZ,ih]
 have Vb:∀{p:Pl} {sp:ml},(p,sp)∈told→∀ q off,sp = .lit (.mT q off)→(∃ tl,(L.st e.c e.v).dJ q=some tl)∨q∈news.map (·.1):=fun {p sp} hp q off e1=>by
  rcases f7 _ hp q off e1 with h | h
  ·obtain⟨⟨q',n⟩,hm,rfl⟩:=List.mem_map.1 h
   exact .inl ⟨_,abP hm⟩
  ·exact .inr h
 have hnt:∀ p∈news,(L.st e.c e.v).dJ p.2.2=none:=fun p hp=>UK _ fun hm=>by obtain⟨⟨q',n⟩,hm,e1⟩:=List.mem_map.1 hm;obtain⟨ls,hl,_⟩:=oo WM hm;have:=(f3 p hp).1;simp only at e1 hl;rw [←e1,hl] at this;cases this
 have Xs:∀{sp:ml} {x:sp.V} {p p':Pl} {bp:AL},yJ s4 p sp=some (x,bp)→∀(q:St) o j,q.res o j (xR dst L.pin news p' sp x)=xR dst L.pin news p' sp x:=fun {sp x p p' bp} hr q o j=>by
  unfold xR;cases eT p'.key L.pin with
  |true=>rfl
  |false=>
  rw [cond_false];cases sp with
  |any=>rfl
  |d t=>rfl
  |h m t=>rfl
  |lit l=>
   simp only [yJ] at hr;split at hr
   ·rename_i l' _
    cases he:uW l l' with
    |false=>simp [he] at hr
    |true=>
     cases l<;>simp [uW] at he<;>try rfl
     simp only [ml.bJ,XZ];split<;>rfl
   ·cases hr
 have V4:∀ a,(F9 dst L told o news e.a e.b e.st).arr a=(match look (qW dst L.pin told o) a with | some v=>some v | none=>match look (oB L.pin e.b told o) a with | some v=>some v | none=>(if a∈ID e.b then none else e.st.arr a)):=fun a=>by
  have e1:(F9 dst L told o news e.a e.b e.st).arr a=(match look (qW dst L.pin told o ++ (oB L.pin e.b told o ++ kM (ID e.b) e.st.cI)) a with | some v=>some v | none=>look e.st.fL a):=rfl
  rw [e1,ij,ij,CM];cases look (qW dst L.pin told o) a with
  |some v=>rfl
  |none=>
   cases look (oB L.pin e.b told o) a with
   |some v=>rfl
   |none=>
   by_cases AM:a∈ID e.b
   ·obtain⟨x,hx,NC⟩:=List.mem_filterMap.1 AM
    have:=List.all_eq_true.1 ZY x hx;rw [NC] at this;simp only [Bool.and_eq_true] at this;simp only [AM,if_true];simpa using this.1
   ·simp only [AM,if_false];rfl
 have acs:∀{nm:Nat} {A:jB},look (oB L.pin e.b told o) nm=some A→∃ k C,eT k L.pin=true∧(k,some nm,C)∈e.b∧(k,some k,A)∈b4∧s4.arr k=some A∧A.sh=false∧∀ i o,A.md≠.BX i o:=fun {nm A} h=>by
  obtain⟨p,sp,x,bp,C,h1,h2,h3,h4,h5,h6⟩:=g6 h;have hp4:=List.all_eq_true.1 WP p.key (gE.1 h6);split at hp4
  ·rename_i b0 B hl
   have e0:=Nat.eq_of_beq_eq_true hp4;subst e0;have gT:=dT hl;obtain⟨dm,m,t,rfl⟩:=zA h5;have O5:=XW h2;have uc:A.md=m:=by simp only [ml.arr,Option.some.injEq] at h5;rw [←h5]
   have hbp:∃ jH,(p.key,jH,A)∈bp:=by
    simp only [ml.arr,Option.some.injEq] at h5;simp only [yJ] at h2;split at h2
    ·cases hw:m.PB with
     |false=>simp [hw] at h2
     |true=>simp only [hw,cond_true,Option.some.injEq,Prod.mk.injEq] at h2;obtain⟨rfl,rfl⟩:=h2;exact⟨none,by rw [←h5];exact List.mem_singleton.2 rfl⟩
    ·rename_i a' _
     split at h2
     ·rename_i A' _
      cases hs:(A'.sh || !m.kX A'.md) with
      |true=>simp [hs] at h2
      |false=>
       simp only [hs,cond_false] at h2;split at h2
       ·simp only [Option.some.injEq,Prod.mk.injEq] at h2
        obtain⟨rfl,rfl⟩:=h2;exact⟨some a',by rw [←h5];exact List.mem_singleton.2 rfl⟩
       ·cases h2
     ·cases h2
    ·cases h2
   obtain⟨jH,hbp⟩:=hbp;have e1:=kS hn4 (h3 _ hbp);rw [hl] at e1;simp only [Option.some.injEq,Prod.mk.injEq] at e1;obtain⟨rfl,rfl⟩:=e1;obtain⟨_,hgd⟩:=ZU _ _ _ gT;exact⟨p.key,C,h6,dT h4,gT,hgd,dm,fun i o e2=>O5 i o (by rw [←uc];exact e2)⟩
  ·cases hp4
 have ZM:∀{q j:Nat} {sl:List af} {a:af},s4.dJ q=some sl→sl[j]? = some a→s4.at (.l q j) = .one (s4.res q j a):=fun {q j sl a} h1 h2=>by simp [St.at,h1,h2]
 refine {n:=rfl,vr:=fun q=>?_,ib:=fun _=>rfl,bl:=rfl,ZC:=fun q tl h=>?_,dJ:=fun q wd hq=>?_,CR:=fun q k h=>?_,acZ:=fun q q' k h h'=>?_,T5:=fun q ls h=>?_,t6:=fun q j ls lf h1 h2 h3=>?_,arr:=fun a A hA=>?_,ti:=fun a a' k h h'=>?_,ki:=fun a a' k h h'=>?_,tk:=fun a a' k h h'=>?_,Ej:=fun a x h=>?_,pn:=rfl,ap:=fun a A hp hA=>?_}
 ·rw [TC]
  cases hk:CG (e.a ++ Ct L.pin e.b) q with
  |none=>
   rw [if_neg fun hs=>(by
    obtain⟨⟨nm,jH,B⟩,hm,QY⟩:=List.mem_filterMap.1 hs;simp only at QY;subst QY;exact Fv hk _ _ hm)]
  |some k=>obtain⟨A',hm⟩:=qt hk;rw [if_pos (show q∈ID (e.a ++ Ct L.pin e.b) from List.mem_filterMap.2 ⟨_,hm,rfl⟩)]
 ·obtain⟨n,hm,_⟩:=tob q tl h
  obtain⟨ls,hl,_⟩:=oo WM hm;obtain⟨sl,J9,_⟩:=oo acD hm;exact⟨Pd E.MJ hm,⟨ls,hl⟩,sl,J9⟩
 ·rcases OV q with ⟨k,n,hm,e1⟩ |⟨hqn,⟨n,ls,hm,hl,e1⟩ |⟨hqo,e1⟩⟩
  ·
   rw [e1] at hq;cases hq;have hmn:(k,n)∈news.map fun p=>(p.1,p.2.1):=List.mem_map.2 ⟨(k,n,q),hm,rfl⟩;obtain⟨sl,J9,WR⟩:=oo ad3 hmn;refine .inr (.inr ⟨k,sl,Lz f5 hm,J9,by rw [CQ];exact WR.symm,fun j l' a h1 h2 G G3 u hX hφ hu=>?_⟩)
   have hj:j < n:=by have:=(List.getElem?_eq_some_iff.1 h1).1;rwa [CQ] at this
   rw [Rn hj,Nat.zero_add] at h1;simp only [Option.some.injEq] at h1;cases hlk:dV (jc dst L.pin news told o) k j with
   |none=>rw [hlk] at h1;simp only at h1;subst h1;trivial
   |some x=>rw [hlk] at h1;simp only at h1;subst h1;obtain⟨sp,y,bp,hp,hr,pV,rfl⟩:=g1 hlk;rw [Xs hr];exact DE hr pV hn4 hX hφ f5 hnt (Vb hp) (by rw [ZM J9 h2];exact hu)
  ·
   rw [e1] at hq;cases hq;obtain⟨sl,J9,WR⟩:=oo acD hm;obtain⟨ls2,P7,jD⟩:=oo WM hm;rw [hl] at P7;cases P7;simp only at WR jD;refine .inr (.inl ⟨ls,_,sl,hl,abP hm,J9,by rw [shl];exact jD.symm,by omega,y7,fun j l' l a h1 h2 h3=>?_⟩)
   rw [AQ,Nat.zero_add,h2] at h1;simp only [Option.map_some,Option.some.injEq] at h1;have hjn:j < n:=by have:=(List.getElem?_eq_some_iff.1 h2).1;omega
   cases hlk:dV (jc dst L.pin news told o) q j with
   |some x=>rw [hlk] at h1;simp only at h1;subst h1;obtain⟨sp,y,bp,hp,hr,pV,rfl⟩:=g1 hlk;refine .inr fun G G3 u hX hφ hu=>?_;rw [Xs hr];exact DE hr pV hn4 hX hφ f5 hnt (Vb hp) (by rw [ZM J9 h3];exact hu)
   |none=>
    rw [hlk] at h1;simp only at h1;cases hc:yd q j L.cs with
    |true=>
     rw [hc,cond_true] at h1;subst h1;obtain⟨lf,O4⟩:=GO (c:=e.c) hc;refine .inl ⟨?_,?_,lf,O4⟩
     ·have:∀ x:af,(F9 dst L told o news e.a e.b e.st).res q j x=e.st.res q j x:=fun x=>by cases x<;>rfl
      exact this _
     ·exact xM hjn (by rw [Nat.zero_add];exact O4)
    |false=>rw [hc,cond_false] at h1;subst h1;exact .inr fun _ _ _ _ _ _=>trivial
  ·exact .inl ⟨UK q hqo,by rw [←e1];exact hq⟩
 ·obtain⟨n,hm⟩:=Ab h
  obtain⟨h1,h2,h3⟩:=f3 _ hm;exact⟨h1,h2,UK k h3⟩
 ·obtain⟨n,hm⟩:=Ab h
  obtain⟨n',hm'⟩:=Ab h';have key:∀{news:List (Nat×Nat×Nat)},(news.map (·.1)).Nodup→(k,n,q)∈news→(k,n',q')∈news→q=q':=by
   intro news;induction news with
   |nil=>intro _ h;cases h
   |cons p r ih=>
    intro hn h1 h2;rw [List.map_cons,List.nodup_cons] at hn;rcases List.mem_cons.1 h1 with h1 | h1<;>rcases List.mem_cons.1 h2 with h2 | h2
    ·rw [←h1] at h2;cases h2;rfl
    ·exact absurd (by rw [←h1];exact List.mem_map_of_mem (f:=(·.1)) h2) hn.1
    ·exact absurd (by rw [←h2];exact List.mem_map_of_mem (f:=(·.1)) h1) hn.1
    ·exact ih hn.2 h1 h2
  exact key f4 hm hm'
 ·rcases OV q with ⟨k,n,hm,e1⟩ |⟨hqn,⟨n,ls,hm,hl,e1⟩ |⟨hqo,e1⟩⟩
  ·exact⟨_,e1⟩
  ·exact⟨_,e1⟩
  ·exact⟨ls,by rw [e1];exact h⟩
 ·rcases OV q with ⟨k,n,hm,e1⟩ |⟨hqn,⟨n,wd,hm,hl,e1⟩ |⟨hqo,e1⟩⟩
  ·have:=(f3 _ hm).1;rw [h1] at this;cases this
  ·rw [h1] at hl
   cases hl;obtain⟨ls2,P7,jD⟩:=oo WM hm;rw [h1] at P7;cases P7;simp only at jD;have hjn:j < n:=by have:=(List.getElem?_eq_some_iff.1 h2).1;omega
   have hc:yd q j L.cs=true:=by have:=List.all_eq_true.1 (List.all_eq_true.1 WA _ hm) j (List.mem_range.2 hjn);simp only [h1,Option.bind_some,h2,Bool.or_false] at this;exact this
   have ht:dV (jc dst L.pin news told o) q j=none:=by
    cases hh:dV (jc dst L.pin news told o) q j with
    |none=>rfl
    |some x=>obtain⟨sp,hsp⟩:=uU hh;obtain⟨sc,hsc⟩:=CA.1 hc;exact absurd (rfl:(Pl.l q j).key=(Pl.l q j).key) ((f6 (Pl.l q j,sp) hsp q j rfl).1 (Pl.l q j,sc) hsc)
   obtain⟨lf',acy⟩:=GO (c:=e.c) hc;refine⟨_,e1,?_,.inr ⟨_,lf',abP hm,xM hjn (by rw [Nat.zero_add];exact acy),acy⟩⟩
   rw [AQ,Nat.zero_add,h2,ht];simp [hc]
  ·exact⟨ls,by rw [e1];exact h1,h2,.inl (UK q hqo)⟩
 ·rw [V4] at hA
  cases hlk:look (qW dst L.pin told o) a with
  |some B=>
   rw [hlk] at hA;simp only [Option.some.injEq] at hA;subst hA;obtain⟨p,sp,x,bp,hp,hr,pV,rfl,Ve,P8⟩:=g3 hlk;obtain⟨dm,m,t,rfl⟩:=zA Ve;have O5:=XW hr;have uc:B.md=m:=by simp only [ml.arr,Option.some.injEq] at Ve;rw [←Ve]
   have gT:∃ jH,(p.key,jH,B)∈bp:=by
    simp only [ml.arr,Option.some.injEq] at Ve;simp only [yJ] at hr;split at hr
    ·cases hw:m.PB with
     |false=>simp [hw] at hr
     |true=>simp only [hw,cond_true,Option.some.injEq,Prod.mk.injEq] at hr;obtain⟨rfl,rfl⟩:=hr;exact⟨none,by rw [←Ve];exact List.mem_singleton.2 rfl⟩
    ·rename_i a' _
     split at hr
     ·rename_i A' _
      cases hs:(A'.sh || !m.kX A'.md) with
      |true=>simp [hs] at hr
      |false=>
       simp only [hs,cond_false] at hr;split at hr
       ·simp only [Option.some.injEq,Prod.mk.injEq] at hr
        obtain⟨rfl,rfl⟩:=hr;exact⟨some a',by rw [←Ve];exact List.mem_singleton.2 rfl⟩
       ·cases hr
     ·cases hr
    ·cases hr
   obtain⟨jH,gT⟩:=gT;have hb4:=pV _ gT;have acj:=p6.2 ⟨hb4,P8⟩;obtain⟨_,hgd⟩:=ZU _ _ _ hb4;cases jH with
   |some k=>exact .inl ⟨k,Db (AT hn4) acj,hgd,dm,fun i o e2=>O5 i o (by rw [←uc];exact e2)⟩
   |none=>exact .inr (.inl ⟨Db (AT hn4) acj,hgd.1,dm,hgd.2⟩)
  |none=>
   rw [hlk] at hA;simp only at hA;have htn:xS dst (vo L.pin b4) a=none:=by
    cases ht:xS dst (vo L.pin b4) a with
    |none=>rfl
    |some jH=>obtain⟨k,A',rfl,hm⟩:=uq ht;obtain⟨JH,hm2⟩:=p6.1 hm;obtain⟨B,hB⟩:=g4 JH hm2;rw [hlk] at hB;cases hB
   have hn:((e.a ++ e.b).map (·.1)).Nodup:=eB El.1
   cases hlb:look (oB L.pin e.b told o) a with
   |some B=>
    rw [hlb] at hA;simp only [Option.some.injEq] at hA;subst hA;obtain⟨k,C,q1,q2,q3,q4,q5,q6⟩:=acs hlb;cases hk:CG (e.a ++ Ct L.pin e.b) a with
    |none=>exact absurd (List.mem_append_right _ (ww.2 ⟨q2,q1⟩)) (Fv hk _ _)
    |some k'=>
     obtain⟨A',hm⟩:=qt hk;have hm':(k',some a,A')∈e.a ++ e.b:=by
      rcases List.mem_append.1 hm with hm | hm
      ·exact List.mem_append_left _ hm
      ·exact List.mem_append_right _ (ww.1 hm).1
     have e1:k' = k:=Hm (eB El.2) hm' (List.mem_append_right _ q2);subst e1;exact .inr (.inr (.inl ⟨k',htn,rfl,trivial,q4,q5,q6⟩))
   |none=>
   rw [hlb] at hA;simp only at hA;by_cases AM:a∈ID e.b
   ·simp [AM] at hA
   ·simp only [AM,if_false] at hA
    cases hk:CG (e.a ++ Ct L.pin e.b) a with
    |some k=>
     obtain⟨A',hm⟩:=qt hk;have hm:(k,some a,A')∈e.a:=by
      rcases List.mem_append.1 hm with hm | hm
      ·exact hm
      ·exact absurd (show a∈ID e.b from List.mem_filterMap.2 ⟨_,(ww.1 hm).1,rfl⟩) AM
     obtain⟨dm,oP⟩:=acf _ _ _ hm;simp only at oP;rw [IN E,oP] at hA;cases hA;obtain⟨hkp,_⟩:=Ih E.rc hm;simp only [uv,Bool.and_eq_true] at GB;have adT:=zH (v:=e.c) (eB GB.1);obtain⟨_,h4⟩:=zQ (full:=⟨L.cs,e.c⟩) (Prod.mk.inj TY.2.2.2).1 adT GB.2 k (some k) A hkp;exact .inr (.inr (.inl ⟨k,htn,rfl,trivial,h4,dm,fun i o e2=>XV E.rc _ _ _ hm i o e2⟩))
    |none=>
     refine .inr (.inr (.inr ⟨htn,rfl,hA,.inr fun nm B h=>?_⟩));have hm:=dT h;rcases List.mem_append.1 hm with hm | hm
     ·exact Fv hk _ _ (List.mem_append_left _ hm)
     ·exact AM (List.mem_filterMap.2 ⟨_,hm,rfl⟩)
 ·obtain⟨k1,A1,rfl,JH⟩:=uq h
  obtain⟨k2,A2,rfl,hm2⟩:=uq h';rw [Hm hs4 (p6.1 JH).1 (p6.1 hm2).1]
 ·have sub:∀{k' a':Nat} {A':jB},(k',some a',A')∈e.a ++ Ct L.pin e.b→(k',some a',A')∈e.a ++ e.b:=fun {k' a' A'} hm=>by
   rcases List.mem_append.1 hm with hm | hm
   ·exact List.mem_append_left _ hm
   ·exact List.mem_append_right _ (ww.1 hm).1
  obtain⟨A1,JH⟩:=qt h;obtain⟨A2,hm2⟩:=qt h';have hn:((e.a ++ e.b).map (·.1)).Nodup:=eB El.1
  have e1:=kS hn (sub JH);have e2:=kS hn (sub hm2);rw [e1] at e2;simp only [Option.some.injEq,Prod.mk.injEq] at e2;exact e2.1
 ·obtain⟨k1,A1,rfl,JH⟩:=uq h
  obtain⟨JH,YT⟩:=p6.1 JH;obtain⟨A2,hm2⟩:=qt h';rcases List.mem_append.1 hm2 with hm2 | hm2
  ·obtain⟨hk2,_⟩:=Ih E.rc hm2
   have GC:=eB YN.2;rw [List.filterMap_append,List.nodup_append] at GC;exact GC.2.2 k (List.mem_filterMap.2 ⟨_,hk2,rfl⟩) k (List.mem_filterMap.2 ⟨_,JH,rfl⟩) rfl
  ·obtain⟨_,P8⟩:=ww.1 hm2
   have hp4:=List.all_eq_true.1 WP k (gE.1 P8);split at hp4
   ·rename_i b0 B hl
    have e0:=Nat.eq_of_beq_eq_true hp4;subst e0;have:=Hm hs4 JH (dT hl);subst this;rw [P8] at YT;cases YT
   ·cases hp4
 ·obtain⟨k1,A1,rfl,JH⟩:=uq h
  obtain⟨JH,YT⟩:=p6.1 JH;obtain⟨B,hB⟩:=g4 JH YT;exact(f2 _ (dT hB)).2
 ·have hlk:look (qW dst L.pin told o) a=none:=by
   cases hl:look (qW dst L.pin told o) a with
   |none=>rfl
   |some B=>have:=(f2 _ (dT hl)).1;rw [hA] at this;cases this
  refine⟨?_,?_⟩
  ·cases ht:xS dst (vo L.pin b4) a with
   |none=>rfl
   |some jH=>obtain⟨k,A',rfl,hm⟩:=uq ht;obtain⟨JH,hm2⟩:=p6.1 hm;obtain⟨B,hB⟩:=g4 JH hm2;rw [hlk] at hB;cases hB
  ·rw [V4,hlk]
   simp only;cases hlb:look (oB L.pin e.b told o) a with
   |some B=>exact⟨B,rfl⟩
   |none=>
    simp only;by_cases AM:a∈ID e.b
    ·obtain⟨⟨k,jH,B⟩,hx,NC⟩:=List.mem_filterMap.1 AM
     simp only at NC;subst NC;have h5:=List.all_eq_true.1 ZY _ hx;simp only [Bool.and_eq_true,Bool.or_eq_true,Bool.not_eq_true'] at h5;rcases h5.2 with h6 | h6
     ·have hp4:=List.all_eq_true.1 WP k (gE.1 h6)
      split at hp4
      ·rename_i b0 B' hl
       have hnb:look e.b k=some (some a,B):=by
        have hn:((e.a ++ e.b).map (·.1)).Nodup:=eB El.1
        rw [List.map_append,List.nodup_append] at hn;exact kS hn.2.1 hx
       obtain⟨C,hC⟩:=g7 (dT hl) h6 hnb;rw [hlb] at hC;cases hC
      ·cases hp4
     ·have zf:eT a e.st.pin=true:=hp
      rw [h6] at zf;cases zf
    ·rw [if_neg AM];exact⟨A,hA⟩
end
end Go.Fx
namespace Go.Fx
theorem Ci{G:Gh}:∀{args:List ae} {vs:List Value} {k i:Nat} {v:ae},All2 (aT G) args vs→look (oN k args) i=some v→∃ j u,i=k + j∧vs[j]? = some u∧aT G v u
 |[],[],k,i,v,_,h=>by cases h
 |a :: r,u :: us,k,i,v,hr,h=>by
  simp only [oN,aw] at h;by_cases e:k=i
  ·simp only [e,if_true,Option.some.injEq] at h
   subst h;exact⟨0,u,by omega,rfl,hr.1⟩
  ·simp only [e,if_false] at h
   obtain⟨j,u',e1,e2,e3⟩:=Ci hr.2 h;exact⟨j + 1,u',by omega,by simpa using e2,e3⟩
 |[],_ :: _,_,_,_,hr,_=>hr.elim
 |_ :: _,[],_,_,_,hr,_=>hr.elim
theorem aB.Vi{X:mo}{st st':St}{G:Gh}{w:World}(hm:aB X st G w)(ho:st'.b9=st.b9)(ha:st'.cI=st.cI)(hl:st'.cz=st.cz)(hb:st'.fL=st.fL)(hp:st'.pin=st.pin)(hv:st'.Dc=st.Dc):aB X st' G w:=by
 obtain⟨n,et,b9,cI,br,bl,ba,pn,vr⟩:=st;obtain⟨n',aak,Ug,TF,br',bl',ba',pn',vr'⟩:=st';simp only at ho ha hl hb hp hv;subst ho ha hl hb hp hv;have zO:∀ o j l,(⟨n',aak,Ug,TF,br',bl',ba',pn',vr'⟩:St).res o j l=(⟨n,et,Ug,TF,br,bl',ba',pn',vr'⟩:St).res o j l:=fun o j l=>by cases l<;>rfl
 have acK:∀ o (ls:List af) j,(⟨n',aak,Ug,TF,br',bl',ba',pn',vr'⟩:St).jO o j ls=(⟨n,et,Ug,TF,br,bl',ba',pn',vr'⟩:St).jO o j ls:=fun o ls=>by
  induction ls with
  |nil=>intro j;rfl
  |cons l r ih=>intro j;simp only [St.jO,zO,ih]
 exact {sl:=hm.sl,sh:=hm.sh,ob:=fun o ls h=>(by obtain⟨arr,elem,mid,g1,g2,g3⟩:=hm.ob o ls h;exact⟨arr,elem,mid,g1,g2,by unfold hZ at g3 ⊢;rw [acK];exact g3⟩),ar:=hm.ar,ah:=hm.ah,nd:=hm.nd,pO:=hm.pO,dS:=hm.dS,sD:=hm.sD,s0:=hm.s0,sn:=hm.sn,fr:=hm.fr,sz:=hm.sz,os:=hm.os,tp:=hm.tp,out:=hm.out,pin:=hm.pin,bv:=hm.bv,ap:=hm.ap,hv:=hm.hv,ds:=hm.ds,hh:=hm.hh}
def mo.Yz(X:mo):mo:=⟨X.S0,X.Vq,X.w0,fun _=>none,(fun _ _ h=>(by cases h)),fun _ _=>none,(fun _ _ _ h=>(by cases h)),fun _=>none,X.ds⟩
theorem aB.Yz{X:mo}{st:St}{G:Gh}{w:World}(hm:aB X st G w):aB X.Yz st G w:=
 {sl:=hm.sl,sh:=hm.sh,ob:=hm.ob,ar:=hm.ar,ah:=hm.ah,nd:=hm.nd,pO:=hm.pO,dS:=hm.dS,sD:=hm.sD,s0:=hm.s0,sn:=hm.sn,fr:=hm.fr,sz:=hm.sz,os:=hm.os,tp:=hm.tp,out:=hm.out,pin:=fun o p h=>(by cases h),bv:=fun o j u h=>(by cases h),ap:=fun a u h=>(by cases h),hv:=hm.hv,ds:=hm.ds,hh:=hm.hh}
theorem TH{X:mo}{st:St}{G:Gh}{w:World}(hm:aB X st G w){o j:Nat}{ls:List af}{lf:af}(ho:st.dJ o=some ls)(hj:ls[j]? = some .t6)(hl:dV st.cz o j=some lf):
  ∃ arr elem u,w.heap[G.φ o]? = some (.cells arr elem (0,0))∧arr.toList[(G.pre o).length + j]? = some u∧aX G lf u:=by
 obtain⟨arr,elem,mid,g1,g2,g3⟩:=hm.ob o ls ho;have hml:mid.length=ls.length:=by have:=All2.length g3;rw [iF] at this;exact this.symm
 have hjl:j < ls.length:=(List.getElem?_eq_some_iff.1 hj).1;have hx:(st.jO o 0 ls)[j]? = some lf:=by rw [rq,hj,Nat.zero_add];simp [St.res,hl]
 obtain⟨u,hu,hr⟩:=All2.vE g3 hx;exact⟨arr,elem,u,g1,by rw [Pk g2 (by omega)];exact hu,hr⟩
theorem TW{full:(ps:kI)×PV ps}:∀{ps:kI} {v:PV ps} {o j:Nat} {m:Md} {t:Ty},kH full ps v→(Pl.l o j,ml.h m t)∈ps→dV (bY full.1 full.2) o j=some (.mq (Pl.l o j).key)
 |[],v,_,_,_,_,_,h=>by cases h
 |(p,sp) :: r,v,o,j,m,t,hf,h=>by
  rcases List.mem_cons.1 h with h' | h'
  ·simp only [Prod.mk.injEq] at h'
   obtain⟨rfl,rfl⟩:=h';exact hf.1
  ·clear h
   cases p<;>exact TW (ps:=r) hf.2.2 h'
theorem ZO{G G':Gh}(hS:G'.S=G.S):∀{ls:List af} {vs:List Value},vd ls=true→All2 (aX G) ls vs→All2 (aX G') ls vs
 |[],[],_,_=>trivial
 |.eX t d :: r,_ :: _,h,hr=>⟨(by obtain⟨cs,e1,e2⟩:=hr.1;exact⟨cs,e1,by rw [hS];exact e2⟩),ZO hS (ls:=r) h hr.2⟩
 |[],_ :: _,_,hr=>hr.elim
 |_ :: _,[],_,hr=>hr.elim
def Ov(av:ae):Prop:=(∃ lf,av = .one lf)∨∃ ls,av = .agg ls
theorem X3{G':Gh}{l:List (Nat×ae)}{val:Nat→Value}(h:∀ i av,look l i=some av→Ov av∧aT G' av (val i))(i:Nat):Ov (N4 l i)∧aT G' (N4 l i) (val i):=by
 unfold N4;cases hl:look l i with
 |none=>exact⟨.inl ⟨_,rfl⟩,trivial⟩
 |some av=>exact h i av hl
theorem Yo{G':Gh}{av:ae}{u:Value}(ho:Ov av)(h:aT G' av u):if(Mb av).1=true then ∃ cs:List Value,u = .agg cs.toArray∧All2 (aX G') (Mb av).2 cs else ∃ l,(Mb av).2 = [l]∧aX G' l u:=by
 rcases ho with ⟨lf,rfl⟩ |⟨ls,rfl⟩
 ·cases lf with
  |eX t d=>
   obtain⟨cs,e1,e2⟩:=h;by_cases ha:t.agg=true
   ·rw [if_pos ha] at e1
    rw [if_pos (show(Mb (.one (.eX t d))).1=true from ha)]
    exact⟨cs,e1,lm e2⟩
   ·rw [if_neg ha] at e1
    rw [if_neg (show ¬ (Mb (.one (.eX t d))).1=true from ha)]
    cases t<;>simp [Ty.agg] at ha<;>exact⟨_,rfl,cs,by simpa [Ty.agg] using e1,e2⟩
  |_=>exact⟨_,rfl,h⟩
 ·exact h
theorem Zo{G':Gh}{l:List (Nat×ae)}{val:Nat→Value}(h:∀ i av,look l i=some av→Ov av∧aT G' av (val i))(res:List Nat):
  aT G' (ac5 l res) (FE (res.map val)):=by
 have ub:=X3 h;have all:∀(is:List Nat),All2 (fun(p:Bool×List af) u=>if p.1=true then ∃ cs:List Value,u = .agg cs.toArray∧All2 (aX G') p.2 cs else ∃ l,p.2 = [l]∧aX G' l u) (is.map fun i=>Mb (N4 l i)) (is.map val):=by
  intro is;induction is with
  |nil=>trivial
  |cons i r ih=>exact⟨Yo (ub i).1 (ub i).2,ih⟩
 match res with
 |[]=>exact⟨[],rfl,trivial⟩
 |[i]=>exact(ub i).2
 |i :: j :: r=>exact⟨_,rfl,all (i :: j :: r)⟩
theorem RR{G':Gh}{l:List (Nat×Nat×af)}{i:Nat}{sl:List af}{R:af→Value→Prop}(h:∀ j a lf u,sl[j]? = some a→dV l i j=some lf→R a u→aX G' lf u):∀(n j:Nat) (m:List af) (cs:List Value),m.length=n→(∀ k,sl[j + k]? = m[k]?)→All2 R m cs→All2 (aX G') (qsh l i j n) cs
 |0,j,[],[],_,_,_=>trivial
 |n + 1,j,a :: m,c :: cs,hl,hi,ha=>by
  refine⟨?_,RR h n (j + 1) m cs (by simpa using hl) (fun k=>by have:=hi (k + 1);rw [show j + (k + 1)=j + 1 + k by omega] at this;simpa using this) ha.2⟩
  cases hc:dV l i j with
  |none=>trivial
  |some lf=>exact h j a lf c (by simpa using hi 0) hc ha.1
 |0,j,[],_ :: _,_,_,ha=>ha.elim
 |n + 1,j,_ :: _,[],_,_,ha=>ha.elim
def Dv(pin:List Nat)(s:St):List (Nat×ae):=s.et.filter fun p=>(match p.2 with | .one (.mq _)=>true | _=>false) && eT (Pl.r p.1).key pin
theorem PD{pin:List Nat}{s:St}{i:Nat}(h:eT (Pl.r i).key pin=false):look (Dv pin s) i=none:=by
 cases hl:look (Dv pin s) i with
 |none=>rfl
 |some v=>have:=(List.mem_filter.1 (dT hl)).2;simp only [Bool.and_eq_true] at this;rw [h] at this;cases this.2
theorem RM{pin:List Nat}{s:St}{i:Nat}{v:ae}(h:look (Dv pin s) i=some v):v.qls=none:=by
 have:=(List.mem_filter.1 (dT h)).2;simp only [Bool.and_eq_true] at this;have h1:=this.1;revert h1;cases v with
 |one l=>cases l<;>intro h1<;>first | rfl | cases h1
 |_=>intro h1;cases h1
def PH(pin:List Nat)(avs:List ae)(s:St):St:={s with et:=oN 500000 avs ++ Dv pin s}
def Hf(n:Nat):List Nat:=(List.range n).map (500000 + ·)
theorem RT(yg:List Value):(Hf yg.length).map (fun i=>yg.getD (i - 500000) undef)=yg:=by
 apply List.ext_getElem?;intro i;unfold Hf;rw [List.getElem?_map,List.getElem?_map];by_cases h:i < yg.length
 ·simp [h]
 ·simp [Nat.le_of_not_lt h]
theorem C1{E:rQ}{st:St}:∀{rv:List ResultVar} {avs:List ae},JT E st rv=some avs→avs.length=rv.length
 |[],avs,h=>by cases h;rfl
 |.tmp t :: r,avs,h=>by
  simp only [JT] at h;split at h
  ·rename_i l hl;cases h;simp [C1 hl]
  ·cases h
 |.cell t T :: r,avs,h=>by
  simp only [JT] at h;split at h
  ·split at h
   ·rename_i v l _ hl;cases h;simp [C1 hl]
   ·cases h
  ·cases h
section
variable {P:Program} {E:rQ} (hE:Ee P E)
include hE
theorem aaP{f:FuncId}{fn:Func}{body:Code}{L:pN}{W:Type}{F:PV L.cs→PV L.vs→Option W}{dk:DkO W}{out:PV L.cs→St→Option W}{pout:PV L.cs→ae→St→Option W}
  (hf:P.funcs[f]? = some fn) (hb:fn.body=some body) (zL:∀ args w,(callFunc f args).run P w = .ok (.enter f args) w) (hL:rH P E body) (hn:fn.ntmps=L.n)
  (h1:∀ c v x,F c v=some x→rW E body (L.st c v) (fun e s=>match e with | .normal=>out c s | .ret=>out c s | _=>none) (pout c)=some x)
  (h2:∀ c s x,out c s=some x→∃ avs told o news,JT E s fn.results.toList=some avs∧M4 L (fR L.cs c) told news (PH L.pin avs s)=some o∧∀(R:Type) (f:(told:kI)→PV told→List (Nat×Nat×Nat)→List Nat→Option R) g,dk R x f g=f told o news (Hf fn.results.toList.length))
  (h3:∀ c av s x,pout c av s=some x→∃ T ls,av = .y5 T ls∧vd ls=true∧M4 L (fR L.cs c) [] [] s=some ()∧∀(R:Type) (f:(told:kI)→PV told→List (Nat×Nat×Nat)→List Nat→Option R) g,dk R x f g=g T ls):
  zy P E.gt f (mF L F dk):=by
 intro R r X st G w dst args vs K KP hr ye hm _ ha;simp only [mF] at hr;cases he:Wl L args st with
 |none=>rw [he] at hr;cases hr
 |some e=>
  rw [he] at hr;obtain⟨s1,s,EN⟩:=TQ he;simp only at hr;cases hbc:(TG L e.st && OK L.pin e.b e.st) with
  |false=>simp [hbc] at hr
  |true=>
   simp only [hbc,cond_true] at hr;simp only [Bool.and_eq_true] at hbc;obtain⟨x,hx,hr⟩:=Option.bind_eq_some_iff.1 hr;have m0:aB X (Bp L.n args st) G w:=hm.Vi rfl rfl rfl rfl rfl rfl;obtain⟨G1,m1,a1,k1⟩:=nE EN.sc m0;obtain⟨G2,m2,a2,k2⟩:=nE EN.sv m1;have a02:=a1.trans a2;have al':=EN.al;simp only [yU,Bool.and_eq_true] at al';have GC:((e.a ++ e.b).map (·.1)).Nodup:=eB al'.1
   have N:=Rp (L:=L) (uj GC EN.rc (fun e he=>List.mem_append_left _ he)) (uj GC EN.rv (fun e he=>List.mem_append_right _ he))
    (fun nm jH A gT=>by
     rcases List.mem_append.1 gT with gT | gT
     ·exact oY EN.rc nm jH A gT
     ·exact oY EN.rv nm jH A gT) EN.al EN.ob EN.yo.iH.1.symm EN.q
   have y4:aB X.Yz (L.st e.c e.v) (G2.tC (e.a ++ e.b)) w:=N.ok m2.Yz (fun o p h=>by cases h) (fun o j u h=>by cases h) (fun a u h=>by cases h)
   have hmi:=y4.enter;have me:aB X e.st G2 w:=by rw [EN.st'];have al:=EN.yo;exact m2.Vi al.b9.symm rfl al.iH.2.2.1.symm (Prod.mk.inj al.iH.2.2.2).1.symm (Prod.mk.inj al.iH.2.2.2).2.symm al.Dc.symm
   have Ap:mX E.gt (vF (L.st e.c e.v) (G2.tC (e.a ++ e.b)) w).S0:=ye.mono m2.s0;have jD:vs.length=args.length:=(All2.length ha).symm;have vZ:bI {G2.tC (e.a ++ e.b) with ds:=[]} (L.st e.c e.v) {tmps:=vs.toArray ++ Array.replicate (fn.ntmps - vs.toArray.size) undef,defers:=[]}:=by
    refine N.et (G:={G2 with ds:=[]}) m2.ds0 ⟨rfl,?_,fun i v hv=>?_⟩
    ·have:s.n=L.n:=EN.yo.iH.1
     have:=EN.len;simp;omega
    ·have e1:s.ib i=look (oN 0 args) i:=by
      simp only [St.ib,EN.yo.et,EN.yo.iH.2.1];show(match look (oN 0 args) i with | some v=>some v | none=>look [] i)=_
      cases look (oN 0 args) i<;>rfl
     rw [e1] at hv;obtain⟨j,u,e2,e3,e4⟩:=Ci ha hv;have hj:j < vs.length:=(List.getElem?_eq_some_iff.1 e3).1;have e5:i=j:=by omega
     subst e5;have:(vs.toArray ++ Array.replicate (fn.ntmps - vs.toArray.size) undef).getD i undef=u:=by
      rw [Array.getD_eq_getD_getElem?,Array.getElem?_append_left (by simpa using hj)]
      simp [e3]
     rw [this];exact Gh.abR (e4.sub a02)
   have hx1:=h1 e.c e.v x hx;have iz:∀{told:kI} {o:PV told} {news:List (Nat×Nat×Nat)} {s3:St} {G3:Gh} {w':World},sG L e.c s3→aB (vF (L.st e.c e.v) (G2.tC (e.a ++ e.b)) w) s3 G3 w'→M4 L (fR L.cs e.c) told news s3=some o→Cv dst L told o news e.st=true→
     ∃ s4 b4 G4 kW,aB (vF (L.st e.c e.v) (G2.tC (e.a ++ e.b)) w) s4 G4 w'∧G3.Ku G4∧qI s3 s4∧kT s4 told=some (o,b4)∧qOk told s4=true∧(b4.map (·.1)).Nodup∧aB X (F9 dst L told o news e.a e.b e.st) (G2.iz G4 (xS dst (vo L.pin b4)) kW (BD news)) w'∧
      (∀ act,bI G st act→bI (G2.iz G4 (xS dst (vo L.pin b4)) kW (BD news)) (F9 dst L told o news e.a e.b e.st) act):=fun {told o news s3 G3 w'} OY m3 hrn su=>by
    unfold M4 at hrn;split at hrn
    ·cases hrn
    ·rename_i s4 hs4
     split at hrn
     ·cases hrn
     ·rename_i o' b4 zg
      cases hk:(uv s4 L.cs && yU (fR L.cs e.c ++ b4) && xF L.b9 s4 && xF (news.map fun p=>(p.1,p.2.1)) s4 && qOk told s4 && Et L.pin b4) with
      |false=>simp [hk] at hrn
      |true=>
       simp only [hk,cond_true,Option.some.injEq] at hrn;subst hrn;simp only [Bool.and_eq_true] at hk;obtain⟨⟨⟨⟨⟨q1,q2⟩,q3⟩,q4⟩,q5⟩,q6⟩:=hk;have hb4:=OY.iH (nP hs4);obtain⟨G4,m4,a4,k4⟩:=nE hs4 m3;have M:=Xi EN hbc.1 hbc.2 zg q1 q2 q3 q4 hb4 su q6;have hn4:(b4.map (·.1)).Nodup:=by have:=q2;simp only [yU,Bool.and_eq_true] at this;have:=eB this.1;rw [List.map_append,List.nodup_append] at this;exact this.2.1
       have GB:∀ a k,CG (e.a ++ Ct L.pin e.b) a=some k→xS dst (vo L.pin b4) a=none→G4.ψ k=G2.ψ a:=fun a k hka _=>by
        obtain⟨A',gT⟩:=qt hka;rcases List.mem_append.1 gT with gT | gT
        rotate_left
        ·obtain⟨hmb,P8⟩:=ww.1 gT
         have hl:look (e.a ++ e.b) k=some (some a,A'):=kS GC (List.mem_append_right _ hmb);obtain⟨B,hB⟩:=PO (L:=L) (c:=e.c) (v:=e.v) (.inr (wx EN.rv _ _ _ hmb));have h1:=(m4.ap k _ (SJ (show eT k (L.st e.c e.v).pin=true from P8) hB)).2.2;rw [h1];simp only [Gh.tC,hl]
        obtain⟨p,hp,ek,⟨md,t,hsp⟩,ub⟩:=CZ EN.rc k _ A' gT;obtain⟨⟨pl,sp⟩,rfl⟩:∃ q,q=p:=⟨p,rfl⟩;simp only at ek hsp ub;subst hsp;cases pl with
        |r i=>have hl:=EN.MJ;simp only [xD,Bool.and_eq_true,List.all_eq_true] at hl;have:=hl.2 _ hp;simp at this
        |q i j=>have hl:=EN.MJ;simp only [xD,Bool.and_eq_true,List.all_eq_true] at hl;have:=hl.2 _ hp;simp at this
        |l q j=>
         have hq:=T8 EN.MJ (List.mem_append_left _ hp) rfl;obtain⟨⟨q',n⟩,hqm,rfl⟩:=List.mem_map.1 hq;have bq:=Pd EN.MJ hqm;have ho:(L.st e.c e.v).dJ q' = some (oZ (bY L.cs e.c) (bY L.vs e.v) q' 0 n):=
          td (f:=fun p=>oZ (bY L.cs e.c) (bY L.vs e.v) p.1 0 p.2) (Ik EN.MJ) hqm
         simp only [uv,Bool.and_eq_true,List.all_eq_true] at q1;have O4:=TW (zH (v:=e.c) (eB q1.1)) hp;have hjn:j < n:=by
          obtain⟨sl,e1,e2⟩:=oo EN.ob hqm;simp only at e1 e2;simp only [St.at,e1] at ub;cases hj:sl[j]? with
          |none=>rw [hj] at ub;simp at ub
          |some l=>have:=(List.getElem?_eq_some_iff.1 hj).1;omega
         have hjt:(oZ (bY L.cs e.c) (bY L.vs e.v) q' 0 n)[j]? = some .t6:=xM hjn (by rw [Nat.zero_add];exact O4)
         have h5:=q1.2 _ hp;simp only [GL,Bool.and_eq_true] at h5;have h6:=h5.1;split at h6
         ·rename_i ls4 e4
          split at h6
          ·rename_i Mj
           obtain⟨arr,elem,u,b1,b2,b3⟩:=Lp y4 bq ho O4 hjt;obtain⟨arr',Nl,u',b4',b5,b6⟩:=TH y4 ho hjt O4;rw [b1] at b4';simp only [Option.some.injEq,Obj.cells.injEq] at b4';obtain⟨rfl,_⟩:=b4';rw [b2] at b5;cases b5;obtain⟨_,_,V3,Wk,c1,c2⟩:=m4.bv _ _ _ b3;have adY:dV s4.cz q' j=some (.mq (Pl.l q' j).key):=by rw [hb4.2.2.1];exact O4
           obtain⟨ab0,aeA,u3,d1,d2,d3⟩:=TH m4 e4 Mj adY;rw [c1] at d1;simp only [Option.some.injEq,Obj.cells.injEq] at d1;obtain⟨rfl,_⟩:=d1;rw [c2] at d2;cases d2;have f1:u=G4.ψ (Pl.l q' j).key:=d3;have f2:u=(G2.tC (e.a ++ e.b)).ψ (Pl.l q' j).key:=b6;have f3:look (e.a ++ e.b) (Pl.l q' j).key=some (some a,A'):=kS GC (List.mem_append_left _ (by rw [←ek];exact gT))
           rw [ek,←f1,f2];simp only [Gh.tC,f3]
          ·cases h6
         ·cases h6
       have jo:∀ x b,eU (G2.tC (e.a ++ e.b)) (L.st e.c e.v) x b→∃ x',eU G2 e.st x' b∧((∃ o,x=(false,o)∧x' = (false,o))∨∃ nm a A,x=(true,nm)∧x' = (true,a)∧look (e.a ++ e.b) nm=some (some a,A)):=fun x b hx=>by
        obtain⟨x',h1,h2⟩:=N.oW x b hx;refine⟨x',?_,h2⟩;obtain⟨kd,nn⟩:=x';cases kd with
        |false=>obtain⟨⟨ls,hl⟩,e⟩:=h1;exact⟨⟨ls,by rw [IP EN];exact hl⟩,e⟩
        |true=>obtain⟨⟨A,hA,hs⟩,e⟩:=h1;exact⟨⟨A,by rw [IN EN];exact hA,hs⟩,e⟩
       have m5:=M.ok me jo y4 m4 GB;refine⟨s4,b4,G4,_,m4,a4,k4,zg,q5,hn4,m5,fun act ra=>M.et m4.s0 ?_⟩;refine ra.sub a02 ?_ fun i=>?_<;>rw [EN.st'];rfl
   have Ic:∀ s3 G3 w' act,sG L e.c s3→aB (vF (L.st e.c e.v) (G2.tC (e.a ++ e.b)) w) s3 G3 w'→bI G3 s3 act→out e.c s3=some x→act.defers = []∧∃ v,(results fn act.tmps).run P w' = .ok v w'∧
     ∃ av st' G',aB X st' G' w'∧(∀ act,bI G st act→bI G' st' act)∧aT G' av v∧K av st' = some r:=fun s3 G3 w' act OY m3 r3 ho=>by
    refine⟨r3.1.trans m3.ds,?_⟩;obtain⟨avs,told,o,news,g0,g1,g3⟩:=h2 _ _ _ ho;rw [g3] at hr;cases su:Cv dst L told o news e.st with
    |false=>simp [su] at hr
    |true=>
     simp only [su,cond_true] at hr;obtain⟨yg,it,hav⟩:=I2 hE.ir m3 r3 g0;obtain⟨s4,b4,G4,kW,m4,a4,k4,zg,hqk,hn4,m5,rg⟩:=iz (s3:=PH L.pin avs s3) ⟨OY.1,OY.2.1,OY.2.2.1,OY.2.2.2⟩ (m3.Vi rfl rfl rfl rfl rfl rfl) g1 su;refine⟨_,it,_,_,_,m5,rg,?_,hr⟩;obtain⟨f1,f2,f3,f4,f5,f6,f7⟩:=Cw su;have hvl:yg.length=fn.results.toList.length:=by rw [←All2.length hav,C1 g0]
     rw [←hvl]
     conv=>arg 3;rw [←RT yg]
     have hφ4:∀ q tl,(L.st e.c e.v).dJ q=some tl→G4.φ q=G2.φ q∧G4.pre q=G2.pre q:=fun q tl hq=>by obtain⟨n,hqm,_⟩:=wv hq;have:=(m4.pin q _ (NE (Pd EN.MJ hqm) hq)).2;simp only [Prod.mk.injEq] at this;exact⟨this.1.symm,this.2.1.symm⟩
     have acC:∀ p∈news,(L.st e.c e.v).dJ p.2.2=none:=fun p hp=>by
      cases ht:(L.st e.c e.v).dJ p.2.2 with
      |none=>rfl
      |some tl=>obtain⟨n,hqm,_⟩:=wv ht;obtain⟨ls,Mj,_⟩:=oo (Gr EN) hqm;rw [(f3 p hp).1] at Mj;cases Mj
     have Z0:∀{pl:Pl} {sp:ml},(pl,sp)∈told→∀ q off,sp = .lit (.mT q off)→(∃ tl,(L.st e.c e.v).dJ q=some tl)∨q∈news.map (·.1):=fun {pl sp} e1 q off hs=>
      (f7 _ e1 q off hs).imp (fun hq=>ux (f:=fun p=>oZ (bY L.cs e.c) (bY L.vs e.v) p.1 0 p.2) hq) id
     have Z4:∀ i,(eT (Pl.r i).key L.pin=false∨(s4.tB i).qls≠none)→aT G4 (s4.tB i) (yg.getD (i - 500000) undef):=fun i hpi=>by
      unfold St.tB;cases hs:s4.ib i with
      |none=>trivial
      |some v=>
       have hsv:s4.tB i=v:=by unfold St.tB;rw [hs]
       rw [k4.ib] at hs;have AK:look (oN 500000 avs) i=some v:=by
        have pP:s3.jd = []:=by
         rw [OY.2.1];have hl:=EN.MJ;simp only [xD,Bool.and_eq_true,List.all_eq_true] at hl;have key:∀{cs:kI} {c:PV cs},(∀ p∈cs,(match p.1 with | .l _ _=>true | _=>false)=true)→lr cs c = []:=by
          intro cs;induction cs with
          |nil=>intro c _;rfl
          |cons p r ih=>
           intro c h;obtain⟨pl,sp⟩:=p;cases pl with
           |r i=>have:=h _ (List.mem_cons_self ..);simp at this
           |q i j=>have:=h _ (List.mem_cons_self ..);simp at this
           |l o j=>exact ih fun p hp=>h p (List.mem_cons_of_mem _ hp)
         exact key hl.2
        have:(PH L.pin avs s3).ib i=(match look (oN 500000 avs ++ Dv L.pin s3) i with | some v=>some v | none=>look s3.jd i):=rfl
        rw [this,pP,ij] at hs;cases hq:look (oN 500000 avs) i with
        |some u=>rw [hq] at hs;exact hs
        |none=>
         rw [hq] at hs;simp only at hs;cases hp:look (Dv L.pin s3) i with
         |none=>rw [hp] at hs;cases hs
         |some u=>
          rcases hpi with hpi | hpi
          ·rw [PD hpi] at hp;cases hp
          ·rw [hp] at hs
           cases hs;rw [hsv] at hpi;exact absurd (RM hp) hpi
       obtain⟨j,u,q1,q2,q3⟩:=Ci hav AK;have:yg.getD (i - 500000) undef=u:=by rw [q1,Nat.add_sub_cancel_left,List.getD_eq_getElem?_getD,q2];rfl
       rw [this];exact q3.sub a4
     have acd:=Iz zg (dst:=dst) (news:=news) (pin:=L.pin) (ba:=e.b);refine Zo (fun i av hl=>?_) _;unfold Qn at hl;rw [ij] at hl;cases hlr:look (I1 dst L.pin news told o) i with
     |some av'=>
      rw [hlr] at hl;cases hl;obtain⟨sp,x',bp,e1,e2,e3,rfl⟩:=acd.2.1 hlr;cases hpi:eT (Pl.r i).key L.pin with
      |true=>exact⟨.inl ⟨_,rfl⟩,by unfold xR;rw [hpi];trivial⟩
      |false=>exact⟨.inl ⟨_,rfl⟩,DE (t:=L.st e.c e.v) (p:=.r i) e2 e3 hn4 ⟨_,_,m4⟩ hφ4 f5 acC (Z0 e1) (Z4 i (.inl hpi))⟩
     |none=>
      rw [hlr] at hl;simp only at hl;have gT:=dT hl;obtain⟨⟨k,n⟩,hk1,hk2⟩:=List.mem_map.1 gT;simp only [Prod.mk.injEq] at hk2;obtain⟨rfl,rfl⟩:=hk2;refine⟨.inr ⟨_,rfl⟩,?_⟩;have hq4:=List.all_eq_true.1 hqk _ hk1;split at hq4
      ·rename_i ls Mj
       obtain⟨cs,c1,c2⟩:=XR m4 Mj (Z4 k (.inr (by rw [Mj];exact fun h=>by cases h)))
       refine⟨cs,c1,RR (R:=aX G4) (sl:=ls) (fun j a lf u ha O4 hu=>?_) n 0 ls cs (Nat.eq_of_beq_eq_true hq4) (fun k=>by rw [Nat.zero_add]) c2⟩
       obtain⟨sp,x',bp,e1,e2,e3,rfl⟩:=acd.2.2.1 O4;exact DE (t:=L.st e.c e.v) (p:=.q k j) e2 e3 hn4 ⟨_,_,m4⟩ hφ4 f5 acC (Z0 e1) (by
        simp only [St.at,Mj,ha];exact hu)
      ·cases hq4
   have aa5:∀ av u s3 G3 w',sG L e.c s3→aB (vF (L.st e.c e.v) (G2.tC (e.a ++ e.b)) w) s3 G3 w'→aT G3 av u→pout e.c av s3=some x→∃ av st' G',aB X st' G' w'∧aT G' av u∧KP av st' = some r:=fun av u s3 G3 w' OY m3 hv ho=>by
    obtain⟨T,ls,rfl,hd,g1,g2⟩:=h3 _ _ _ _ ho;rw [g2] at hr;obtain⟨s4,b4,G4,kW,m4,a4,k4,zg,hqk,hn4,m5,rg⟩:=iz OY m3 g1 (by simp [Cv,qW,nN])
    refine⟨_,_,_,m5,?_,hr⟩;obtain⟨x',cs,e1,e2,e3⟩:=hv;exact⟨x',cs,e1,e2,ZO (G:=G4) (G':=G2.iz G4 (xS dst (vo L.pin b4)) kW (BD [])) rfl hd (FM a4 e3)⟩
   refine⟨zL _ _,calls_of_wp hf hb ?_⟩;have hx1:=(N7 hE.OJ hE.aad body (K':=fun e' s=>gd L e.c s (match e' with | .normal=>out e.c s | .ret=>out e.c s | _=>none))
    (KP':=fun av s=>gd L e.c s (pout e.c av s)) (fun e s hs=>(H8 ⟨hs.1.symm,hs.2.1,hs.2.2.1,hs.2.2.2⟩).symm) (fun av s hs=>(H8 ⟨hs.1.symm,hs.2.1,hs.2.2.1,hs.2.2.2⟩).symm)).symm.trans hx1
   refine yK hE Ap body hL hx1 hmi vZ (fun e s G3 w' act m3 r3 hk=>?_) (fun av v s G3 w' act m3 r3 hv hk=>?_)
   ·obtain⟨OY,hk⟩:=Dj hk
    cases e with
    |normal=>exact Ic s G3 w' act OY m3 r3 hk
    |ret=>exact Ic s G3 w' act OY m3 r3 hk
    |_=>cases hk
   ·obtain⟨OY,hk⟩:=Dj hk
    obtain⟨av',st',G',q1,q2,q3⟩:=aa5 av v s G3 w' OY m3 hv hk;exact⟨r3.trans m3.ds,_,rfl,av',st',G',q1,q2,q3⟩
end
end Go.Fx
namespace Go.Fx
def UJ:TD→TypeDesc→Bool
 |.int k,.int k'=>decide (k=k')
 |.bool,.bool=>true
 |.str,.string=>true
 |.slice e,.slice e'=>Nat.beq e e'
 |.struct fs,.struct nL=>decide (fs=nL.toList.map fun f=>(f.offset,f.type))
 |.mT e,.pointer e'=>Nat.beq e e'
 |.arr n e,.array n' e'=>Nat.beq n n' && Nat.beq e e'
 |.mp k v,.map k' v'=>Nat.beq k k' && Nat.beq v v'
 |.Xw,d=>!d.isRow && (match d with | .int _=>false | .string=>false | .slice _=>false | _=>true)
 |_,_=>false
theorem Yn{x:TD}{d:TypeDesc}(h:UJ x d=true):xW x d:=by
 cases x<;>cases d<;>simp_all [UJ,xW]
 all_goals first | exact Nat.eq_of_beq_eq_true h | exact⟨Nat.eq_of_beq_eq_true h.1,Nat.eq_of_beq_eq_true h.2⟩ | skip
def acV:Kd→Kd→Bool
 |.int k,.int k'=>decide (k=k')
 |.bool,.bool=>true
 |.str,.str=>true
 |_,_=>false
def T4:List Kd→List Kd→Bool
 |[],[]=>true
 |a :: r,b :: s=>acV a b && T4 r s
 |_,_=>false
theorem Rc:∀{a b:List Kd},T4 a b=true→a=b
 |[],[],_=>rfl
 |x :: r,y :: s,h=>by simp only [T4,Bool.and_eq_true] at h;rw [Rc h.2];have:=h.1;cases x<;>cases y<;>simp_all [acV]
 |[],_ :: _,h=>by cases h
 |_ :: _,[],h=>by cases h
def abl(P:Program)(ti:TI):Bool:=
 match ti.iA with
 |.mp k v=>(match P.underlying k,P.underlying v,(P.info? v).bind (·.zero) with
  |some .string,some (.int .i64),some (.int .i64 n)=>decide (n=0)
  |_,_,_=>false)
 |_=>true
theorem Y4{P:Program}{ti:TI}(h:abl P ti=true):∀ k v,ti.iA = .mp k v→P.underlying k=some .string∧P.underlying v=some (.int .i64)∧∃ j,P.info? v=some j∧j.zero=some (.int .i64 0):=fun k v hd=>by
 unfold abl at h;rw [hd] at h;simp only at h;split at h
 ·rename_i n h1 h2 h3
  obtain⟨j,h4,h5⟩:=Option.bind_eq_some_iff.1 h3;have:n=0:=by simpa using h
  exact⟨h1,h2,j,h4,by rw [h5,this]⟩
 ·cases h
def YF(P:Program)(t:TypeId)(ti:TI):Bool:=
 abl P ti &&
 match ti.iA.agg,ti.ty.bind Ij with
 |true,some ks=>(match Bw P 6 t with | some l=>T4 l ks | none=>false)
 |_,_=>true
theorem adr{P:Program}{t:TypeId}{i:TypeInfo}{d:TypeDesc}{ti:TI}(h1:P.info? t=some i)(h2:P.underlying t=some d)(h3:i.zero.isSome=true)(h4:(i.zero.getD undef).cells.toList=ti.zero)
  (h5:(UJ ti.iA d && Nat.beq i.size ti.size && Nat.beq i.bytes ti.bytes && (ti.iA.agg || Nat.beq ti.size 1) && Nat.beq ti.zero.length ti.size)=true) (h6:YF P t ti=true):yT P t ti:=by
 simp only [Bool.and_eq_true,Bool.or_eq_true] at h5;obtain⟨⟨⟨⟨a,b⟩,c⟩,e⟩,f⟩:=h5;refine⟨i,d,i.zero.getD undef,h1,h2,Nat.eq_of_beq_eq_true b,Nat.eq_of_beq_eq_true c,?_,h4,Yn a,fun hn=>?_,Nat.eq_of_beq_eq_true f,fun ks h7 h8=>?_,Y4 (by unfold YF at h6;simp only [Bool.and_eq_true] at h6;exact h6.1)⟩
 ·cases hz:i.zero with
  |none=>rw [hz] at h3;cases h3
  |some z=>rfl
 ·rcases e with e | e
  ·rw [hn] at e;cases e
  ·exact Nat.eq_of_beq_eq_true e
 ·unfold YF at h6
  simp only [Bool.and_eq_true] at h6
  replace h6:=h6.2
  rw [h7,h8] at h6;simp only at h6;split at h6
  ·rename_i l hl;rw [hl,Rc h6]
  ·cases h6
def Yw(P:Program):List (Nat×TI)→Prop
 |[]=>True
 |p :: r=>yT P p.1 p.2∧Yw P r
theorem UI{P:Program}:∀{l:List (Nat×TI)},Yw P l→iy P (look l)
 |[],_,t,ti,h=>by cases h
 |p :: r,hl,t,ti,h=>by
  obtain⟨k,v⟩:=p;rw [aw] at h;by_cases e:k=t
  ·subst e;simp only [if_true,Option.some.injEq] at h;subst h;exact hl.1
  ·simp only [e,if_false] at h;exact UI hl.2 t ti h
def Rj{α:Type 1}:List (Nat×α)→Nat→Option α
 |[],_=>none
 |(k,v) :: r,i=>bif Nat.beq k i then some v else Rj r i
theorem z8{α:Type 1}:∀{l:List (Nat×α)} {k:Nat} {v:α},Rj l k=some v→(k,v)∈l
 |(k',v') :: r,k,v,h=>by
  simp only [Rj] at h;cases hb:Nat.beq k' k with
  |true=>simp only [hb,cond_true,Option.some.injEq] at h;obtain rfl:=Nat.eq_of_beq_eq_true hb;subst h;exact List.mem_cons_self ..
  |false=>simp only [hb,cond_false] at h;exact List.mem_cons_of_mem _ (z8 h)
structure lZ(P:Program)(gt:Nat→Option GA)(f:FuncId)(s:iT):Prop where
 ok:zy P gt f s
 det:oL s
 OJ:mO s
def Qe(P:Program)(gt:Nat→Option GA):List (Nat×iT)→Prop
 |[]=>True
 |p :: r=>lZ P gt p.1 p.2∧Qe P gt r
theorem Qe.mem{P:Program}{gt:Nat→Option GA}:∀{l:List (Nat×iT)},Qe P gt l→∀ p∈l,lZ P gt p.1 p.2
 |[],_,_,h=>by cases h
 |q :: r,hl,p,h=>by
  rcases List.mem_cons.1 h with rfl | h
  ·exact hl.1
  ·exact hl.2.mem p h
def Qd:List (Nat×kZ)→Prop
 |[]=>True
 |p :: r=>zt p.2∧Qd r
theorem Qd.mem:∀{l:List (Nat×kZ)},Qd l→∀ p∈l,zt p.2
 |[],_,_,h=>by cases h
 |q :: r,hl,p,h=>by
  rcases List.mem_cons.1 h with rfl | h
  ·exact hl.1
  ·exact hl.2.mem p h
def ZS(gt:Nat→Option GA)(ir:List (Nat×TI))(Zs:List (Nat×iT))(nU:List (Nat×kZ))(on:List (Nat×Nat)):rQ:=
 ⟨gt,look ir,Rj Zs,Rj nU,fun n=>match look on n with | some o=>o | none=>n + 10000⟩
theorem aaL{P:Program}{gt:Nat→Option GA}{ir:List (Nat×TI)}{Zs:List (Nat×iT)}{nU:List (Nat×kZ)}{on:List (Nat×Nat)}(WH:P.follows .mixedOrders=true)(ht:Yw P ir)(hs:Qe P gt Zs)(hl:Qd nU):Ee P (ZS gt ir Zs nU on):=
 ⟨UI ht,WH,fun f s h=>(hs.mem _ (z8 h)).ok,fun f s h=>(hs.mem _ (z8 h)).det,fun f s h=>(hs.mem _ (z8 h)).OJ,fun i L h=>hl.mem _ (z8 h)⟩
def Se:kI→List Ty
 |[]=>[]
 |(_,.d t) :: r=>t :: Se r
 |(_,.h _ t) :: r=>.slice t :: Se r
 |(_,.any) :: r=>Se r
 |(_,.lit _) :: r=>Se r
def LC:(ps:kI)→PV ps→DL (Se ps)
 |[],_=>()
 |(_,.d _) :: r,v=>(v.1,LC r v.2)
 |(_,.h _ _) :: r,v=>(v.1,LC r v.2)
 |(_,.any) :: r,v=>LC r v.2
 |(_,.lit _) :: r,v=>LC r v.2
def toPV:(ps:kI)→DL (Se ps)→PV ps
 |[],_=>()
 |(_,.d _) :: r,v=>(v.1,toPV r v.2)
 |(_,.h _ _) :: r,v=>(v.1,toPV r v.2)
 |(_,.any) :: r,v=>((),toPV r v)
 |(_,.lit _) :: r,v=>((),toPV r v)
theorem Oo:∀{ps:kI} {v:PV ps},toPV ps (LC ps v)=v
 |[],_=>rfl
 |(_,.d _) :: r,v=>by show(v.1,toPV r (LC r v.2))=v;rw [Oo]
 |(_,.h _ _) :: r,v=>by show(v.1,toPV r (LC r v.2))=v;rw [Oo]
 |(_,.any) :: r,v=>by show((),toPV r (LC r v.2))=v;rw [Oo]
 |(_,.lit _) :: r,v=>by show((),toPV r (LC r v.2))=v;rw [Oo]
def Nt:(ts:List Ty)→List af→Option (DL ts)
 |[],[]=>some ()
 |t :: ts,.eX u d :: r=>(match uJ u t d,Nt ts r with | some x,some y=>some (x,y) | _,_=>none)
 |_,_=>none
def Wc:(ts:List Ty)→DL ts→List af
 |[],_=>[]
 |t :: r,d=>.eX t d.1 :: Wc r d.2
theorem Gy:∀{ts:List Ty} {ls:List af} {d:DL ts},Nt ts ls=some d→vd ls=true∧Wc ts d=ls
 |[],[],_,_=>⟨rfl,rfl⟩
 |t :: ts,.eX u x :: r,d,h=>by
  simp only [Nt] at h;split at h
  ·rename_i x' y h1 h2
   simp only [Option.some.injEq] at h;subst h;obtain⟨e1,e2⟩:=Gy h2;obtain⟨rfl,rfl⟩:=lk h1;exact⟨e1,by simp [Wc,e2]⟩
  ·cases h
 |[],_ :: _,_,h=>by cases h
 |_ :: _,[],_,h=>by cases h
 |_ :: _,.any :: _,_,h=>by cases h
 |_ :: _,.uB :: _,_,h=>by cases h
 |_ :: _,.t6 :: _,_,h=>by cases h
 |_ :: _,.nil :: _,_,h=>by cases h
 |_ :: _,.Ir :: _,_,h=>by cases h
 |_ :: _,.mq _ :: _,_,h=>by cases h
 |_ :: _,.mT _ _ :: _,_,h=>by cases h
 |_ :: _,.Cs _ _ _ _ :: _,_,h=>by cases h
 |_ :: _,.M5 _ _ _ :: _,_,h=>by cases h
 |_ :: _,.fn _ :: _,_,h=>by cases h
 |_ :: _,.ga _ _ :: _,_,h=>by cases h
inductive VO where
 |ret (told:kI) (news:List (Nat×Nat×Nat)) | zh (T:TypeId) (ts:List Ty)
def VO.tys:VO→List Ty
 |.ret told _=>Se told
 |.zh _ ts=>ts
@[reducible] def WO:List VO→Type
 |[]=>Empty
 |[v]=>DL v.tys
 |v :: u :: r=>DL v.tys⊕WO (u :: r)
def VO.out(L:pN)(al:AL)(s:St):(v:VO)→Option (DL v.tys)
 |.ret told news=>(M4 L al told news s).map (LC told)
 |.zh _ _=>none
def VO.pout(L:pN)(al:AL)(av:ae)(s:St):(v:VO)→Option (DL v.tys)
 |.ret _ _=>none
 |.zh T ts=>(match av with
  |.y5 T' ls=>(bif Nat.beq T T' then(match M4 L al [] [] s with | some _=>Nt ts ls | none=>none) else none)
  |_=>none)
def VO.dk(res:List Nat){R:Type}:(v:VO)→DL v.tys→((told:kI)→PV told→List (Nat×Nat×Nat)→List Nat→Option R)→(TypeId→List af→Option R)→Option R
 |.ret told news,d,f,_=>f told (toPV told d) news res
 |.zh T ts,d,_,g=>g T (Wc ts d)
def Zb(L:pN)(al:AL)(s:St):(vs:List VO)→Option (WO vs)
 |[]=>none
 |[v]=>v.out L al s
 |v :: u :: r=>(match v.out L al s with | some o=>some (.inl o) | none=>(Zb L al s (u :: r)).map .inr)
def Ur(L:pN)(al:AL)(av:ae)(s:St):(vs:List VO)→Option (WO vs)
 |[]=>none
 |[v]=>v.pout L al av s
 |v :: u :: r=>(match v.pout L al av s with | some o=>some (.inl o) | none=>(Ur L al av s (u :: r)).map .inr)
def Ao(res:List Nat):(vs:List VO)→DkO (WO vs)
 |[]=>fun _ x _ _=>x.elim
 |[v]=>fun _ x f g=>v.dk res x f g
 |v :: u :: r=>fun R x f g=>(match x with | .inl o=>v.dk res o f g | .inr y=>Ao res (u :: r) R y f g)
theorem Yq(res:List Nat)(v:VO)(d:DL v.tys):(∃ told o news aeq,∀(R:Type) (f:(told:kI)→PV told→List (Nat×Nat×Nat)→List Nat→Option R) g,v.dk res d f g=f told o news aeq)∨
  ∃ T ls,∀(R:Type) (f:(told:kI)→PV told→List (Nat×Nat×Nat)→List Nat→Option R) g,v.dk res d f g=g T ls:=by
 cases v with
 |ret told news=>exact .inl ⟨_,_,_,_,fun _ _ _=>rfl⟩
 |zh T ts=>exact .inr ⟨_,_,fun _ _ _=>rfl⟩
theorem KQ(res:List Nat):∀(vs:List VO),aau (Ao res vs)
 |[],x=>x.elim
 |[v],x=>Yq res v x
 |v :: u :: r,.inl d=>Yq res v d
 |v :: u :: r,.inr y=>KQ res (u :: r) y
theorem UN{L:pN}{al:AL}{s:St}{res:List Nat}{v:VO}{x:DL v.tys}(h:v.out L al s=some x):
  ∃ told o news,M4 L al told news s=some o∧∀(R:Type) (f:(told:kI)→PV told→List (Nat×Nat×Nat)→List Nat→Option R) g,v.dk res x f g=f told o news res:=by
 cases v with
 |ret told news=>obtain⟨o,h1,rfl⟩:=Option.map_eq_some_iff.1 h;exact⟨told,o,news,h1,fun R f g=>by simp only [VO.dk,Oo]⟩
 |zh T ts=>cases h
theorem Uj{L:pN}{al:AL}{s:St}{res:List Nat}:∀{vs:List VO} {x:WO vs},Zb L al s vs=some x→
  ∃ told o news,M4 L al told news s=some o∧∀(R:Type) (f:(told:kI)→PV told→List (Nat×Nat×Nat)→List Nat→Option R) g,Ao res vs R x f g=f told o news res
 |[],x,h=>by cases h
 |[v],x,h=>UN h
 |v :: u :: r,x,h=>by
  simp only [Zb] at h;split at h
  ·rename_i o ho
   simp only [Option.some.injEq] at h;subst h;exact UN ho
  ·obtain⟨y,h1,rfl⟩:=Option.map_eq_some_iff.1 h
   exact Uj (vs:=u :: r) h1
theorem Si{L:pN}{al:AL}{s:St}{av:ae}{res:List Nat}{v:VO}{x:DL v.tys}(h:v.pout L al av s=some x):
  ∃ T ls,av = .y5 T ls∧vd ls=true∧M4 L al [] [] s=some ()∧∀(R:Type) (f:(told:kI)→PV told→List (Nat×Nat×Nat)→List Nat→Option R) g,v.dk res x f g=g T ls:=by
 cases v with
 |ret told news=>cases h
 |zh T ts=>
  simp only [VO.pout] at h;split at h
  ·rename_i T' ls
   cases hb:Nat.beq T T' with
   |false=>simp [hb] at h
   |true=>
    simp only [hb,cond_true] at h;obtain rfl:=Nat.eq_of_beq_eq_true hb;split at h
    ·rename_i u hu
     obtain⟨e1,e2⟩:=Gy h;exact⟨T,ls,rfl,e1,hu,fun R f g=>by simp only [VO.dk,e2]⟩
    ·cases h
  ·cases h
theorem RN{L:pN}{al:AL}{s:St}{av:ae}{res:List Nat}:∀{vs:List VO} {x:WO vs},Ur L al av s vs=some x→
  ∃ T ls,av = .y5 T ls∧vd ls=true∧M4 L al [] [] s=some ()∧∀(R:Type) (f:(told:kI)→PV told→List (Nat×Nat×Nat)→List Nat→Option R) g,Ao res vs R x f g=g T ls
 |[],x,h=>by cases h
 |[v],x,h=>Si h
 |v :: u :: r,x,h=>by
  simp only [Ur] at h;split at h
  ·rename_i o ho
   simp only [Option.some.injEq] at h;subst h;exact Si ho
  ·obtain⟨y,h1,rfl⟩:=Option.map_eq_some_iff.1 h
   exact RN (vs:=u :: r) h1
def qK(f:Func):Code:=f.body.getD .skip
def kO1(E:rQ)(rv:List ResultVar)(L:pN)(vs:List VO)(c:PV L.cs)(s:St):Option (WO vs):=
 match JT E s rv with
 |some avs=>Zb L (fR L.cs c) (PH L.pin avs s) vs
 |none=>none
def kO(E:rQ)(rv:List ResultVar)(L:pN)(vs:List VO)(c:PV L.cs)(e:Exit)(s:St):Option (WO vs):=
 match e with
 |.normal=>kO1 E rv L vs c s
 |.ret=>kO1 E rv L vs c s
 |_=>none
def kP(L:pN)(vs:List VO)(c:PV L.cs)(av:ae)(s:St):Option (WO vs):=Ur L (fR L.cs c) av s vs
theorem Wv{P:Program}{E:rQ}(hE:Ee P E){f:FuncId}{fn:Func}{L:pN}{vs:List VO}{res:List Nat}{F:PV L.cs→PV L.vs→Option (WO vs)}
  (hf:P.funcs[f]? = some fn) (zL:∀ args w,(callFunc f args).run P w = .ok (.enter f args) w) (hb:fn.body.isSome=true) (hL:rH P E (qK fn)) (hn:Nat.beq fn.ntmps L.n=true) (zO:Hf fn.results.toList.length=res)
  (h:∀ c v,F c v=rW E (qK fn) (L.st c v) (kO E fn.results.toList L vs c) (kP L vs c)):lZ P E.gt f (mF L F (Ao res vs)):=by
 have Gz:fn.body=some (qK fn):=by
  unfold qK;cases hh:fn.body with
  |none=>rw [hh] at hb;cases hb
  |some b=>rfl
 refine⟨aaP hE hf Gz zL hL (Nat.eq_of_beq_eq_true hn) (out:=fun c s=>kO1 E fn.results.toList L vs c s) (pout:=kP L vs) (fun c v x hx=>?_) (fun c s x hx=>?_) (fun c av s x hx=>RN hx),R1 _ _ _ (KQ res vs),Oa _ _ _ (KQ res vs)⟩
 ·rw [←hx,h]
  rfl
 ·simp only [kO1] at hx
  split at hx
  ·rename_i avs hav
   obtain⟨told,o,news,g1,g2⟩:=Uj (res:=res) hx;exact⟨avs,told,o,news,hav,g1,by rw [zO];exact g2⟩
  ·cases hx
theorem dg{P:Program}{gt:Nat→Option GA}{f:FuncId}{L:pN}{vs:List VO}{res:List Nat}{F:PV L.cs→PV L.vs→Option (WO vs)}(h:∀ c v,F c v=none):lZ P gt f (mF L F (Ao res vs)):=by
 refine⟨fun {R r X st G w dst args us K KP} hr _ _ _=>?_,R1 _ _ _ (KQ res vs),Oa _ _ _ (KQ res vs)⟩;simp only [mF] at hr;split at hr
 ·cases hr
 ·rw [h] at hr
  rename_i e _;cases hb:(TG L e.st && OK L.pin e.b e.st)<;>simp [hb] at hr
def kD(E:rQ)(rv:List ResultVar)(rs:List Ty)(e:Exit)(s:St):Option (DL rs):=
 match e with
 |.normal=>M3 E rv rs s
 |.ret=>M3 E rv rs s
 |_=>none
theorem U8{P:Program}{E:rQ}(hE:Ee P E){f:FuncId}{fn:Func}{ts rs:List Ty}{F:DL ts→Option (DL rs)}
  (hf:P.funcs[f]? = some fn) (zL:∀ args w,(callFunc f args).run P w = .ok (.enter f args) w) (hb:fn.body.isSome=true) (hL:rH P E (qK fn)) (hn:Nat.ble ts.length fn.ntmps=true)
  (h:∀ d,F d=rW E (qK fn) (stD fn.ntmps ts d) (kD E fn.results.toList rs) (fun _ _=>none)):lZ P E.gt f (Ah ts rs F id):=by
 have Gz:fn.body=some (qK fn):=by
  unfold qK;cases hh:fn.body with
  |none=>rw [hh] at hb;cases hb
  |some b=>rfl
 refine⟨YL hE (pack:=id) (fun r=>rfl) hf Gz zL hL (Nat.le_of_ble_eq_true hn) fun d=>?_,Ai _ _ _ _,wy _ _ _ _⟩;rw [h]
 congr 1
 funext e s
 cases e<;>simp [kD]
theorem aaQ{P:Program}{gt:Nat→Option GA}{f:FuncId}{ts rs:List Ty}{F:DL ts→Option (DL rs)}(h:∀ d,F d=none):lZ P gt f (Ah ts rs F id):=by
 refine⟨fun {R r X st G w dst args us K KP} hr _ _ _=>?_,Ai _ _ _ _,wy _ _ _ _⟩;simp only [Ah] at hr;split at hr
 ·split at hr
  ·rw [h] at hr;cases hr
  ·cases hr
 ·cases hr
inductive VL where
 |ex (e:Exit) (told:kI) | zh (T:TypeId) (ts:List Ty)
def YH:Exit→Exit→Bool
 |.normal,.normal=>true
 |.ret,.ret=>true
 |.exit i,.exit j=>Nat.beq i j
 |_,_=>false
theorem YI{e e':Exit}(h:YH e e' = true):e=e':=by cases e<;>cases e'<;>simp_all [YH]
def VL.tys:VL→List Ty
 |.ex _ told=>Se told
 |.zh _ ts=>ts
@[reducible] def WL:List VL→Type
 |[]=>Empty
 |[v]=>DL v.tys
 |v :: u :: r=>DL v.tys⊕WL (u :: r)
def VL.out(L:pN)(al:AL)(e:Exit)(s:St):(v:VL)→Option (DL v.tys)
 |.ex e' told=>bif YH e e' then(rnd (L.with told) al s).map (LC told) else none
 |.zh _ _=>none
def VL.pout(L:pN)(al:AL)(av:ae)(s:St):(v:VL)→Option (DL v.tys)
 |.ex _ _=>none
 |.zh T ts=>(match av with
  |.y5 T' ls=>(bif Nat.beq T T' then(match rnd (L.with []) al s with | some _=>Nt ts ls | none=>none) else none)
  |_=>none)
def VL.dk{R:Type}:(v:VL)→DL v.tys→((e:Exit)→(vs:kI)→PV vs→Option R)→(TypeId→List af→Option R)→Option R
 |.ex e told,d,f,_=>f e told (toPV told d)
 |.zh T ts,d,_,g=>g T (Wc ts d)
def Vp(L:pN)(al:AL)(e:Exit)(s:St):(vs:List VL)→Option (WL vs)
 |[]=>none
 |[v]=>v.out L al e s
 |v :: u :: r=>(match v.out L al e s with | some o=>some (.inl o) | none=>(Vp L al e s (u :: r)).map .inr)
def Uq(L:pN)(al:AL)(av:ae)(s:St):(vs:List VL)→Option (WL vs)
 |[]=>none
 |[v]=>v.pout L al av s
 |v :: u :: r=>(match v.pout L al av s with | some o=>some (.inl o) | none=>(Uq L al av s (u :: r)).map .inr)
def dkL:(vs:List VL)→Dk (WL vs)
 |[]=>fun x _ _=>x.elim
 |[v]=>fun x f g=>v.dk x f g
 |v :: u :: r=>fun x f g=>(match x with | .inl o=>v.dk o f g | .inr y=>dkL (u :: r) y f g)
theorem Sh{L:pN}{al:AL}{e:Exit}{s:St}{v:VL}{x:DL v.tys}(h:v.out L al e s=some x):
  ∃ told o,rnd (L.with told) al s=some o∧∀(R:Type) (f:(e:Exit)→(vs:kI)→PV vs→Option R) g,v.dk x f g=f e told o:=by
 cases v with
 |ex e' told=>
  simp only [VL.out] at h;cases hb:YH e e' with
  |false=>simp [hb] at h
  |true=>simp only [hb,cond_true] at h;obtain rfl:=YI hb;obtain⟨o,h1,rfl⟩:=Option.map_eq_some_iff.1 h;exact⟨told,o,h1,fun R f g=>by simp only [VL.dk,Oo]⟩
 |zh T ts=>cases h
theorem PA{L:pN}{al:AL}{e:Exit}{s:St}:∀{vs:List VL} {x:WL vs},Vp L al e s vs=some x→
  ∃ told o,rnd (L.with told) al s=some o∧∀(R:Type) (f:(e:Exit)→(vs:kI)→PV vs→Option R) g,dkL vs (R:=R) x f g=f e told o
 |[],x,h=>by cases h
 |[v],x,h=>Sh h
 |v :: u :: r,x,h=>by
  simp only [Vp] at h;split at h
  ·rename_i o ho
   simp only [Option.some.injEq] at h;subst h;exact Sh ho
  ·obtain⟨y,h1,rfl⟩:=Option.map_eq_some_iff.1 h
   exact PA (vs:=u :: r) h1
theorem Ot{L:pN}{al:AL}{s:St}{av:ae}{v:VL}{x:DL v.tys}(h:v.pout L al av s=some x):
  ∃ T ls,av = .y5 T ls∧vd ls=true∧rnd (L.with []) al s=some ()∧∀(R:Type) (f:(e:Exit)→(vs:kI)→PV vs→Option R) g,v.dk x f g=g T ls:=by
 cases v with
 |ex e' told=>cases h
 |zh T ts=>
  simp only [VL.pout] at h;split at h
  ·rename_i T' ls
   cases hb:Nat.beq T T' with
   |false=>simp [hb] at h
   |true=>
    simp only [hb,cond_true] at h;obtain rfl:=Nat.eq_of_beq_eq_true hb;split at h
    ·rename_i u hu
     obtain⟨e1,e2⟩:=Gy h;exact⟨T,ls,rfl,e1,hu,fun R f g=>by simp only [VL.dk,e2]⟩
    ·cases h
  ·cases h
theorem LU{L:pN}{al:AL}{s:St}{av:ae}:∀{vs:List VL} {x:WL vs},Uq L al av s vs=some x→
  ∃ T ls,av = .y5 T ls∧vd ls=true∧rnd (L.with []) al s=some ()∧∀(R:Type) (f:(e:Exit)→(vs:kI)→PV vs→Option R) g,dkL vs (R:=R) x f g=g T ls
 |[],x,h=>by cases h
 |[v],x,h=>Ot h
 |v :: u :: r,x,h=>by
  simp only [Uq] at h;split at h
  ·rename_i o ho
   simp only [Option.some.injEq] at h;subst h;exact Ot ho
  ·obtain⟨y,h1,rfl⟩:=Option.map_eq_some_iff.1 h
   exact LU (vs:=u :: r) h1
def kL(L:pN)(vs:List VL)(c:PV L.cs)(l:PV L.vs→Option (WL vs))(e:Exit)(s:St):Option (WL vs):=
 match e with
 |.normal=>(rnd L (fR L.cs c) s).bind l
 |e=>Vp L (fR L.cs c) e s vs
def kLP(L:pN)(vs:List VL)(c:PV L.cs)(av:ae)(s:St):Option (WL vs):=Uq L (fR L.cs c) av s vs
def kR(L:pN)(vs:List VL)(c:PV L.cs)(s:St):Option (WL vs):=Vp L (fR L.cs c) .normal s vs
noncomputable def abi(id:Nat)(c:Code):Option Code:=
 Code.rec (motive:=fun _=>Option Code) none (fun _ _ _=>none)
  (fun _ _ x y=>match x with | some c=>some c | none=>y) (fun _ _ _ x y=>match x with | some c=>some c | none=>y)
  (fun i b x=>bif Nat.beq i id then(match b with | .loop c=>some c | _=>x) else x) (fun _ x=>x) (fun _ _ _ _ x y=>match x with | some c=>some c | none=>y)
  (fun _=>none) (fun _ x=>x) (fun _=>none) (fun _=>none) none (fun _=>none) c
noncomputable def CN(f:Func)(id:Nat):Code:=(abi id (qK f)).getD .skip
noncomputable def ac4(id:Nat)(c:Code):Option (Array Oper):=
 Code.rec (motive:=fun _=>Option (Array Oper)) none (fun i ops d=>bif Nat.beq i id then some ops else none)
  (fun _ _ x y=>match x with | some c=>some c | none=>y) (fun _ _ _ x y=>match x with | some c=>some c | none=>y)
  (fun i b x=>x) (fun _ x=>x) (fun _ _ _ _ x y=>match x with | some c=>some c | none=>y)
  (fun _=>none) (fun _ x=>x) (fun _=>none) (fun _=>none) none (fun _=>none) c
noncomputable def p9(f:Func)(id:Nat):Array Oper:=(ac4 id (qK f)).getD #[]
noncomputable def ab2(f:Func)(id:Nat):Code:=.block id (.loop (CN f id))
noncomputable def ac3(f:Func)(id:Nat):Code:=.region id (p9 f id) true
def VM(P:Program)(gt:Nat→Option GA):List (Code×kZ)→Prop
 |[]=>True
 |p :: r=>tY P gt p.1 p.2∧VM P gt r
theorem uK{P:Program}{E:rQ}{c:Code}{l:List (Code×kZ)}(e:wR E c=l)(h:VM P E.gt l):rH P E c:=by
 refine Ph e ?_;clear e;induction l with
 |nil=>intro x hx;cases hx
 |cons p r ih=>
  intro x hx;rcases List.mem_cons.1 hx with rfl | hx
  ·exact h.1
  ·exact ih h.2 x hx
theorem Xc{P:Program}{E:rQ}(hE:Ee P E){id:Nat}{f:Func}{L:pN}{vs:List VL}{l:Nat→PV L.cs→PV L.vs→Option (WL vs)}(hb:rH P E (CN f id))(h0:∀ c v,l 0 c v=none)
  (h1:∀ k c v,l (k + 1) c v=rW E (CN f id) (L.st c v) (kL L vs c (l k c)) (kLP L vs c)) (k:Nat):tY P E.gt (ab2 f id) (wc id L (l k) (dkL vs)):=
 Y2 hE (out:=fun c e s=>Vp L (fR L.cs c) e s vs) (pout:=kLP L vs) hb h0 (fun k c v=>by
   rw [h1]
   congr 1)
  (fun c e s x h=>PA h) (fun c av s x h=>LU h) k
theorem Zk{P:Program}{E:rQ}(hE:Ee P E){id:Nat}{f:Func}{L:pN}{vs:List VL}{F:PV L.cs→PV L.vs→Option (WL vs)}{ls:List (List Nat)}
  (hd:Cr (p9 f id).toList (iG (p9 f id).toList [])=true) (hc:iL (p9 f id).toList (iG (p9 f id).toList []) (p9 f id).toList.length []=ls)
  (h1:∀ l∈ls,HX (p9 f id).toList l=true∧∀ c v,F c v=FF E (p9 f id).toList (iG (p9 f id).toList []) l [] (L.st c v) (kR L vs c) (kLP L vs c)):
  tY P E.gt (ac3 f id) (wc (id + 1000000) L F (dkL vs)):=
 abv hE hd hc h1 (fun c s x h=>PA h) (fun c av s x h=>LU h)
def VP{α:Type}(p:α→Prop):List α→Prop
 |[]=>True
 |a :: r=>p a∧VP p r
theorem QI{α:Type}{p:α→Prop}:∀{l:List α},VP p l→∀ a∈l,p a
 |[],_,_,h=>by cases h
 |b :: r,hl,a,h=>by
  rcases List.mem_cons.1 h with rfl | h
  ·exact hl.1
  ·exact QI hl.2 a h
def aa{α β:Type}(f:β→α)(body:(β→α)→α):α:=body f
abbrev I:Ty:=.int .i64
abbrev U:Ty:=.int .u8
end Go.Fx
namespace Go.Fx
def af.low:af→Bool
 |.mq a=>Nat.blt a 1000000000000000000
 |.Cs a _ _ _=>Nat.blt a 1000000000000000000
 |.Dt a _ _ _ _=>Nat.blt a 1000000000000000000
 |.nse a _ _ _ _ _ _ _=>Nat.blt a 1000000000000000000
 |.JY a _ _=>Nat.blt a 1000000000000000000
 |_=>true
def ae.low:ae→Bool
 |.one l=>l.low
 |.agg ls=>ls.all af.low
 |.I8 vs=>vs.all fun p=>p.2.all af.low
 |.y5 _ ls=>ls.all af.low
theorem Rk{a v q:Nat}{x:ae}(h:x.low=true):x.cY true (JM a v q)=false:=by
 have ne:∀{b:Nat},Nat.blt b 1000000000000000000=true→Nat.beq b (JM a v q)=false:=fun {b} hb=>by rw [Nat.blt_eq] at hb;refine ug fun e=>?_;unfold JM at e;omega
 have one:∀{l:af},l.low=true→l.cY true (JM a v q)=false:=fun {l} h=>by cases l<;>simp only [af.cY,af.low,Bool.true_and,Bool.not_true,Bool.false_and] at h ⊢<;>exact ne h
 have all:∀{ls:List af},ls.all af.low=true→ls.any (af.cY true (JM a v q))=false:=fun {ls} h=>by rw [List.any_eq_false];intro l hl;rw [one (List.all_eq_true.1 h l hl)];simp
 cases x with
 |one l=>exact one h
 |agg ls=>exact all h
 |I8 vs=>simp only [ae.cY,ae.low] at h ⊢;rw [List.any_eq_false];intro p hp;rw [all (List.all_eq_true.1 h p hp)];simp
 |y5 t ls=>exact all h
def GQ(o:Nat)(args:List ae):Bool:=args.all fun x=>x.low && !x.cY false o
def yG(j o:Nat)(s:iT):iT where
 run dst args st K KP:=match (args[j]?).map ae.bJ with
  |some (.Cs a sz i 0)=>(bif PQ st a sz && GQ o args then
   D8 st a i o fun s1=>s.run dst (args.set j (.one (.mT o 0))) s1 (fun v s2=>zF s2 a o (K v)) KP else none)
  |some (.Dt a v sz i off)=>(bif PQ st a sz && GQ (obN a v) args && Nat.beq v (st.dy a) && Nat.blt off sz then
   D8 st a i (obN a v) fun s1=>s.run dst (args.set j (.one (.mq (JM a v off)))) s1 (fun r s2=>zF s2 a (obN a v) (K r)) KP else none)
  |_=>s.run dst args st K KP
 Ju args st:=match (args[j]?).map ae.bJ with
  |some (.Cs _ _ _ 0)=>[.all]
  |some (.Dt _ _ _ _ _)=>[.all]
  |_=>s.Ju args st
theorem W8{j o:Nat}{s:iT}(h:oL s):oL (yG j o s):=by
 intro R dst args st K KP;simp only [yG];have key:∀(Ge:List ae) (a o:Nat) (s1:St),s.run dst Ge s1 (fun v s2=>zF s2 a o (K v)) KP=(s.run dst Ge s1 (fun v s2=>zF s2 a o (nT v)) MZ).bind (r0 K KP):=fun Ge a o s1=>by
  rw [h dst Ge s1 (fun v s2=>zF s2 a o (K v)) KP,h dst Ge s1 (fun v s2=>zF s2 a o (nT v)) MZ,Option.bind_assoc]
  congr 1
  funext u
  obtain⟨v,q,b⟩:=u;cases b with
  |true=>simp only [r0,cond_true];exact QB fun s=>rfl
  |false=>rfl
 split
 ·exact da (G0 fun s1=>key _ _ _ s1) rfl
 ·exact da (G0 fun s1=>key _ _ _ s1) rfl
 ·exact h dst args st K KP
theorem Vg{j o:Nat}{s:iT}(h:mO s):mO (yG j o s):=by
 intro R dst args st K K' KP KP' hK hP;simp only [yG] at hK ⊢;have key:∀(Ge:List ae) (a o:Nat),(∀ v q,qn [.all] st q→K v q=K' v q)→∀ s1,j0 st s1→s1.et=st.et→
   s.run dst Ge s1 (fun v s2=>zF s2 a o (K v)) KP=s.run dst Ge s1 (fun v s2=>zF s2 a o (K' v)) KP':=fun Ge a o hK s1 b1 r1=>
  h (fun v q hq=>HW fun q' b2 r2=>hK v q' (qn.any (b1.trans (hq.iH.trans b2)) (r2.trans (hq.et.trans r1)))) (fun v q hq=>hP v q (b1.trans hq))
 split
 ·rename_i a sz i hl
  rw [hl] at hK;exact aW (Iy fun s1 b1 r1=>key _ _ _ hK s1 b1 r1) rfl
 ·rename_i a v sz i off hl
  rw [hl] at hK;exact aW (Iy fun s1 b1 r1=>key _ _ _ hK s1 b1 r1) rfl
 ·rename_i h1 h2
  refine h (fun v q hq=>hK v q (hq.mono fun p hp=>?_)) hP;split
  ·rename_i a sz i hl;exact absurd hl (h1 a sz i)
  ·rename_i a v sz i off hl;exact absurd hl (h2 a v sz i off)
  ·exact hp
theorem Kw{G:Gh}:∀{args:List ae} {vs:List Value} {j:Nat} {x:ae} {u:Value},All2 (aT G) args vs→vs[j]? = some u→aT G x u→All2 (aT G) (args.set j x) vs
 |[],[],_,_,_,_,h,_=>by simp at h
 |a :: r,v :: vs,0,x,u,h,hj,hx=>by simp only [List.getElem?_cons_zero,Option.some.injEq] at hj;subst hj;exact⟨hx,h.2⟩
 |a :: r,v :: vs,j + 1,x,u,h,hj,hx=>⟨h.1,Kw h.2 (by simpa using hj) hx⟩
 |[],_ :: _,_,_,_,h,_,_=>h.elim
 |_ :: _,[],_,_,_,h,_,_=>h.elim
theorem Y1{P:Program}{gt:Nat→Option GA}{f:FuncId}{j o:Nat}{s:iT}(h:zy P gt f s):zy P gt f (yG j o s):=by
 intro R r X st G w dst args vs K KP hr ye hm OU ha;have key:∀{a i ob:Nat} {x:ae} {u:Value},vs[j]? = some u→GQ ob args=true→
   D8 st a i ob (fun s1=>s.run dst (args.set j x) s1 (fun v s2=>zF s2 a ob (K v)) KP)=some r→(∀ s1 G1,VW X st G w a i ob s1 G1→aT G1 x u)→
   (callFunc f vs.toArray).run P w = .ok (.enter f vs.toArray) w∧Calls P f vs.toArray w fun e w'=>match e with
    |.returned v=>∃ av st' G',aB X st' G' w'∧(∀ act,bI G st act→bI G' st' act)∧aT G' av v∧K av st' = some r
    |.panicked Gm=>∃ v,Gm = [{v,recovered:=false}]∧∃ av st' G',aB X st' G' w'∧aT G' av v∧KP av st' = some r
    |.outgrown=>False:=fun {a i ob x u} hu ME mb hx=>by
  obtain⟨s1,G1,O,it⟩:=Pz mb hm;have ha1:All2 (aT G1) args vs:=ha.ue fun y v hy hv=>by have:=List.all_eq_true.1 ME y hy;simp only [Bool.and_eq_true,Bool.not_eq_true'] at this;exact O.Me y v this.2 (fun q=>Rk this.1) hv
  obtain⟨h1,h2⟩:=h it ye O.Ew (OU.imp fun act ra=>O.et act ra) (Kw ha1 hu (hx s1 G1 O));refine⟨h1,h2.mono fun e w' he=>?_⟩;cases e with
  |returned v=>obtain⟨av,st',G',m',r',v',hk⟩:=he;obtain⟨hp1,FQ⟩:=LA hm O.none;obtain⟨s4,G4,m4,r4,l4,hK⟩:=OI hk m' hp1 FQ;exact⟨av,s4,G4,m4,fun act ra=>r4 act (r' act (O.et act ra)),l4 _ _ v',hK⟩
  |panicked Gm=>obtain⟨v,e1,av,st',G',m',v',hk⟩:=he;exact⟨v,e1,av,st',G',m',v',hk⟩
  |outgrown=>exact he.elim
 have abZ:∀{l:af},(args[j]?).map ae.bJ=some l→l≠.any→∃ u,vs[j]? = some u∧aX G l u:=fun {l} hl gU=>by
  rw [Option.map_eq_some_iff] at hl;obtain⟨y,hy,he⟩:=hl;obtain⟨u,hu,hr⟩:=ha.vE hy;refine⟨u,hu,?_⟩;cases y with
  |one l'=>simp only [ae.bJ] at he;rw [he] at hr;exact hr
  |_=>exact absurd he.symm gU
 simp only [yG] at hr;split at hr
 ·rename_i a sz i hl
  cases hc:(PQ st a sz && GQ o args) with
  |false=>rw [hc] at hr;cases hr
  |true=>
   rw [hc,cond_true] at hr;simp only [Bool.and_eq_true] at hc;obtain⟨u,hu,hru⟩:=abZ hl (by simp)
   have mw:=hc.1;unfold PQ at mw;split at mw
   ·rename_i A hA
    obtain rfl:=Nat.eq_of_beq_eq_true mw;exact key hu hc.2 hr fun s1 G1 O=>(O.mT 0 u).2 ⟨A,hA,hru⟩
   ·cases mw
 ·rename_i a v sz i off hl
  cases hc:(PQ st a sz && GQ (obN a v) args && Nat.beq v (st.dy a) && Nat.blt off sz) with
  |false=>rw [hc] at hr;cases hr
  |true=>
   rw [hc,cond_true] at hr;simp only [Bool.and_eq_true] at hc;obtain⟨⟨⟨mw,ME⟩,hv⟩,Vc⟩:=hc;obtain rfl:=Nat.eq_of_beq_eq_true hv;rw [Nat.blt_eq] at Vc;obtain⟨u,hu,hru⟩:=abZ hl (by simp)
   unfold PQ at mw;split at mw
   ·rename_i A hA
    obtain rfl:=Nat.eq_of_beq_eq_true mw;refine key hu ME hr fun s1 G1 O=>O.Zz A off u hA Vc ?_;have hw:∃ x∈args,x.bJ = .Dt a (st.dy a) A.t.size i off∧aT G x u:=by rw [Option.map_eq_some_iff] at hl;obtain⟨y,hy,he⟩:=hl;obtain⟨u',hu',O7⟩:=ha.vE hy;rw [hu] at hu';cases hu';exact⟨y,List.mem_of_getElem? hy,he,O7⟩
    obtain⟨x,hx,hxl,hxr⟩:=hw;have hlx:=List.all_eq_true.1 ME x hx;simp only [Bool.and_eq_true,Bool.not_eq_true'] at hlx;have:=O.Me x u hlx.2 (fun q=>Rk hlx.1) hxr;cases x with
    |one l=>simp only [ae.bJ] at hxl;rw [hxl] at this;exact this
    |_=>cases hxl
   ·cases mw
 ·exact h hr ye hm OU ha
theorem Vh{P:Program}{gt:Nat→Option GA}{f:FuncId}{j o:Nat}{s:iT}(h:lZ P gt f s):lZ P gt f (yG j o s):=⟨Y1 h.ok,W8 h.det,Vg h.OJ⟩
end Go.Fx
namespace Go.Fx
theorem aB.Ud{X:mo}{st:St}{G:Gh}{w:World}(hm:aB X st G w){p q:Nat}{ls:List af}(hpq:p≠q)(hp:st.dJ p=some ls)(hq:st.dJ q=none)(hb:ls.any af.po=false)
    (hX:∀ v,X.pin p≠some v) (hB:∀ j u,X.bv p j≠some u) {F:List (Bool×Nat)} (hF:∀ x∈F,st.cY x.1 x.2=false)
    (hl:(∀ a A,st.arr a=some A→∀ i o,A.md = .BX i o→o≠q)) (ZX:F = [(false,q)]∨(F = []∧G.φ q=G.φ p∧(G.pre q).length=(G.pre p).length)):
    ∃ G',aB X {st with b9:=(q,ls) :: Ei st.b9 p} G' w∧(∀ act,bI G st act→bI G' {st with b9:=(q,ls) :: Ei st.b9 p} act)∧
      (∀ x v,(∀ y∈F,x.cY y.1 y.2=false)→aT G x v→aT G' x v)∧G'.φ q=G.φ p∧(G'.pre q).length=(G.pre p).length∧G'.φ p=G.φ p∧G'.pre p=G.pre p:=by
  let G':Gh:={G with φ:=fun o=>if o=q then G.φ p else G.φ o,pre:=fun o=>if o=q then G.pre p else G.pre o,post:=fun o=>if o=q then G.post p else G.post o}
  let s1:St:={st with b9:=(q,ls) :: Ei st.b9 p}
  have GD:∀ o,s1.dJ o=if q=o then some ls else if p=o then none else st.dJ o:=fun o=>by simp only [s1,St.dJ,aw,pZ]
  have mb:eU G st (false,p) (G.φ p):=⟨⟨ls,hp⟩,rfl⟩;have Ml:vb X st s1 G G' w w (fun y=>y=(false,p)) (fun y=>y=(false,q)) F:=by
    refine {
             n:=rfl,ib:=fun _=>rfl,bl:=rfl,pn:=rfl,S:=rfl,bJ:=fun lf v O4 hr=>?_,fm:=hF,sl:=hm.sl,dJ:=fun o l h=>?_,arr:=fun a A hA=>.inr ⟨by simp,hA,rfl,rfl,fun _=>by simp,rfl,fun i o e=>?_⟩,
             oW:=fun y b hy hyo=>?_,pO:=fun y z b hy hz _ _=>hy.trans hz.symm,hv:=hm.hv,old:=fun _ _ _=>rfl,sz:=Nat.le_refl _,os:=rfl,tp:=rfl,out:=rfl,S7:=fun o l ho hpo=>?_,S6:=fun a A _ hA=>⟨⟨A,hA⟩,rfl⟩}
    · rcases ZX with rfl |⟨rfl,e1,e2⟩
      · refine aX.leF (G:=G) (G':=G') (F:=[(false,q)]) (fun _ _ h=>h) (fun o ho=>?_) (fun a _=>⟨rfl,Nat.le_refl _,fun _ _=>rfl⟩) O4 hr
        have:o≠q:=fun e=>ho (by rw [e];simp)
        simp [G',this]
      · cases lf with
        |mT o off=>
          by_cases e:o=q
          · subst e
            simp only [aX,G',if_true] at hr ⊢;rw [hr,e1,e2]
          · simp only [aX,G',e,if_false] at hr ⊢;exact hr
        |eX t d=>exact hr
        |M5 t d off=>exact hr
        |ga t l=>exact hr
        |Dt a v' sz i off=>exact hr
        |nse a v' sz i off s2 j o2=>exact hr
        |_=>exact hr
    · rw [GD] at h
      by_cases e:q=o
      · subst e
        simp only [if_true,Option.some.injEq] at h;subst h;obtain⟨arr,elem,mid,g1,g2,g3⟩:=hm.ob p ls hp;refine .inl ⟨rfl,arr,elem,mid,by simp only [G',if_true];exact g1,by simp only [G',if_true];exact g2,?_⟩
        unfold hZ at g3 ⊢;rw [uk _ _ _ _ hb] at g3 ⊢;refine g3.ue fun lf v hlm AJ=>?_;rcases ZX with rfl |⟨rfl,e1,e2⟩
        · refine aX.leF (G:=G) (G':=G') (F:=[(false,q)]) (fun _ _ h=>h) (fun o ho=>?_) (fun a _=>⟨rfl,Nat.le_refl _,fun _ _=>rfl⟩) (fun y hy=>?_) AJ
          · have:o≠q:=fun e=>ho (by rw [e];simp)
            simp [G',this]
          · have hmo:=rk (hF y hy) hp 0
            rw [uk _ _ _ _ hb] at hmo;have:=List.any_eq_false.1 hmo lf hlm;simpa using this
        · cases lf with
          |mT o off=>
            by_cases e:o=q
            · subst e
              simp only [aX,G',if_true] at AJ ⊢;rw [AJ,e1,e2]
            · simp only [aX,G',e,if_false] at AJ ⊢;exact AJ
          |eX t d=>exact AJ
          |M5 t d off=>exact AJ
          |ga t l=>exact AJ
          |Dt a v' sz i off=>exact AJ
          |nse a v' sz i off s2 j o2=>exact AJ
          |_=>exact AJ
      · simp only [e,if_false] at h
        by_cases e2:p=o
        · simp [e2] at h
        · simp only [e2,if_false] at h
          have h1:o≠q:=fun h=>e h.symm;have h2:o≠p:=fun h=>e2 h.symm;exact .inr ⟨by simp [h1],by simp [h2],h,by simp [G',h1],by simp [G',h1],by simp [G',h1]⟩
    · have:o≠q:=hl a A hA i o e
      simp [G',this]
    · subst hy
      obtain⟨_,rfl⟩:=hyo;exact .inl ⟨(false,p),rfl,by simpa [G'] using mb⟩
    · have h1:p≠o:=fun e=>by
        subst e;rcases hpo with ⟨v,hv⟩ |⟨j,u,hu⟩
        · exact hX v hv
        · exact hB j u hu
      have h2:q≠o:=fun e=>by rw [←e,hq] at ho;cases ho
      exact⟨by rw [GD,if_neg h2,if_neg h1];exact ho,by simpa using fun e=>h2 e.symm⟩
  refine⟨G',Ml.ok hm,fun act=>Ml.et,fun x v hx hv=>Ml.Rf hx hv,by simp [G'],by simp [G'],?_,?_⟩
  · simp [G',hpq]
  · simp [G',hpq]
def Fy(q:Nat)(l:List (Nat×jB)):Bool:=l.all fun p=>!p.2.Im q
def C0(j o:Nat)(s:iT):iT where
 run dst args st K KP:=match (args[j]?).map ae.bJ with
  |some (.mT p 0)=>(bif Nat.beq p o then s.run dst args st K KP else(match st.dJ p with
   |some ls=>(bif Nat.ble 10000 p && (st.dJ o).isNone && !st.cY false o && !ls.any af.po && args.all (fun x=>!x.cY false o) && (look st.et st.n).isNone && (look st.et (st.n + 1)).isNone && (look st.jd st.n).isNone && (look st.jd (st.n + 1)).isNone then
    s.run dst (args.set j (.one (.mT o 0))) {st with n:=st.n + 2,et:=(st.n,.one (.mT o 0)) :: (st.n + 1,.one (.mT p 0)) :: st.et,b9:=(o,ls) :: Ei st.b9 p}
     (fun v s2=>match s2.dJ o,s2.et with
      |some ls2,(a,.one (.mT o1 0)) :: (b,.one (.mT p1 0)) :: rest=>
       (bif Nat.beq a st.n && Nat.beq b (st.n + 1) && Nat.beq o1 o && Nat.beq p1 p && (s2.dJ p).isNone && !ls2.any af.po && Fy p s2.cI && Fy p s2.fL && (look rest st.n).isNone && (look rest (st.n + 1)).isNone && (look s2.jd st.n).isNone && (look s2.jd (st.n + 1)).isNone then
        K v {s2 with n:=st.n,et:=rest,b9:=(p,ls2) :: Ei s2.b9 o} else none)
      |_,_=>none)
     (fun v s2=>KP v {s2 with n:=st.n,et:=st.et}) else none)
   |none=>none))
  |_=>s.run dst args st K KP
 Ju args st:=match (args[j]?).map ae.bJ with
  |some (.mT p 0)=>bif Nat.beq p o then s.Ju args st else [.all]
  |_=>s.Ju args st
theorem Zl{j o:Nat}{s:iT}(h:oL s):oL (C0 j o s):=by
 intro R dst args st K KP;simp only [C0];split
 ·rename_i p hl
  refine da (h dst args st K KP) ?_;split
  ·rename_i ls ho
   refine da ?_ rfl;rw [h dst _ _ _ _,h dst _ _ (fun v s2=>match s2.dJ o,s2.et with
     |some ls2,(a,.one (.mT o1 0)) :: (b,.one (.mT p1 0)) :: rest=>
      (bif Nat.beq a st.n && Nat.beq b (st.n + 1) && Nat.beq o1 o && Nat.beq p1 p && (s2.dJ p).isNone && !ls2.any af.po && Fy p s2.cI && Fy p s2.fL && (look rest st.n).isNone && (look rest (st.n + 1)).isNone && (look s2.jd st.n).isNone && (look s2.jd (st.n + 1)).isNone then
       nT v {s2 with n:=st.n,et:=rest,b9:=(p,ls2) :: Ei s2.b9 o} else none)
     |_,_=>none) (fun v s2=>MZ v {s2 with n:=st.n,et:=st.et}),Option.bind_assoc]
   congr 1
   funext u
   obtain⟨v,q,b⟩:=u;cases b with
   |true=>
    simp only [r0,cond_true];split
    ·exact da rfl rfl
    ·rfl
   |false=>rfl
  ·rfl
 ·exact h dst args st K KP
theorem X0{j o:Nat}{s:iT}(h:mO s):mO (C0 j o s):=by
 intro R dst args st K K' KP KP' hK hP;simp only [C0] at hK ⊢;split
 ·rename_i p hl
  rw [hl] at hK;cases hpo:Nat.beq p o with
  |true=>simp only [hpo,cond_true] at hK ⊢;exact h hK hP
  |false=>
   simp only [hpo,cond_false] at hK ⊢;split
   ·rename_i ls ho
    refine aW (h (fun v q hq=>?_) (fun v q hq=>hP v _ ?_)) rfl
    ·split
     ·rename_i ls2 a o1 b p1 rest h1 h2
      refine aW (hK v _ (qn.any ?_ ?_)) rfl
      ·exact⟨rfl,hq.iH.2.1,hq.iH.2.2.1,hq.iH.2.2.2⟩
      ·have:=hq.et
       rw [h2] at this;simp only [List.cons.injEq] at this;exact this.2.2
     ·rfl
    ·exact⟨rfl,hq.2.1,hq.2.2.1,hq.2.2.2⟩
   ·rfl
 ·rename_i h1
  refine h (fun v q hq=>hK v q (hq.mono fun p hp=>?_)) hP;split
  ·rename_i p hl;exact absurd hl (h1 p)
  ·exact hp
theorem NQ{q:Nat}{l:List (Nat×jB)}(h:Fy q l=true){a:Nat}{A:jB}(ha:look l a=some A):∀ i o,A.md = .BX i o→o≠q:=fun i o hm e=>by have:=List.all_eq_true.1 h _ (dT ha);subst e;simp [jB.Im,hm] at this
theorem XY{st:St}{i:Nat}(h:(look st.et i).isNone=true)(h2:(look st.jd i).isNone=true):st.ib i=none:=by
 unfold St.ib;have h:look st.et i=none:=by simpa using h
 have h2:look st.jd i=none:=by simpa using h2
 rw [h];exact h2
theorem aby{P:Program}{gt:Nat→Option GA}{f:FuncId}{j o:Nat}{s:iT}(h:zy P gt f s):zy P gt f (C0 j o s):=by
 intro R r X st G w dst args vs K KP hr ye hm OU ha;simp only [C0] at hr;split at hr
 ·rename_i p hl
  cases hpo:Nat.beq p o with
  |true=>rw [hpo,cond_true] at hr;exact h hr ye hm OU ha
  |false=>
   rw [hpo,cond_false] at hr;split at hr
   ·rename_i ls MF
    cases hc:(Nat.ble 10000 p && (st.dJ o).isNone && !st.cY false o && !ls.any af.po && args.all (fun x=>!x.cY false o) && (look st.et st.n).isNone && (look st.et (st.n + 1)).isNone && (look st.jd st.n).isNone && (look st.jd (st.n + 1)).isNone) with
    |false=>rw [hc] at hr;cases hr
    |true=>
     rw [hc,cond_true] at hr;simp only [Bool.and_eq_true,Bool.not_eq_true'] at hc;obtain⟨⟨⟨⟨⟨⟨⟨⟨c1,c2⟩,c3⟩,c4⟩,c5⟩,c6⟩,c7⟩,c8⟩,c9⟩:=hc;have YO:=Nat.le_of_ble_eq_true c1;have vg:st.dJ o=none:=by simpa using c2
     have gU:p≠o:=fun e=>by rw [e] at hpo;simp at hpo
     obtain⟨ad5,ad6⟩:=LA hm vg;obtain⟨G1,m1,r1,v1,e1,e2,e3,e4⟩:=hm.Ud (F:=[(false,o)]) gU MF vg c4 (fun v hv=>by have:=X.pl p v hv;omega) (fun j u hu=>by have:=X.bl p j u hu;omega) (fun x hx=>by rw [List.mem_singleton.1 hx];exact c3)
      (fun a A hA i o' uc=>Dp c3 hA uc) (.inl rfl)
     obtain⟨u,hu,hru⟩:∃ u,vs[j]? = some u∧aX G (.mT p 0) u:=by
      rw [Option.map_eq_some_iff] at hl;obtain⟨y,hy,he⟩:=hl;obtain⟨u,hu,O7⟩:=ha.vE hy;refine⟨u,hu,?_⟩;cases y with
      |one l'=>simp only [ae.bJ] at he;rw [he] at O7;exact O7
      |_=>cases he
     have hu0:u = .pointer (some ⟨G.φ p,(G.pre p).length + 0,none⟩):=hru;have hro:aX G1 (.mT o 0) u:=by simp only [aX,e1,e2];exact hu0
     have ad8:aX G1 (.mT p 0) u:=by simp only [aX,e3,e4];exact hu0
     have ha1:All2 (aT G1) args vs:=ha.ue fun y v hy hv=>v1 y v (fun z hz=>by
      rw [List.mem_singleton.1 hz];have:=List.all_eq_true.1 c5 y hy;simpa using this) hv
     generalize hs1:({st with n:=st.n + 2,et:=(st.n,.one (.mT o 0)) :: (st.n + 1,.one (.mT p 0)) :: st.et,b9:=(o,ls) :: Ei st.b9 p}:St)=s1 at hr
     have m1':aB X s1 G1 w:=by rw [←hs1];exact m1.Vi rfl rfl rfl rfl rfl rfl
     have Wr:∀ act,bI G st act→bI G1 s1 {tmps:=act.tmps.push u |>.push u,defers:=act.defers}:=fun act ra=>by
      have rb:=r1 act ra;have mw:act.tmps.size=st.n:=ra.2.1;refine⟨rb.1,by rw [←hs1];simp [mw],fun i x hx=>?_⟩
      rw [←hs1] at hx;simp only [St.ib,aw] at hx;by_cases i1:st.n=i
      ·subst i1
       simp only [if_true,Option.some.injEq] at hx;subst hx;have:((act.tmps.push u).push u).getD st.n undef=u:=by rw [Array.getD_eq_getD_getElem?,Array.getElem?_push,if_neg (by simp;omega),Array.getElem?_push,if_pos mw.symm];rfl
       rw [this];exact hro
      ·by_cases i2:st.n + 1=i
       ·subst i2
        simp only [i1,if_false,if_true,Option.some.injEq] at hx;subst hx;have:((act.tmps.push u).push u).getD (st.n + 1) undef=u:=by rw [Array.getD_eq_getD_getElem?,Array.getElem?_push,if_pos (by simp;omega)];rfl
        rw [this];exact ad8
       ·simp only [i1,i2,if_false] at hx
        have hg:((act.tmps.push u).push u).getD i undef=act.tmps.getD i undef:=by rw [Array.getD_eq_getD_getElem?,Array.getElem?_push,if_neg (by simp;omega),Array.getElem?_push,if_neg (by omega),←Array.getD_eq_getD_getElem?]
        rw [hg];exact rb.2.2 i x hx
     obtain⟨h1,h2⟩:=h hr ye m1' (OU.imp' _ fun act ra=>Wr act ra) (Kw ha1 hu (show aT G1 (.one (.mT o 0)) u from hro))
     refine⟨h1,h2.mono fun e w' he=>?_⟩;cases e with
     |outgrown=>exact he.elim
     |panicked Gm=>obtain⟨v,q1,av,st',G',m',v',hk⟩:=he;exact⟨v,q1,av,{st' with n:=st.n,et:=st.et},G',m'.Vi rfl rfl rfl rfl rfl rfl,v',hk⟩
     |returned v=>
      obtain⟨av,s2,G',m',r',v',hk⟩:=he;split at hk
      ·rename_i ls2 a o1 b p1 rest q1 q2
       cases hd:(Nat.beq a st.n && Nat.beq b (st.n + 1) && Nat.beq o1 o && Nat.beq p1 p && (s2.dJ p).isNone && !ls2.any af.po && Fy p s2.cI && Fy p s2.fL && (look rest st.n).isNone && (look rest (st.n + 1)).isNone && (look s2.jd st.n).isNone && (look s2.jd (st.n + 1)).isNone) with
       |false=>rw [hd] at hk;cases hk
       |true=>
        rw [hd,cond_true] at hk;simp only [Bool.and_eq_true,Bool.not_eq_true'] at hd;obtain⟨⟨⟨⟨⟨⟨⟨⟨⟨⟨⟨d1,d2⟩,d3⟩,d4⟩,d5⟩,d6⟩,d7⟩,d8⟩,d9⟩,d10⟩,d11⟩,d12⟩:=hd;obtain rfl:=Nat.eq_of_beq_eq_true d1;obtain rfl:=Nat.eq_of_beq_eq_true d2;obtain rfl:=Nat.eq_of_beq_eq_true d3;obtain rfl:=Nat.eq_of_beq_eq_true d4;have hnp:s2.dJ p1=none:=by simpa using d5
        have frame:∀ act,bI G st act→bI G' s2 {tmps:=act.tmps.push u |>.push u,defers:=act.defers}:=fun act ra=>r' _ (Wr act ra);have kX:G'.φ p1=G'.φ o1∧(G'.pre p1).length=(G'.pre o1).length:=by
         obtain⟨act,ra⟩:=OU;have rf:=frame act ra;have k1:=rf.2.2 st.n (.one (.mT o1 0)) (by simp only [St.ib,q2,aw,if_true])
         have k2:=rf.2.2 (st.n + 1) (.one (.mT p1 0)) (by simp only [St.ib,q2,aw];rw [if_neg (by omega)];simp)
         have mw:act.tmps.size=st.n:=ra.2.1;have g1:((act.tmps.push u).push u).getD st.n undef=u:=by rw [Array.getD_eq_getD_getElem?,Array.getElem?_push,if_neg (by simp;omega),Array.getElem?_push,if_pos mw.symm];rfl
         have g2:((act.tmps.push u).push u).getD (st.n + 1) undef=u:=by rw [Array.getD_eq_getD_getElem?,Array.getElem?_push,if_pos (by simp;omega)];rfl
         rw [g1] at k1;rw [g2] at k2;have k1:u = .pointer (some ⟨G'.φ o1,(G'.pre o1).length + 0,none⟩):=k1;have k2:u = .pointer (some ⟨G'.φ p1,(G'.pre p1).length + 0,none⟩):=k2;rw [k1] at k2;simp only [Value.pointer.injEq,Option.some.injEq,Addr.mk.injEq,and_true] at k2;exact⟨k2.1.symm,by omega⟩
        have SI:o1≠p1:=fun e=>gU e.symm;obtain⟨G2,m2,r2,v2,_⟩:=m'.Ud (F:=[]) (p:=o1) (q:=p1) SI q1 hnp d6 ad5 ad6 (fun x hx=>by cases hx)
         (fun a A hA i o' uc=>by
          unfold St.arr at hA;cases hl:look s2.cI a with
          |some B=>rw [hl] at hA;cases hA;exact NQ d7 hl i o' uc
          |none=>rw [hl] at hA;exact NQ d8 hA i o' uc) (.inr ⟨rfl,kX⟩)
        refine⟨av,{s2 with n:=st.n,et:=rest,b9:=(p1,ls2) :: Ei s2.b9 o1},G2,m2.Vi rfl rfl rfl rfl rfl rfl,fun act ra=>?_,v2 av v (fun y hy=>by cases hy) v',hk⟩
        have rf:=frame act ra;have mw:act.tmps.size=st.n:=ra.2.1;refine⟨ra.1.trans (hm.ds.trans m2.ds.symm),mw,fun i x hx=>?_⟩;have hx:({s2 with n:=st.n,et:=rest,b9:=(p1,ls2) :: Ei s2.b9 o1}:St).ib i=some x:=hx
        have i1:i≠st.n:=fun e=>by rw [e] at hx;rw [XY (st:={s2 with n:=st.n,et:=rest,b9:=(p1,ls2) :: Ei s2.b9 o1}) d9 d11] at hx;cases hx
        have i2:i≠st.n + 1:=fun e=>by rw [e] at hx;rw [XY (st:={s2 with n:=st.n,et:=rest,b9:=(p1,ls2) :: Ei s2.b9 o1}) d10 d12] at hx;cases hx
        have hx2:s2.ib i=some x:=by simp only [St.ib,q2,aw];rw [if_neg (Ne.symm i1),if_neg (Ne.symm i2)];exact hx
        have k:=rf.2.2 i x hx2;have hg:((act.tmps.push u).push u).getD i undef=act.tmps.getD i undef:=by rw [Array.getD_eq_getD_getElem?,Array.getElem?_push,if_neg (by simp;omega),Array.getElem?_push,if_neg (by omega),←Array.getD_eq_getD_getElem?]
        rw [hg] at k;exact v2 x _ (fun y hy=>by cases hy) k
      ·cases hk
   ·cases hr
 ·exact h hr ye hm OU ha
theorem X1{P:Program}{gt:Nat→Option GA}{f:FuncId}{j o:Nat}{s:iT}(h:lZ P gt f s):lZ P gt f (C0 j o s):=⟨aby h.ok,Zl h.det,X0 h.OJ⟩
end Go.Fx
namespace Go.Fx
structure Tb(P:Program) where
 n:Nat
 i:TI
 ok:yT P n i
def tbs{P:Program}:List (Tb P)→List (Nat×TI)
 |[]=>[]
 |t :: r=>(t.n,t.i) :: tbs r
theorem Ym{P:Program}:∀ l:List (Tb P),Yw P (tbs l)
 |[]=>trivial
 |t :: r=>⟨t.ok,Ym r⟩
structure P0 where
 P:Program
 gt:Nat→Option GA
 ir:List (Tb P)
 mix:P.follows .mixedOrders=true
structure Cl(A:P0) where
 f:Nat
 s:iT
 ok:lZ A.P A.gt f s
def Cl.aed{A:P0}(c:Cl A)(j o:Nat):Cl A:=⟨c.f,yG j o c.s,Vh c.ok⟩
def Cl.tC{A:P0}(c:Cl A)(j o:Nat):Cl A:=⟨c.f,C0 j o c.s,X1 c.ok⟩
def cls{A:P0}:List (Cl A)→List (Nat×iT)
 |[]=>[]
 |c :: r=>(c.f,c.s) :: cls r
theorem V9{A:P0}:∀ l:List (Cl A),Qe A.P A.gt (cls l)
 |[]=>trivial
 |c :: r=>⟨c.ok,V9 r⟩
def Gd(A:P0)(f:Nat){T:Type}(S:T→iT):Type:={r:T // lZ A.P A.gt f (S r)}
def Gd.cl{A:P0}{f:Nat}{T:Type}{S:T→iT}(r:Gd A f S):Cl A:=⟨f,S r.1,r.2⟩
structure m9 where
 L:pN
 V:List VL
 F:Nat→PV L.cs→PV L.vs→Option (WL V)
def m9.Ag(d:m9)(id q:Nat):kZ:=wc id d.L (d.F q) (dkL d.V)
structure LpB where
 id:Nat
 s:kZ
 c:zt s
def lp(id:Nat)(d:m9)(q:Nat):LpB:=⟨id,d.Ag id q,NN _ _ _ _⟩
def rg(id:Nat)(d:m9):LpB:=⟨id + 1000000,d.Ag (id + 1000000) 0,NN _ _ _ _⟩
def lps:List LpB→List (Nat×kZ)
 |[]=>[]
 |c :: r=>(c.id,c.s) :: lps r
theorem Xg:∀ l:List LpB,Qd (lps l)
 |[]=>trivial
 |c :: r=>⟨c.c,Xg r⟩
structure Ev(A:P0) where
 cs:List (Cl A)
 ls:List LpB
 on:List (Nat×Nat)
def Ev.e{A:P0}(E:Ev A):rQ:=ZS A.gt (tbs A.ir) (cls E.cs) (lps E.ls) E.on
theorem Ev.ok{A:P0}(E:Ev A):Ee A.P E.e:=aaL A.mix (Ym _) (V9 _) (Xg _)
structure Cd(A:P0) where
 c:Code
 s:kZ
 ok:tY A.P A.gt c s
def cds{A:P0}:List (Cd A)→List (Code×kZ)
 |[]=>[]
 |c :: r=>(c.c,c.s) :: cds r
theorem OH{A:P0}:∀ l:List (Cd A),VM A.P A.gt (cds l)
 |[]=>trivial
 |c :: r=>⟨c.ok,OH r⟩
noncomputable def oz{A:P0}(E:Ev A)(f:Func)(id:Nat)(d:m9)(q:Nat)(l:List (Cd A))(hb:wR E.e (CN f id)=cds l:=by kernel_rfl)(h0:∀ c v,d.F 0 c v=none:=by intros;rfl)
  (h1:∀ q c v,d.F (q + 1) c v=rW E.e (CN f id) (d.L.st c v) (kL d.L d.V c (d.F q c)) (kLP d.L d.V c):=by intros;kernel_rfl):Cd A:=
 ⟨ab2 f id,d.Ag id q,Xc E.ok (uK hb (OH l)) h0 h1 q⟩
noncomputable def rgC{A:P0}(E:Ev A)(f:Func)(id:Nat)(d:m9)(ls:List (List Nat))(hd:Cr (p9 f id).toList (iG (p9 f id).toList [])=true:=by kernel_rfl)(hc:iL (p9 f id).toList (iG (p9 f id).toList []) (p9 f id).toList.length []=ls:=by kernel_rfl)
  (h1:VP (fun l=>HX (p9 f id).toList l=true∧∀ c v,d.F 0 c v=FF E.e (p9 f id).toList (iG (p9 f id).toList []) l [] (d.L.st c v) (kR d.L d.V c) (kLP d.L d.V c)) ls:=by(repeat' first | exact trivial | refine⟨?_,?_⟩);all_goals intros;all_goals kernel_rfl):Cd A:=
 ⟨ac3 f id,d.Ag (id + 1000000) 0,Zk E.ok hd hc (QI h1)⟩
def zd{A:P0}(E:Ev A)(k:FuncId)(f:Func)(hf:A.P.funcs[k]? = some f)(zL:∀ args w,(callFunc k args).run A.P w = .ok (.enter k args) w)(ts rs:List Ty)(F:DL ts→Option (DL rs))(l:List (Cd A))
  (hb:f.body.isSome=true:=by kernel_rfl) (hl:wR E.e (qK f)=cds l:=by kernel_rfl) (hn:Nat.ble ts.length f.ntmps=true:=by kernel_rfl)
  (h:∀ d,F d=rW E.e (qK f) (stD f.ntmps ts d) (kD E.e f.results.toList rs) (fun _ _=>none):=by intros;kernel_rfl):Cl A:=
 ⟨k,Ah ts rs F id,U8 E.ok hf zL hb (uK hl (OH l)) hn h⟩
structure De where
 L:pN
 V:List VO
 F:PV L.cs→PV L.vs→Option (WO V)
def mY{A:P0}(E:Ev A)(k:FuncId)(f:Func)(hf:A.P.funcs[k]? = some f)(zL:∀ args w,(callFunc k args).run A.P w = .ok (.enter k args) w)(res:List Nat)(d:De)(l:List (Cd A))
  (hb:f.body.isSome=true:=by kernel_rfl) (hl:wR E.e (qK f)=cds l:=by kernel_rfl) (hn:Nat.beq f.ntmps d.L.n=true:=by kernel_rfl) (zO:Hf f.results.toList.length=res:=by kernel_rfl)
  (h:∀ c v,d.F c v=rW E.e (qK f) (d.L.st c v) (kO E.e f.results.toList d.L d.V c) (kP d.L d.V c):=by intros;kernel_rfl):Cl A:=
 ⟨k,mF d.L d.F (Ao res d.V),Wv E.ok hf zL hb (uK hl (OH l)) hn zO h⟩
end Go.Fx
namespace Go.Fx
def tb{P:Program}(n:TypeId)(i:TypeInfo){d:TypeDesc}(hu:P.underlying n=some d)(ti:TI)(h1:P.info? n=some i:=by kernel_rfl)(h3:i.zero.isSome=true:=by kernel_rfl)(h4:(i.zero.getD undef).cells.toList=ti.zero:=by kernel_rfl)
 (h5:(UJ ti.iA d && Nat.beq i.size ti.size && Nat.beq i.bytes ti.bytes && (ti.iA.agg || Nat.beq ti.size 1) && Nat.beq ti.zero.length ti.size)=true:=by kernel_rfl) (h6:YF P n ti=true:=by kernel_rfl):Tb P:=⟨n,ti,adr h1 hu h3 h4 h5 h6⟩
abbrev rI(i:Nat):Pl×ml:=(.r i,.d I)
abbrev rD(i:Nat)(t:Ty):Pl×ml:=(.r i,.d t)
abbrev rP(i o:Nat):Pl×ml:=(.r i,.lit (.mT o 0))
abbrev lI(o j:Nat):Pl×ml:=(.l o j,.d I)
abbrev lD(o j:Nat)(t:Ty):Pl×ml:=(.l o j,.d t)
abbrev lN(o j:Nat):Pl×ml:=(.l o j,.lit .nil)
abbrev lF(o j:Nat)(t:Ty):Pl×ml:=(.l o j,.h .ez t)
abbrev lU(o j:Nat)(t:Ty):Pl×ml:=(.l o j,.h .bP t)
abbrev lH(m:Md)(o j:Nat)(t:Ty):Pl×ml:=(.l o j,.h m t)
end Go.Fx
