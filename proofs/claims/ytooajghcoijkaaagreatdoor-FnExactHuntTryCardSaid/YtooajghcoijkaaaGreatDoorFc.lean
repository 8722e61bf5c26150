/- Proved here: laws.FnExactHuntTry returns true at every input (the tied card), no condition beyond the card. -/
import Derived.Test.YtooajghcoijkaaaGreatDoorFb
set_option linter.unusedVariables false
set_option linter.unusedSimpArgs false
set_option linter.unusedSectionVars false
set_option maxRecDepth 100000
namespace Go.Fx
def Gh.iE(G G3:Gh)(told:Nat→Option (Option Nat))(lb oB:Nat→Option Nat):Gh:={G with
 S:=G3.S
 φ:=fun o=>match oB o with | some k=>G3.φ k | none=>G.φ o
 pre:=fun o=>match oB o with | some k=>G3.pre k | none=>G.pre o
 post:=fun o=>match oB o with | some k=>G3.post k | none=>G.post o
 ψ:=fun a=>match told a with | some (some k)=>G3.ψ k | some none=>.slice none 0 0 | none=>G.ψ a
 HA:=fun a=>match told a with | some (some k)=>G3.HA k | some none=>[] | none=>match lb a with | some k=>G3.HA k | none=>G.HA a
 vn:=fun a=>match lb a with | some _=>G.vn a + 1 | none=>G.vn a
 HV:=fun a v=>match told a with | some (some k)=>ko (G3.HA k) | some none=>[] | none=>match lb a with | some k=>if v≤G.vn a then G.HV a v else ko (G3.HA k) | none=>G.HV a v}
structure GT(st t s st':St)(al:AL)(told:Nat→Option (Option Nat))(lb oB:Nat→Option Nat):Prop where
 n:st'.n=st.n
 vr:∀ a,st'.dA a=(match lb a with | some _=>st.dA a + 1 | none=>st.dA a)
 ii:∀ i,st'.ii i=st.ii i
 bl:st'.cA=st.cA
 aay:∀ q tl,t.dM q=some tl→q < 10000∧(∃ ls,st.dM q=some ls)∧∃ sl,s.dM q=some sl
 dM:∀ q wF,st'.dM q=some wF→(t.dM q=none∧st.dM q=some wF)∨
  (∃ ls tl sl,st.dM q=some ls∧t.dM q=some tl∧s.dM q=some sl∧tl.length=ls.length∧sl.length=ls.length∧wF.length=ls.length∧∀(j:Nat) (l' l a:ag),wF[j]? = some l'→ls[j]? = some l→sl[j]? = some a→
   (st'.res q j l' = st.res q j l∧tl[j]? = some .ur∧∃ lf,dY t.cA q j=some lf)∨∀(G G3:Gh) (u:Value),(∃ X w',aB X s G3 w')→(∀ q tl,t.dM q=some tl→G3.φ q=G.φ q∧G3.pre q=G.pre q)→aY G3 (s.res q j a) u→aY (G.iE G3 told lb oB) (st'.res q j l') u)∨
  (∃ k sl,oB q=some k∧s.dM k=some sl∧wF.length=sl.length∧∀(j:Nat) (l' a:ag),wF[j]? = some l'→sl[j]? = some a→∀(G G3:Gh) (u:Value),(∃ X w',aB X s G3 w')→(∀ q tl,t.dM q=some tl→G3.φ q=G.φ q∧G3.pre q=G.pre q)→aY G3 (s.res k j a) u→aY (G.iE G3 told lb oB) (st'.res q j l') u)
 Dw:∀ q k,oB q=some k→st.dM q=none∧st.cZ false q=false∧t.dM k=none
 adY:∀ q q' k,oB q=some k→oB q' = some k→q=q'
 UR:∀ q ls,st.dM q=some ls→∃ wF,st'.dM q=some wF
 ur:∀ q j ls lf,st.dM q=some ls→ls[j]? = some .ur→dY st.cA q j=some lf→∃ wF,st'.dM q=some wF∧wF[j]? = some .ur∧(t.dM q=none∨∃ tl lf',t.dM q=some tl∧tl[j]? = some .ur∧dY t.cA q j=some lf')
 arr:∀ a A,st'.arr a=some A→(∃ k,told a=some (some k)∧s.arr k=some A∧A.sh=false∧∀ i o,A.md≠.CD i o)∨
  (told a=some none∧A.l = []∧A.sh=false∧A.pe=true)∨
  (∃ k,told a=none∧lb a=some k∧True∧s.arr k=some A∧A.sh=false∧∀ i o,A.md≠.CD i o)∨
  (told a=none∧lb a=none∧st.arr a=some A∧(A.sh=true∨∀ nm B,look al nm≠some (some a,B)))
 ti:∀ a a' k,told a=some (some k)→told a' = some (some k)→a=a'
 ki:∀ a a' k,lb a=some k→lb a' = some k→a=a'
 tk:∀ a a' k,told a=some (some k)→lb a'≠some k
 E5:∀ a k,told a=some k→st.cZ true a=false
 pn:st'.pin=st.pin
 ap:∀ a A,eV a st.pin=true→st.arr a=some A→told a=none∧∃ B,st'.arr a=some B
theorem rH(st:St)(o:Nat):∀(ls:List ag) (i j:Nat),(st.jT o i ls)[j]? = (ls[j]?).map (st.res o (i + j))
 |[],i,j=>by simp [St.jT]
 |l :: r,i,0=>by simp [St.jT]
 |l :: r,i,j + 1=>by simp only [St.jT,List.getElem?_cons_succ];rw [rH st o r (i + 1) j,show i + 1 + j=i + (j + 1) by omega]
theorem All2.TS{α β:Type}{R:α→β→Prop}:∀{xs:List α} {ys:List β},xs.length=ys.length→(∀(j:Nat) (x:α) (y:β),xs[j]? = some x→ys[j]? = some y→R x y)→All2 R xs ys
 |[],[],_,_=>trivial
 |x :: xs,y :: ys,h,f=>⟨f 0 x y rfl rfl,All2.TS (by simpa using h) (fun j x y hx hy=>f (j + 1) x y (by simpa using hx) (by simpa using hy))⟩
 |[],_ :: _,h,_=>by simp at h
 |_ :: _,[],h,_=>by simp at h
theorem Qk{arr:Array Value}{pre mid post:List Value}(h:arr.toList=pre ++ (mid ++ post)){j:Nat}(hj:j < mid.length):arr.toList[pre.length + j]? = mid[j]?:=by rw [h,List.getElem?_append_right (by omega),Nat.add_sub_cancel_left,List.getElem?_append_left hj]
section
variable {st t s st':St} {al:AL} {told:Nat→Option (Option Nat)} {lb oB:Nat→Option Nat} {X:mt} {G G3:Gh} {w w':World}
theorem GT.le(hM:GT st t s st' al told lb oB)(hS:∀ b o,G.S b=some o→G3.S b=some o){l:ag}{v:Value}(hm:∀ a k,told a=some k→l.cZ true a=false)(hn:∀ q k,oB q=some k→l.cZ false q=false)(r:aY G l v):aY (G.iE G3 told lb oB) l v:=by
 cases l with
 |any=>trivial
 |ur=>trivial
 |uW=>exact r
 |eZ t d=>obtain⟨cs,e,hr⟩:=r;exact⟨cs,e,hr.mono hS⟩
 |nil=>exact r
 |Jg=>exact r
 |mu a=>
  show v=(G.iE G3 told lb oB).ψ a;have:told a=none:=by
   cases h:told a with
   |none=>rfl
   |some k=>have:=hm a k h;simp [ag.cZ] at this
  simp only [Gh.iE,this];exact r
 |mW o off=>
  have:oB o=none:=by
   cases h:oB o with
   |none=>rfl
   |some k=>have:=hn o k h;simp [ag.cZ] at this
  simp only [aY,Gh.iE,this];exact r
 |C6 a sz i off=>
  have:told a=none:=by
   cases h:told a with
   |none=>rfl
   |some k=>have:=hm a k h;simp [ag.cZ] at this
  simp only [aY,Gh.iE,this];exact r
 |N0 t d off=>obtain⟨b,arr,elem,fz,pre,cs,post,h1,h2,h3,h4⟩:=r;exact⟨b,arr,elem,fz,pre,cs,post,hS _ _ h1,h2,h3.mono hS,h4⟩
 |fn f=>exact r
 |Eb a vr sz i off=>
  have hn:told a=none:=by
   cases h:told a with
   |none=>rfl
   |some k=>have:=hm a k h;simp [ag.cZ] at this
  exact uZ.zI r (by simp only [Gh.iE,hn]) (by simp only [Gh.iE];split<;>omega) (fun v hv=>by simp only [Gh.iE,hn];split<;>simp [hv])
 |nse a vr sz i off sz2 j Sf=>
  have hn:told a=none:=by
   cases h:told a with
   |none=>rfl
   |some k=>have:=hm a k h;simp [ag.cZ] at this
  obtain⟨b2,Ja,Kf,h1,h2⟩:=r;exact⟨b2,Ja,Kf,uZ.zI h1 (by simp only [Gh.iE,hn]) (by simp only [Gh.iE];split<;>omega) (fun v hv=>by simp only [Gh.iE,hn];split<;>simp [hv]),h2⟩
 |KL a kk n=>
  have hn:told a=none:=by
   cases h:told a with
   |none=>rfl
   |some k=>have:=hm a k h;simp [ag.cZ] at this
  simp only [aY,Gh.iE,hn];exact r
 |ga t l=>obtain⟨b,arr,elem,fz,cs,rest,h1,h2,h3,h4⟩:=r;exact⟨b,arr,elem,fz,cs,rest,hS _ _ h1,h2,h3.Dt hS,h4⟩
theorem GT.leV(hM:GT st t s st' al told lb oB)(hS:∀ b o,G.S b=some o→G3.S b=some o){x:ae}{v:Value}(hm:∀ a k,told a=some k→x.cZ true a=false)(hn:∀ q k,oB q=some k→x.cZ false q=false)(r:aU G x v):aU (G.iE G3 told lb oB) x v:=by
 have fo:∀{ls:List ag} {vs:List Value},(∀ a k,told a=some k→ls.any (ag.cZ true a)=false)→(∀ a k,oB a=some k→ls.any (ag.cZ false a)=false)→All2 (aY G) ls vs→All2 (aY (G.iE G3 told lb oB)) ls vs:=fun {ls vs} h h' hr=>
  hr.uz fun l v hl Bj=>hM.le hS (fun a k hk=>by have:=List.any_eq_false.1 (h a k hk) l hl;simpa using this) (fun a k hk=>by have:=List.any_eq_false.1 (h' a k hk) l hl;simpa using this) Bj
 cases x with
 |one l=>exact hM.le hS hm hn r
 |agg ls=>obtain⟨cs,e,hr⟩:=r;exact⟨cs,e,fo hm hn hr⟩
 |JT vs=>
  obtain⟨us,e,hr⟩:=r;refine⟨us,e,hr.uz fun p u hp L8=>?_⟩;have hm':∀ a k,told a=some k→p.2.any (ag.cZ true a)=false:=fun a k hk=>by have:=List.any_eq_false.1 (hm a k hk) p hp;simpa using this
  have hn':∀ a k,oB a=some k→p.2.any (ag.cZ false a)=false:=fun a k hk=>by have:=List.any_eq_false.1 (hn a k hk) p hp;simpa using this
  split at L8
  ·rename_i hc;simp only [hc,if_true];obtain⟨cs,e,hr⟩:=L8;exact⟨cs,e,fo hm' hn' hr⟩
  ·rename_i hc
   obtain⟨l,e,hr⟩:=L8;simp only [Bool.not_eq_true] at hc;simp only [hc,Bool.false_eq_true,if_false];exact⟨l,e,hM.le hS (fun a k hk=>by have:=hm' a k hk;rw [e] at this;simpa using this) (fun a k hk=>by have:=hn' a k hk;rw [e] at this;simpa using this) hr⟩
 |zC t ls=>obtain⟨u,cs,e1,e2,hr⟩:=r;exact⟨u,cs,e1,e2,fo hm hn hr⟩
theorem GT.ez(hM:GT st t s st' al told lb oB)(hS:∀ b o,G.S b=some o→G3.S b=some o){act:Act}(hr:bL G st act):bL (G.iE G3 told lb oB) st' act:=
 ⟨hr.1,hr.2.1.trans hM.n.symm,fun i v hv=>by
  rw [hM.ii] at hv;exact hM.leV hS (fun a k hk=>AH (hM.E5 a k hk) hv) (fun q k hk=>AH (hM.Dw q k hk).2.1 hv) (hr.2.2 i v hv)⟩
theorem GT.ok(hM:GT st t s st' al told lb oB)(hm:aB X st G w)(js:∀ x b,eW (G.t7 al) t x b→∃ x',eW G st x' b∧((∃ o,x=(false,o)∧x' = (false,o))∨∃ nm a A,x=(true,nm)∧x' = (true,a)∧look al nm=some (some a,A)))
  {X':mt} (zB:aB X' t (G.t7 al) w) (h3:aB (wb t (G.t7 al) w) s G3 w') (Hw:∀ a k,lb a=some k→told a=none→G3.ψ k=G.ψ a):aB X st' (G.iE G3 told lb oB) w':=by
 have hS:∀ b o,G.S b=some o→G3.S b=some o:=h3.s0;have hφ:∀ q tl,t.dM q=some tl→G3.φ q=G.φ q∧G3.pre q=G.pre q∧G3.post q=G.post q:=fun q tl hq=>by obtain⟨bo,_,_⟩:=hM.aay q tl hq;have:=(h3.pin q _ (OB bo hq)).2;simp only [Prod.mk.injEq] at this;exact⟨this.1.symm,this.2.1.symm,this.2.2.symm⟩
 have hφ2:∀ q tl,t.dM q=some tl→G3.φ q=G.φ q∧G3.pre q=G.pre q:=fun q tl hq=>⟨(hφ q tl hq).1,(hφ q tl hq).2.1⟩;have adB:∀ q ls,st.dM q=some ls→oB q=none:=fun q ls h=>by
  cases hn:oB q with
  |none=>rfl
  |some k=>rw [(hM.Dw q k hn).1] at h;cases h
 have bφ:∀ q ls,st.dM q=some ls→(G.iE G3 told lb oB).φ q=G.φ q∧(G.iE G3 told lb oB).pre q=G.pre q∧(G.iE G3 told lb oB).post q=G.post q:=fun q ls h=>by simp [Gh.iE,adB q ls h]
 have cls:∀ x b,eW (G.iE G3 told lb oB) st' x b→(eW G st x b∧∀ y,¬ eW (G.t7 al) t y b)∨
   ∃ x3,eW G3 s x3 b∧((∃ q q3,x=(false,q)∧x3=(false,q3)∧((q3=q∧∃ tl,t.dM q=some tl)∨oB q=some q3))∨(∃ a k,x=(true,a)∧x3=(true,k)∧told a=some (some k))∨∃ a k,x=(true,a)∧x3=(true,k)∧lb a=some k):=fun x b hx=>by
  obtain⟨kk,n⟩:=x;cases kk with
  |false=>
   obtain⟨⟨wF,hl⟩,rfl⟩:=hx;rcases hM.dM n wF hl with ⟨h1,h2⟩ |⟨ls,tl,sl,h1,h2,h4,_⟩ |⟨k,sl,h1,h2,_⟩
   ·rw [(bφ n wF h2).1]
    refine .inl ⟨⟨⟨wF,h2⟩,rfl⟩,fun y hy=>?_⟩;obtain⟨y',E9,c⟩:=js y _ hy;have e:=hm.pX (false,n) y' _ ⟨⟨wF,h2⟩,rfl⟩ E9;rcases c with ⟨o,rfl,rfl⟩ |⟨nm,a,A,rfl,rfl,_⟩
    ·simp only [Prod.mk.injEq,true_and] at e
     subst e;obtain⟨⟨tl,ht⟩,_⟩:=hy;rw [h1] at ht;cases ht
    ·simp at e
   ·rw [(bφ n ls h1).1]
    exact .inr ⟨(false,n),⟨⟨sl,h4⟩,(hφ n tl h2).1.symm⟩,.inl ⟨n,n,rfl,rfl,.inl ⟨rfl,tl,h2⟩⟩⟩
   ·exact .inr ⟨(false,k),⟨⟨sl,h2⟩,by simp [Gh.iE,h1]⟩,.inl ⟨n,k,rfl,rfl,.inr h1⟩⟩
  |true=>
   obtain⟨⟨A,hA,hs⟩,p,hp,rfl⟩:=hx;rcases hM.arr n A hA with ⟨k,h1,h2,h4,_⟩ |⟨h1,_⟩ |⟨k,h0,h1,h2,h4,h5,_⟩ |⟨h0,h1,h2,h4⟩
   ·simp only [Gh.iE,h1] at hp
    exact .inr ⟨(true,k),⟨⟨A,h2,hs⟩,p,hp,rfl⟩,.inr (.inl ⟨n,k,rfl,rfl,h1⟩)⟩
   ·simp only [Gh.iE,h1] at hp;cases hp
   ·simp only [Gh.iE,h0,h1] at hp
    exact .inr ⟨(true,k),⟨⟨A,h4,hs⟩,p,hp,rfl⟩,.inr (.inr ⟨n,k,rfl,rfl,h1⟩)⟩
   ·simp only [Gh.iE,h0,h1] at hp
    have ho:eW G st (true,n) p.1:=⟨⟨A,h2,hs⟩,p,hp,rfl⟩;refine .inl ⟨ho,fun y hy=>?_⟩;obtain⟨y',E9,c⟩:=js y _ hy;have e:=hm.pX (true,n) y' _ ho E9;rcases c with ⟨o,rfl,rfl⟩ |⟨nm,a,B,rfl,rfl,hl⟩
    ·simp at e
    ·simp only [Prod.mk.injEq,true_and] at e
     subst e;rcases h4 with h4 | h4
     ·rw [hs] at h4;cases h4
     ·exact h4 nm B hl
 have sV:∀ b,b < w.heap.size→(∀ y,¬ eW (G.t7 al) t y b)→w'.heap[b]? = w.heap[b]?:=fun b hb hn=>h3.fr b hb (fun⟨y,hy⟩=>hn y hy);have hin:∀ x3 b,eW G3 s x3 b→(∃ x',eW G st x' b)∨w.heap.size≤b:=fun x3 b hx=>by
  rcases h3.s6 x3 b hx with ⟨y,hy⟩ | h
  ·obtain⟨y',E9,_⟩:=js y b hy;exact .inl ⟨y',E9⟩
  ·exact .inr h
 refine {sl:=fun a=>?_,sh:=h3.sh,ob:=fun q wF hq=>?_,ar:=fun a A hA=>?_,ah:=fun a A hA hs p hp=>?_,nd:=fun a A hA hs=>?_,pX:=fun x y b hx hy=>?_,dS:=fun x b hx=>?_,s6:=fun x b hx=>?_,s0:=fun b o h=>hS b o (hm.s0 b o h),sn:=fun b o h=>?_,fr:=fun b hb hn=>?_,sz:=Nat.le_trans hm.sz h3.sz,os:=h3.os.trans hm.os,tp:=h3.tp.trans hm.tp,out:=h3.out.trans hm.out,pin:=fun q p hp=>?_,bv:=fun q j u hu=>?_,ap:=fun a u hu=>(by obtain⟨h1,⟨A,h2⟩,h3⟩:=hm.ap a u hu;obtain⟨h4,h5⟩:=hM.ap a A h1 h2;exact⟨by rw [hM.pn];exact h1,h5,by simp [Gh.iE,h4,h3]⟩),hv:=fun a=>(by rw [hM.vr a];simp only [Gh.iE,hm.hv a]),ds:=hm.ds,hh:=fun a A hA hs hn=>?_}
 ·show SlV (match told a with | some (some k)=>G3.ψ k | some none=>.slice none 0 0 | none=>G.ψ a)
  split
  ·exact h3.sl _
  ·exact .inl ⟨_,_,_,rfl⟩
  ·exact hm.sl _
 ·rcases hM.dM q wF hq with ⟨h1,h2⟩ |⟨ls,tl,sl,h1,h2,h4,e1,e2,e3,hj⟩ |⟨k,sl,h1,h2,e1,hj⟩
  ·obtain⟨arr,elem,mid,g1,g2,g3⟩:=hm.ob q wF h2
   have bo:=eW.lt hm (x:=(false,q)) ⟨⟨wF,h2⟩,rfl⟩;have vN:∀ y,¬ eW (G.t7 al) t y (G.φ q):=fun y hy=>by
    rcases cls (false,q) (G.φ q) ⟨⟨wF,hq⟩,(bφ q wF h2).1.symm⟩ with ⟨_,h⟩ |⟨x3,hx3,c⟩
    ·exact h y hy
    ·obtain⟨y',E9,c'⟩:=js y _ hy
     have e:=hm.pX (false,q) y' _ ⟨⟨wF,h2⟩,rfl⟩ E9;rcases c' with ⟨o,rfl,rfl⟩ |⟨nm,a,A,rfl,rfl,_⟩
     ·simp only [Prod.mk.injEq,true_and] at e
      subst e;obtain⟨⟨tl,ht⟩,_⟩:=hy;rw [h1] at ht;cases ht
     ·simp at e
   obtain⟨b1,b2,b3⟩:=bφ q wF h2;refine⟨arr,elem,mid,by rw [b1,sV _ bo vN];exact g1,by rw [b2,b3];exact g2,?_⟩
   unfold ie at g3 ⊢;rw [jU (st:=st) (fun j l=>by cases l<;>simp [St.res,hM.bl])]
   refine g3.uz fun l v hl Bj=>hM.le hS (fun a k hk=>?_) (fun a k hk=>?_) Bj
   ·have:=List.any_eq_false.1 (rC (hM.E5 a k hk) h2 0) l hl
    simpa using this
   ·have:=List.any_eq_false.1 (rC (hM.Dw a k hk).2.1 h2 0) l hl
    simpa using this
  ·obtain⟨arr,elem,mid,g1,g2,g3⟩:=h3.ob q sl h4
   obtain⟨f1,f2,f3⟩:=hφ q tl h2;obtain⟨bo,_,_⟩:=hM.aay q tl h2;have hml:mid.length=sl.length:=by have:=All2.length g3;rw [iK] at this;exact this.symm
   obtain⟨b1,b2,b3⟩:=bφ q ls h1;refine⟨arr,elem,mid,by rw [b1,←f1];exact g1,by rw [b2,b3];rw [f2,f3] at g2;exact g2,?_⟩
   refine All2.TS (by rw [iK];omega) fun j x y hx hy=>?_
   rw [rH,Option.map_eq_some_iff] at hx;obtain⟨l',KV,rfl⟩:=hx;rw [Nat.zero_add];have hjl:j < wF.length:=(List.getElem?_eq_some_iff.1 KV).1;have Nc:ls[j]? = some ls[j]:=List.getElem?_eq_getElem (by omega)
   have KX:sl[j]? = some sl[j]:=List.getElem?_eq_getElem (by omega)
   rcases hj j l' ls[j] sl[j] KV Nc KX with ⟨e,hb,lf,P4⟩ | hB
   ·obtain⟨xt,qQ,u,q1,q2,q3⟩:=Mh zB bo h2 P4 hb
    obtain⟨_,_,abu,aaN,q4,q5⟩:=h3.bv q j u q3;rw [g1] at q4;cases q4;have hyu:y=u:=by rw [Qk g2 (by omega),hy] at q5;exact Option.some.inj q5
    obtain⟨WS,Xc,afi,p1,p2,p3⟩:=hm.ob q ls h1;have q1:w.heap[G.φ q]? = some (.cells xt qQ (0,0)):=q1;have q2:xt.toList[(G.pre q).length + j]? = some u:=q2;rw [p1] at q1;cases q1;have afN:afi.length=ls.length:=by have:=All2.length p3;rw [iK] at this;exact this.symm
    rw [Qk p2 (by omega)] at q2
    obtain⟨u',hu',P7⟩:=All2.wa (i:=j) p3 (by rw [rH,Nc];rfl)
    rw [q2] at hu';cases hu';rw [Nat.zero_add] at P7;rw [e,hyu];refine hM.le hS (fun a k hk=>?_) (fun a k hk=>?_) P7
    ·have:=List.any_eq_false.1 (rC (hM.E5 a k hk) h1 0) (st.res q j ls[j]) (List.mem_of_getElem? (i:=j) (by rw [rH,Nc];simp))
     simpa using this
    ·have:=List.any_eq_false.1 (rC (hM.Dw a k hk).2.1 h1 0) (st.res q j ls[j]) (List.mem_of_getElem? (i:=j) (by rw [rH,Nc];simp))
     simpa using this
   ·obtain⟨u',hu',P7⟩:=All2.wa (i:=j) g3 (by rw [rH,KX];rfl)
    rw [hy] at hu';cases hu';rw [Nat.zero_add] at P7;exact hB G G3 _ ⟨_,_,h3⟩ hφ2 P7
  ·obtain⟨arr,elem,mid,g1,g2,g3⟩:=h3.ob k sl h2
   refine⟨arr,elem,mid,by simp only [Gh.iE,h1];exact g1,by simp only [Gh.iE,h1];exact g2,?_⟩
   have hml:mid.length=sl.length:=by have:=All2.length g3;rw [iK] at this;exact this.symm
   refine All2.TS (by rw [iK];omega) fun j x y hx hy=>?_
   rw [rH,Option.map_eq_some_iff] at hx;obtain⟨l',KV,rfl⟩:=hx;rw [Nat.zero_add];have hjl:j < wF.length:=(List.getElem?_eq_some_iff.1 KV).1;have KX:sl[j]? = some sl[j]:=List.getElem?_eq_getElem (by omega)
   obtain⟨u',hu',P7⟩:=All2.wa (i:=j) g3 (by rw [rH,KX];rfl)
   rw [hy] at hu';cases hu';rw [Nat.zero_add] at P7;exact hj j l' sl[j] KV KX G G3 _ ⟨_,_,h3⟩ hφ2 P7
 ·rcases hM.arr a A hA with ⟨k,h1,h2,h4,h6⟩ |⟨h1,h2,h4,h6⟩ |⟨k,h0,h1,h2,h4,h5,h6⟩ |⟨h0,h1,h2,h4⟩
  ·exact(h3.ar k A h2).mono (G:=G3) (a:=k) (G':=G.iE G3 told lb oB) (a':=a) (fun _ _ h=>h) (by simp [Gh.iE,h1]) (by simp [Gh.iE,h1]) (fun i o e=>absurd e (h6 i o))
  ·exact(gW h4 h6).2 (.inl ⟨h2,by simp [Gh.iE,h1],by simp [Gh.iE,h1]⟩)
  ·exact(h3.ar k A h4).mono (G:=G3) (a:=k) (G':=G.iE G3 told lb oB) (a':=a) (fun _ _ h=>h) (by simp [Gh.iE,h0];exact(Hw a k h1 h0).symm) (by simp [Gh.iE,h0,h1]) (fun i o e=>absurd e (h6 i o))
  ·refine(hm.ar a A h2).mono (G:=G) (a:=a) (G':=G.iE G3 told lb oB) (a':=a) hS (by simp [Gh.iE,h0]) (by simp [Gh.iE,h0,h1]) (fun i o e=>?_)
   have vN:oB o=none:=by
    cases hn:oB o with
    |none=>rfl
    |some k=>exact absurd rfl (D7 (hM.Dw o k hn).2.1 h2 e)
   simp [Gh.iE,vN]
 ·have hx:eW (G.iE G3 told lb oB) st' (true,a) p.1:=⟨⟨A,hA,hs⟩,p,hp,rfl⟩
  rcases hM.arr a A hA with ⟨k,h1,h2,h4,h6⟩ |⟨h1,h2,h4,h6⟩ |⟨k,h0,h1,h2,h4,h5,h6⟩ |⟨h0,h1,h2,h4⟩
  ·simp only [Gh.iE,h1] at hp;exact h3.ah k A h2 hs p hp
  ·simp only [Gh.iE,h1] at hp;cases hp
  ·simp only [Gh.iE,h0,h1] at hp;exact h3.ah k A h4 hs p hp
  ·have zK:p∈G.HA a:=by simpa only [Gh.iE,h0,h1] using hp
   rcases cls _ _ hx with ⟨g1,g2⟩ |⟨x3,_,c⟩
   ·rw [sV _ (eW.lt hm g1) g2];exact hm.ah a A h2 hs p zK
   ·rcases c with ⟨q,q3,e,_⟩ |⟨a',k,e,_,ha⟩ |⟨a',k,e,_,ha⟩<;>simp only [Prod.mk.injEq,true_and,reduceCtorEq,false_and] at e
    ·subst e;rw [h0] at ha;cases ha
    ·subst e;rw [h1] at ha;cases ha
 ·rcases hM.arr a A hA with ⟨k,h1,h2,h4,h6⟩ |⟨h1,h2,h4,h6⟩ |⟨k,h0,h1,h2,h4,h5,h6⟩ |⟨h0,h1,h2,h4⟩
  ·simp only [Gh.iE,h1];exact h3.nd k A h2 hs
  ·simp only [Gh.iE,h1];exact List.nodup_nil
  ·simp only [Gh.iE,h0,h1];exact h3.nd k A h4 hs
  ·simp only [Gh.iE,h0,h1];exact hm.nd a A h2 hs
 ·rcases cls x b hx with ⟨h1,h2⟩ |⟨x3,h1,c1⟩<;>rcases cls y b hy with ⟨k1,k2⟩ |⟨y3,k1,c2⟩
  ·exact hm.pX x y b h1 k1
  ·rcases h3.s6 y3 b k1 with ⟨z,hz⟩ | h
   ·exact absurd hz (h2 z)
   ·have:=eW.lt hm h1;have h:w.heap.size≤b:=h;omega
  ·rcases h3.s6 x3 b h1 with ⟨z,hz⟩ | h
   ·exact absurd hz (k2 z)
   ·have:=eW.lt hm k1;have h:w.heap.size≤b:=h;omega
  ·have e:=h3.pX x3 y3 b h1 k1
   rcases c1 with ⟨q,q3,rfl,rfl,hq⟩ |⟨a,k,rfl,rfl,ha⟩ |⟨a,k,rfl,rfl,ha⟩<;>rcases c2 with ⟨q',q3',rfl,rfl,Hz⟩ |⟨a',k',rfl,rfl,ha'⟩ |⟨a',k',rfl,rfl,ha'⟩<;>simp only [Prod.mk.injEq,true_and,reduceCtorEq,false_and] at e
   ·subst e
    rcases hq with ⟨e1,tl,h5⟩ | hq<;>rcases Hz with ⟨e2,tl',h6⟩ | Hz
    ·rw [←e1,←e2]
    ·rw [←e1,(hM.Dw q' q3 Hz).2.2] at h5;cases h5
    ·rw [←e2,(hM.Dw q q3 hq).2.2] at h6;cases h6
    ·rw [hM.adY q q' q3 hq Hz]
   ·subst e;rw [hM.ti a a' k ha ha']
   ·subst e;exact absurd ha' (hM.tk a a' k ha)
   ·subst e;exact absurd ha (hM.tk a' a k ha')
   ·subst e;rw [hM.ki a a' k ha ha']
 ·rcases cls x b hx with ⟨h1,h2⟩ |⟨x3,h1,c1⟩
  ·cases hc:G3.S b with
   |none=>exact hc
   |some o=>
    rcases h3.sn b o hc with h |⟨y,hy⟩ | h
    ·have:=hm.dS x b h1;rw [show G.S b=some o from h] at this;cases this
    ·exact absurd hy (h2 y)
    ·have:=eW.lt hm h1;have h:w.heap.size≤b:=h;omega
  ·exact h3.dS x3 b h1
 ·rcases cls x b hx with ⟨h1,h2⟩ |⟨x3,h1,c1⟩
  ·exact hm.s6 x b h1
  ·rcases hin x3 b h1 with ⟨x',D3⟩ | h
   ·exact hm.s6 x' b D3
   ·have:=hm.sz;exact .inr (by omega)
 ·rcases h3.sn b o h with h |⟨y,hy⟩ | h
  ·exact hm.sn b o h
  ·obtain⟨y',E9,_⟩:=js y b hy
   rcases hm.s6 y' b E9 with h | h
   ·exact .inr (.inl h)
   ·exact .inr (.inr h)
  ·have:=hm.sz;have h:w.heap.size≤b:=h;exact .inr (.inr (by omega))
 ·rw [sV b (by have:=hm.sz;omega) (fun y hy=>by
   obtain⟨y',E9,_⟩:=js y b hy;rcases hm.s6 y' b E9 with h | h
   ·exact hn h
   ·omega)]
  exact hm.fr b hb hn
 ·obtain⟨⟨ls,h1⟩,h2⟩:=hm.pin q p hp
  obtain⟨b1,b2,b3⟩:=bφ q ls h1;exact⟨hM.UR q ls h1,by rw [b1,b2,b3];exact h2⟩
 ·obtain⟨⟨lf,h1⟩,⟨ls,h2,h4⟩,xt,qQ,h5,h6⟩:=hm.bv q j u hu
  obtain⟨wF,k1,k2,k3⟩:=hM.ur q j ls lf h2 h4 h1;refine⟨⟨lf,by rw [hM.bl];exact h1⟩,⟨wF,k1,k2⟩,?_⟩
  obtain⟨b1,b2,b3⟩:=bφ q ls h2;rw [b1,b2];rcases k3 with k3 |⟨tl,lf',k3,k4,k5⟩
  ·have hx:eW (G.iE G3 told lb oB) st' (false,q) (G.φ q):=⟨⟨wF,k1⟩,b1.symm⟩
   refine⟨xt,qQ,?_,h6⟩;rcases cls _ _ hx with ⟨g1,g2⟩ |⟨x3,g1,c⟩
   ·rw [sV _ (eW.lt hm g1) g2];exact h5
   ·have vN:∀ y,¬ eW (G.t7 al) t y (G.φ q):=fun y hy=>by
     obtain⟨y',E9,c'⟩:=js y _ hy;have e:=hm.pX (false,q) y' _ ⟨⟨ls,h2⟩,rfl⟩ E9;rcases c' with ⟨o,rfl,rfl⟩ |⟨nm,a,A,rfl,rfl,_⟩
     ·simp only [Prod.mk.injEq,true_and] at e
      subst e;obtain⟨⟨tl,ht⟩,_⟩:=hy;rw [k3] at ht;cases ht
     ·simp at e
    rw [sV _ (eW.lt hm (x:=(false,q)) ⟨⟨ls,h2⟩,rfl⟩) vN];exact h5
  ·obtain⟨f1,f2,f3⟩:=hφ q tl k3
   obtain⟨bo,_,_⟩:=hM.aay q tl k3;obtain⟨abu,aaN,u',q1,q2,q3⟩:=Mh zB bo k3 k5 k4;have q1:w.heap[G.φ q]? = some (.cells abu aaN (0,0)):=q1;have q2:abu.toList[(G.pre q).length + j]? = some u':=q2;rw [h5] at q1;cases q1;rw [h6] at q2;cases q2;obtain⟨_,_,WS,Xc,q4,q5⟩:=h3.bv q j u q3;exact⟨WS,Xc,by rw [←f1];exact q4,by rw [←f2];exact q5⟩
 ·rcases hM.arr a A hA with ⟨k,h1,_⟩ |⟨h1,_⟩ |⟨k,h0,h1,_⟩ |⟨h0,h1,h2,h4⟩
  ·simp only [Gh.iE,h1]
  ·simp only [Gh.iE,h1,ko]
  ·simp only [Gh.iE,h0,h1];rw [if_neg (by omega)]
  ·simp only [Gh.iE,h0,h1];exact hm.hh a A h2 hs hn
end
end Go.Fx
namespace Go.Fx
noncomputable def xv(E:sd)(c:Code):List (Code×lh):=
 Code.rec (motive:=fun _=>List (Code×lh)) [] (fun id ops draw=>bif draw then(match E.nY (id + 1000000) with | some L=>[(.region id ops true,L)] | none=>[]) else []) (fun _ _ x y=>x ++ y) (fun _ _ _ x y=>x ++ y)
  (fun id b x=>match E.nY id with | some L=>[(.block id b,L)] | none=>x) (fun _ _=>[]) (fun _ _ _ _ _ _=>[])
  (fun _=>[]) (fun _ _=>[]) (fun _=>[]) (fun _=>[]) [] (fun _=>[]) c
theorem TL{P:Program}{E:sd}{c:Code}:(∀ x∈xv E c,uo P E.gt x.1 x.2)→rV P E c:=by
 induction c with
 |seq a b Mf Qa=>intro h;exact⟨Mf fun x hx=>h x (List.mem_append_left _ hx),Qa fun x hx=>h x (List.mem_append_right _ hx)⟩
 |cond c a b Mf Qa=>intro h;exact⟨Mf fun x hx=>h x (List.mem_append_left _ hx),Qa fun x hx=>h x (List.mem_append_right _ hx)⟩
 |region id ops draw=>
  intro h;cases draw with
  |false=>trivial
  |true=>
   have h:∀ x∈(match E.nY (id + 1000000) with | some L=>[((.region id ops true:Code),L)] | none=>[]),uo P E.gt x.1 x.2:=h
   show(match true,E.nY (id + 1000000) with | true,some L=>uo P E.gt (.region id ops true) L | _,_=>True)
   cases hl:E.nY (id + 1000000) with
   |some L=>rw [hl] at h;exact h (_,L) (by simp)
   |none=>trivial
 |block id b ih=>
  intro h;have h:∀ x∈(match E.nY id with | some L=>[((.block id b:Code),L)] | none=>xv E b),uo P E.gt x.1 x.2:=h
  show(match E.nY id with | some L=>Pq P E.gt id b L | none=>rV P E b)
  cases hl:E.nY id with
  |some L=>rw [hl] at h;exact h (_,L) (by simp)
  |none=>rw [hl] at h;exact ih h
 |_=>intro _;trivial
theorem Qh{P:Program}{E:sd}{c:Code}{l:List (Code×lh)}(e:xv E c=l)(h:∀ x∈l,uo P E.gt x.1 x.2):rV P E c:=TL (by rw [e];exact h)
end Go.Fx
namespace Go.Fx
open Go.RowKit (Below)
def Ty.zG:Ty→Bool
 |.int _=>true | .bool=>true | .str=>true | _=>false
def aaq:(t:Ty)→t.ng→Value
 |.int k,n=>.int k n
 |.bool,b=>.bool b
 |.str,s=>kl s
 |_,_=>undef
def Ii:(ts:List Ty)→DL ts→List Value
 |[],_=>[]
 |t :: r,d=>aaq t d.1 :: Ii r d.2
theorem AR{G:Gh}{t:Ty}(ht:t.zG=true){d:t.ng}{v:Value}:aY G (.eZ t d) v↔v=aaq t d:=by
 have fwd:∀{t:Ty} {d:t.ng},t.agg=false→(∀ cs,gc G.S false t cs d []→cs = [aaq t d])→aY G (.eZ t d) v→v=aaq t d:=fun {t d} ha hr h=>by obtain⟨cs,e1,e2⟩:=h;simp only [ha,Bool.false_eq_true,if_false] at e1;have:=hr cs e2;rw [e1] at this;simpa using this
 cases t with
 |int k=>exact⟨fwd rfl fun cs h=>h.1,fun h=>by subst h;exact kE k d⟩
 |bool=>exact⟨fwd rfl fun cs h=>h.1,fun h=>by subst h;exact oi d⟩
 |str=>exact⟨fwd rfl fun cs h=>h.1,fun h=>by subst h;exact Jo d⟩
 |_=>simp [Ty.zG] at ht
theorem Ph{G:Gh}:∀{ts:List Ty} {d:DL ts} {vs:List Value},(ts.all Ty.zG)=true→zn G ts d vs→vs=Ii ts d
 |[],d,[],_,_=>rfl
 |t :: r,d,v :: vs,h,hd=>by simp only [List.all_cons,Bool.and_eq_true] at h;rw [Ii,(AR h.1).1 hd.1,Ph h.2 hd.2]
 |[],d,_ :: _,_,h=>h.elim
 |_ :: _,d,[],_,h=>h.elim
theorem Pg{G:Gh}:∀{ts:List Ty} {d:DL ts},(ts.all Ty.zG)=true→zn G ts d (Ii ts d)
 |[],d,_=>trivial
 |t :: r,d,h=>by simp only [List.all_cons,Bool.and_eq_true] at h;exact⟨(AR h.1).2 rfl,Pg h.2⟩
theorem aB.ac2{X:mt}{st:St}{G:Gh}{w w':World}(hm:aB X st G w)(hb:Below w.heap.size w w'):aB X st G w':=by
 have sV:∀{b:Nat} {o:Obj},w.heap[b]? = some o→w'.heap[b]? = some o:=fun {b o} h=>by rw [hb.block b (fW h)];exact h
 exact {sl:=hm.sl,sh:=fun b o h=>sV (hm.sh b o h),ob:=fun o ls h=>(by obtain⟨arr,elem,mid,g1,g2,g3⟩:=hm.ob o ls h;exact⟨arr,elem,mid,sV g1,g2,g3⟩),ar:=hm.ar,ah:=fun a A h hs p hp=>sV (hm.ah a A h hs p hp),nd:=hm.nd,pX:=hm.pX,dS:=hm.dS,s6:=hm.s6,s0:=hm.s0,sn:=hm.sn,fr:=fun b h1 h2=>(by rw [hb.block b (by have:=hm.sz;omega)];exact hm.fr b h1 h2),sz:=Nat.le_trans hm.sz hb.size,os:=hb.os.trans hm.os,tp:=hb.tape.trans hm.tp,out:=hb.output.trans hm.out,pin:=hm.pin,bv:=fun o j u h=>(by obtain⟨h1,h2,xt,qQ,h4,h5⟩:=hm.bv o j u h;exact⟨h1,h2,xt,qQ,sV h4,h5⟩),ap:=hm.ap,hv:=hm.hv,ds:=hm.ds,hh:=hm.hh}
theorem O7:∀{ts:List Ty},ts.all Ty.zG=true→ts.all Ty.yk=true
 |[],_=>rfl
 |t :: r,h=>by simp only [List.all_cons,Bool.and_eq_true] at h ⊢;exact⟨by cases t<;>simp_all [Ty.zG,Ty.yk],O7 h.2⟩
theorem DN{P:Program}{gt:Nat→Option GA}{f:FuncId}{ts rs:List Ty}{W:Type}{F:DL ts→Option W}{dec:W→DL rs}(hts:ts.all Ty.zG=true)(hrs:rs.all Ty.zG=true)(Am:∀ args w,(callFunc f args).run P w = .ok (.enter f args) w)
  (h:∀ d y w,m9 gt (fun b=>w.heap[b]?)→F d=some y→Calls P f (Ii ts d).toArray w fun e w'=>e = .returned (Gs (Ii rs (dec y)))∧Below w.heap.size w w'):z7 P gt f (AP ts rs F dec):=by
 intro R r X st G w dst args vs K KP hr yH hm _ ha;simp only [AP,O7 hrs,cond_true] at hr;split at hr
 ·rename_i vU hs
  split at hr
  ·rename_i d hd
   obtain⟨y,hx,hr⟩:=Option.bind_eq_some_iff.1 hr;obtain⟨G1,m1,a1,k1⟩:=yw hs hm;have hdr:=Dc m1 hd (ha.imp fun a v h=>h.sub a1);have hv:=Ph hts hdr;subst hv;refine⟨Am _ _,(h d y w (yH.mono fun b o hb=>hm.sh b o (hm.s0 b o hb)) hx).mono fun e w' ⟨he,hb⟩=>?_⟩;subst he;exact⟨_,st,G,hm.ac2 hb,fun act ra=>ra,K6 (Pg hrs),hr⟩
  ·cases hr
 ·cases hr
end Go.Fx
namespace Go.Fx
open Go.RowKit (Below)
theorem aB.toBelow{S:CS}{st:St}{G:Gh}{w w':World}(h:aB (Rz S w) st G w'):Below w.heap.size w w':=
 ⟨h.os,h.tp,h.out,h.sz,fun k hk=>h.fr k hk (fun h=>h)⟩
theorem To{P:Program}{f:FuncId}{ts rs:List Ty}{W:Type}{F:DL ts→Option W}{dec:W→DL rs}{gt:Nat→Option GA}(hs:z7 P gt f (AP ts rs F dec))(hrs:rs.all Ty.zG=true){S:CS}{w:World}(hS:∀ b o,S b=some o→w.heap[b]? = some o)(hg:m9 gt S)
  {avs:List ae} {vs:List Value} {d:DL ts} {y:W} (hF:F d=some y) (hv:All2 (aU (ghD S)) avs vs) (dn:uT avs (stD 0 [] ())=some (stD 0 [] ())) (hgv:Ot (stD 0 [] ()) ts avs=some d):
  Calls P f vs.toArray w fun e w'=>e = .returned (Gs (Ii rs (dec y)))∧Below w.heap.size w w':=by
 have iy:(AP ts rs F dec).run 0 avs (stD 0 [] ()) (fun av _=>some av) (fun _ _=>none)=some (Sv rs (dec y)):=by simp [AP,dn,hgv,hF]
 obtain⟨_,h⟩:=hs iy hg (T9 hS 0 [] ()) ⟨{tmps:=#[],defers:=[]},rfl,rfl,fun i v h=>by cases h⟩ hv
 refine h.mono fun e w' he=>?_;cases e with
 |returned v=>
  obtain⟨av,st',G',h1,h2,h3,h4⟩:=he;cases h4;refine⟨?_,h1.toBelow⟩;have key:∀{rs:List Ty} {x:DL rs},rs.all Ty.zG=true→aU G' (Sv rs x) v→v=Gs (Ii rs x):=by
   intro rs x hrs hv
   match rs,x,hrs,hv with
   |[],x,_,hv=>obtain⟨us,e,h⟩:=hv;cases us with
    |nil=>exact e
    |cons _ _=>exact h.elim
   |[t],x,hrs,hv=>simp only [List.all_cons,Bool.and_eq_true] at hrs;exact(AR hrs.1).1 hv
   |t :: t2 :: r,x,hrs,hv=>
    obtain⟨us,e,h⟩:=hv;have JT:∀{rs:List Ty} {x:DL rs} {us:List Value},rs.all Ty.zG=true→All2 (fun(p:Bool×List ag) u=>if p.1=true then ∃ cs:List Value,u = .agg cs.toArray∧All2 (aY G') p.2 cs else ∃ l,p.2 = [l]∧aY G' l u) (aaz rs x) us→us=Ii rs x:=by
     intro rs;induction rs with
     |nil=>intro x us _ h;cases us with
      |nil=>rfl
      |cons _ _=>exact h.elim
     |cons t r ih=>
      intro x us hrs h;simp only [List.all_cons,Bool.and_eq_true] at hrs;cases us with
      |nil=>exact h.elim
      |cons u us=>
       have h1:=h.1;have ha:t.agg=false:=by cases t<;>simp [Ty.zG] at hrs<;>rfl
       simp only [ha,Bool.false_eq_true,if_false] at h1;obtain⟨l,e1,e2⟩:=h1;have hl:l = .eZ t x.1:=by cases t<;>simp [Ty.zG] at hrs<;>(simp only [jO,List.cons.injEq,and_true] at e1;exact e1.symm)
       subst hl;rw [(AR hrs.1).1 e2,ih hrs.2 h.2];rfl
    rw [e,JT hrs h];rfl
  rw [key hrs h3]
 |panicked Hh=>obtain⟨v,_,_,_,_,_,_,h⟩:=he;cases h
 |outgrown=>exact he.elim
end Go.Fx
namespace Go.Fx
def oV:Nat→List ae→List (Nat×ae)
 |_,[]=>[]
 |i,v :: r=>(i,v) :: oV (i + 1) r
def B0(n:Nat)(args:List ae)(st:St):St:=⟨n,oV 0 args,st.cf,st.cK,[],st.cA,st.fN,st.pin,st.DS⟩
def yl(cf:List (Nat×Nat))(st:St):Bool:=cf.all fun p=>match st.dM p.1 with | some ls=>Nat.beq ls.length p.2 | none=>false
def Gi(o:Nat)(cf:List (Nat×Nat)):Bool:=eV o (cf.map (·.1))
def yj(L:pW):Bool:=
 L.cf.all (fun p=>Nat.blt p.1 10000) && nR (L.cf.map (·.1)) && nR ((L.cs ++ L.vs).map fun p=>p.1.key) &&
  (L.cs ++ L.vs).all (fun p=>match p.1 with | .l o _=>Gi o L.cf | _=>true) &&
  L.cs.all (fun p=>match p.1 with | .l _ _=>true | _=>false)
def YE(pin:List Nat)(b:AL):Bool:=pin.all fun k=>(look b k).isSome
structure Zm(L:pW) where
 c:PV L.cs
 v:PV L.vs
 st:St
 a:AL
 b:AL
def Xd(L:pW)(args:List ae)(st:St):Option (Zm L):=
 match iG L.cs (B0 L.n args st) with
 |none=>none
 |some s=>(match iG L.vs s with
  |none=>none
  |some s=>(match kX s L.cs with
   |none=>none
   |some (c,a)=>(match kX s L.vs with
    |none=>none
    |some (v,b)=>(bif zt (a ++ b) && yl L.cf s && yj L && Nat.ble args.length L.n && qOk L.vs s && YE L.pin b then some ⟨c,v,{st with cK:=s.cK},a,b⟩ else none))))
def NZ(L:pW)(al:AL)(told:kN)(news:List (Nat×Nat×Nat))(s:St):Option (PV told):=
 match iG told s with
 |none=>none
 |some s=>(match kX s told with
  |none=>none
  |some (o,b)=>(bif uQ s L.cs && zt (al ++ b) && yl L.cf s && yl (news.map fun p=>(p.1,p.2.1)) s && qOk told s && Fd L.pin b then some o else none))
def nmO(dst k:Nat):Nat:=(dst + 1) * 1000000000 + k
def HQ:List (Nat×Nat×Nat)→Nat→Option Nat
 |[],_=>none
 |p :: r,o=>bif Nat.beq p.1 o then some p.2.2 else HQ r o
def YR(news:List (Nat×Nat×Nat)):ag→ag
 |.mW o off=>(match HQ news o with | some k=>.mW k off | none=>.mW o off)
 |l=>l
def yy(dst:Nat)(pin:List Nat)(news:List (Nat×Nat×Nat))(p:Pl)(s:mq)(x:s.V):ag:=bif eV p.key pin then .any else YR news (s.bM (nmO dst p.key) x)
def jg(dst:Nat)(pin:List Nat)(news:List (Nat×Nat×Nat)):(ps:kN)→PV ps→List (Nat×Nat×ag)
 |[],_=>[]
 |(.l o j,s) :: r,v=>(o,j,yy dst pin news (.l o j) s v.1) :: jg dst pin news r v.2
 |(.r _,_) :: r,v=>jg dst pin news r v.2
 |(.q _ _,_) :: r,v=>jg dst pin news r v.2
def JM(dst:Nat)(pin:List Nat)(news:List (Nat×Nat×Nat)):(ps:kN)→PV ps→List (Nat×ae)
 |[],_=>[]
 |(.r i,s) :: r,v=>(i,.one (yy dst pin news (.r i) s v.1)) :: JM dst pin news r v.2
 |(.l _ _,_) :: r,v=>JM dst pin news r v.2
 |(.q _ _,_) :: r,v=>JM dst pin news r v.2
def T0(dst:Nat)(pin:List Nat)(news:List (Nat×Nat×Nat)):(ps:kN)→PV ps→List (Nat×Nat×ag)
 |[],_=>[]
 |(.q i j,s) :: r,v=>(i,j,yy dst pin news (.q i j) s v.1) :: T0 dst pin news r v.2
 |(.r _,_) :: r,v=>T0 dst pin news r v.2
 |(.l _ _,_) :: r,v=>T0 dst pin news r v.2
def Rj(dst:Nat)(pin:List Nat)(news:List (Nat×Nat×Nat))(ps:kN)(v:PV ps):List (Nat×ae):=JM dst pin news ps v ++ (Wn ps ps).map fun p=>(p.1,.agg (qsh (T0 dst pin news ps v) p.1 0 p.2))
def rq(dst:Nat)(pin:List Nat):(ps:kN)→PV ps→List (Nat×jF)
 |[],_=>[]
 |(p,s) :: r,v=>(match s.arr v.1 with | some A=>(bif eV p.key pin then rq dst pin r v.2 else(nmO dst p.key,A) :: rq dst pin r v.2) | none=>rq dst pin r v.2)
def oI(pin:List Nat)(b:AL):(ps:kN)→PV ps→List (Nat×jF)
 |[],_=>[]
 |(p,s) :: r,v=>(match s.arr v.1 with | some A=>(bif eV p.key pin then(match look b p.key with | some (some a,_)=>(a,A) :: oI pin b r v.2 | _=>oI pin b r v.2) else oI pin b r v.2) | none=>oI pin b r v.2)
def vS(tl:List (Nat×Nat×ag))(cs:kN)(o:Nat):Nat→List ag→List ag
 |_,[]=>[]
 |j,l :: r=>(match dY tl o j with | some x=>x | none=>bif yG o j cs then l else .any) :: vS tl cs o (j + 1) r
def Ky(tl:List (Nat×Nat×ag))(k:Nat):Nat→Nat→List ag
 |_,0=>[]
 |j,n + 1=>(match dY tl k j with | some x=>x | none=>.any) :: Ky tl k (j + 1) n
def Jr(b:AL):List Nat:=b.filterMap (·.2.1)
def vQ(pin:List Nat)(b:AL):AL:=b.filter fun e=>!eV e.1 pin
def C7(pin:List Nat)(b:AL):AL:=b.filter fun e=>eV e.1 pin
def GW(dst:Nat)(L:pW)(told:kN)(o:PV told)(news:List (Nat×Nat×Nat))(a b:AL)(st:St):St:=
 {st with
  DS:=(Jr (a ++ C7 L.pin b)).map (fun k=>(k,st.dA k + 1)) ++ st.DS
  cf:=(news.map fun p=>(p.2.2,Ky (jg dst L.pin news told o) p.1 0 p.2.1)) ++ ((L.cf.map fun p=>(p.1,vS (jg dst L.pin news told o) L.cs p.1 0 ((st.dM p.1).getD []))) ++ st.cf)
  cK:=rq dst L.pin told o ++ (oI L.pin b told o ++ kT (Jr b) st.cK)}
def M5:ae→Bool×List ag
 |.one (.eZ t d)=>(t.agg,jO t d)
 |.one l=>(false,[l])
 |.agg ls=>(true,ls)
 |_=>(false,[.any])
def OZ(l:List (Nat×ae))(i:Nat):ae:=match look l i with | some v=>v | none=>.one .any
def ad4(l:List (Nat×ae)):List Nat→ae
 |[i]=>OZ l i
 |is=>.JT (is.map fun i=>M5 (OZ l i))
def Ut(L:pW)(st:St):Bool:=
 L.cf.all fun p=>(List.range p.2).all fun j=>yG p.1 j L.cs ||(match (st.dM p.1).bind (·[j]?) with | some .ur=>false | _=>true)
def PI(pin:List Nat)(b:AL)(st:St):Bool:=b.all fun e=>match e.2.1 with | some a=>(look st.fN a).isNone && (eV e.1 pin || !eV a st.pin) | none=>true
def C9(dst:Nat)(L:pW)(told:kN)(o:PV told)(news:List (Nat×Nat×Nat))(st:St):Bool:=
 nR (told.map fun p=>p.1.key) && (rq dst L.pin told o).all (fun p=>(st.arr p.1).isNone && !st.cZ true p.1) &&
  news.all (fun p=>(st.dM p.2.2).isNone && !st.cZ false p.2.2 && !Gi p.1 L.cf) && nR (news.map (·.1)) && nR (news.map (·.2.2)) &&
  told.all (fun p=>match p.1 with | .r _=>true | .q _ _=>true | .l q _=>!aaS p.1.key L.cs && (Gi q L.cf || eV q (news.map (·.1)))) &&
  told.all (fun p=>match p.2 with | .lit (.mW q _)=>Gi q L.cf || eV q (news.map (·.1)) | _=>true)
where
 aaS (k:Nat) (cs:kN):Bool:=eV k (cs.map fun p=>p.1.key)
abbrev DkO(W:Type):Type 1:=(R:Type)→W→((told:kN)→PV told→List (Nat×Nat×Nat)→List Nat→Option R)→(TypeId→List ag→Option R)→Option R
def abq{W:Type}(dk:DkO W):Prop:=∀ x,(∃ told o news res,∀(R:Type) (f:(told:kN)→PV told→List (Nat×Nat×Nat)→List Nat→Option R) g,dk R x f g=f told o news res)∨
 ∃ T ls,∀(R:Type) (f:(told:kN)→PV told→List (Nat×Nat×Nat)→List Nat→Option R) g,dk R x f g=g T ls
def mI(L:pW){W:Type}(F:PV L.cs→PV L.vs→Option W)(dk:DkO W):iX where
 run dst args st K KP:=(match Xd L args st with
  |none=>none
  |some e=>(bif Ut L e.st && PI L.pin e.b e.st then
    (F e.c e.v).bind fun x=>dk _ x (fun told o news res=>bif C9 dst L told o news e.st then K (ad4 (Rj dst L.pin news told o) res) (GW dst L told o news e.a e.b e.st) else none)
     (fun T ls=>KP (.zC T ls) (GW dst L [] () [] e.a e.b e.st))
   else none))
 Kh args st:=(L.cf.flatMap fun p=>((List.range p.2).filter fun j=>!yG p.1 j L.cs).map fun j=>pM.o p.1 j 1) ++
  ((L.cf.flatMap fun p=>match st.dM p.1 with | some ls=>fL (st.jT p.1 0 ls) | none=>[]) ++ mZ args)
theorem SP(L:pW){W:Type}(F:PV L.cs→PV L.vs→Option W)(dk:DkO W)(hdk:abq dk):oT (mI L F dk):=by
 intro R dst args st K KP;simp only [mI];split
 ·rfl
 ·refine db (fJ fun x=>?_) rfl
  rcases hdk x with ⟨told,o,news,res,h⟩ |⟨T,ls,h⟩
  ·rw [h,h];exact db rfl rfl
  ·rw [h,h];rfl
end Go.Fx
namespace Go.Fx
structure yK(st s:St):Prop where
 ix:ke st s
 ez:s.ez=st.ez
 cf:s.cf=st.cf
 DS:s.DS=st.DS
theorem yK.refl(st:St):yK st st:=⟨.refl _,rfl,rfl,rfl⟩
theorem yK.trans{a b c:St}(h:yK a b)(k:yK b c):yK a c:=⟨h.ix.trans k.ix,k.ez.trans h.ez,k.cf.trans h.cf,k.DS.trans h.DS⟩
theorem yK.at{st s:St}(h:yK st s)(p:Pl):s.at p=st.at p:=by
 have hr:∀ i,s.ii i=st.ii i:=fun i=>by simp only [St.ii,h.ez,h.ix.2.1]
 have ho:∀ o,s.dM o=st.dM o:=fun o=>by simp only [St.dM,h.cf]
 have Ap:∀ o j l,s.res o j l=st.res o j l:=fun o j l=>by cases l<;>simp [St.res,h.ix.2.2.1]
 cases p with
 |r i=>simp only [St.at,St.t6,hr]
 |q i j=>simp only [St.at,St.t6,hr]
 |l o j=>simp only [St.at,ho,Ap]
theorem Ic{st s:St}{l:ag}(h:st.yu l=some s):yK st s:=by
 unfold St.yu at h;split at h
 ·split at h
  ·rename_i A _
   cases hs:A.sh with
   |true=>simp only [hs,cond_true,Option.some.injEq] at h;subst h;exact .refl _
   |false=>
    cases hw:A.pe with
    |false=>simp [hs,hw] at h
    |true=>simp only [hs,hw,cond_false,cond_true,Option.some.injEq] at h;subst h;exact⟨⟨rfl,rfl,rfl,rfl⟩,rfl,rfl,rfl⟩
  ·split at h
   ·rename_i A _
    cases hs:A.sh<;>simp [hs] at h;subst h;exact .refl _
   ·cases h
 ·cases h;exact .refl _
theorem By:∀{ls:List ag} {st s:St},st.uH ls=some s→yK st s
 |[],st,s,h=>by cases h;exact .refl _
 |l :: r,st,s,h=>by
  simp only [St.uH] at h;split at h
  ·rename_i q hq;exact(Ic hq).trans (By h)
  ·cases h
theorem Id{st s:St}{v:ae}(h:v.qp st=some s):yK st s:=by
 unfold ae.qp at h;split at h
 ·exact Ic h
 ·exact By h
 ·cases h
 ·exact By h
theorem qo:∀{ps:kN} {st s:St},iG ps st=some s→yK st s
 |[],st,s,h=>by simp only [iG,Option.some.injEq] at h;subst h;exact .refl _
 |(p,sp) :: r,st,s,h=>by
  cases sp with
  |d t=>
   simp only [iG] at h;split at h
   ·rename_i q hq;exact(Id hq).trans (qo h)
   ·cases h
  |_=>exact qo (ps:=r) h
theorem wM{W:List pM}:∀{ps:kN} {st s:St},iG ps st=some s→(∀ p∈ps,∀ q∈(st.at p.1).tg,q∈W)→qC W st s
 |[],st,s,h,_=>by simp only [iG,Option.some.injEq] at h;subst h;exact .refl _ _
 |(p,sp) :: r,st,s,h,hW=>by
  have tail:∀{s1:St},yK st s1→∀ p∈r,∀ q∈(s1.at p.1).tg,q∈W:=fun ha p hp q hq=>hW p (List.mem_cons_of_mem _ hp) q (by rw [←ha.at];exact hq)
  cases sp with
  |d t=>
   simp only [iG] at h;split at h
   ·rename_i s1 h1
    exact((uI h1).mono fun q hq=>hW _ (List.mem_cons_self ..) q hq).trans (wM h (tail (Id h1)))
   ·cases h
  |_=>exact wM (ps:=r) h (tail (.refl st))
theorem Gr{s:St}{p:Pl}{sp:mq}{x:sp.V}{b:AL}(h:zf s p sp=some (x,b)):∀ nm jM A,(nm,jM,A)∈b→nm=p.key∧sp.arr x=some A∧(match jM with | some a=>s.at p = .one (.mu a) | none=>s.at p = .one .nil):=by
 cases sp with
 |any=>simp only [zf,Option.some.injEq,Prod.mk.injEq] at h;obtain⟨_,rfl⟩:=h;intro _ _ _ hm;cases hm
 |d t=>
  simp only [zf] at h;split at h
  ·simp only [Option.some.injEq,Prod.mk.injEq] at h;obtain⟨_,rfl⟩:=h;intro _ _ _ hm;cases hm
  ·cases h
 |lit l=>
  simp only [zf] at h;split at h
  ·rename_i l' _
   cases he:vA l l'<;>simp [he] at h;subst h;intro _ _ _ hm;cases hm
  ·cases h
 |h m t=>
  simp only [zf] at h;split at h
  ·rename_i uw
   cases hw:m.Qz with
   |false=>simp [hw] at h
   |true=>simp only [hw,cond_true,Option.some.injEq,Prod.mk.injEq] at h;obtain⟨rfl,rfl⟩:=h;intro nm jM A hm;simp only [List.mem_singleton,Prod.mk.injEq] at hm;obtain⟨rfl,rfl,rfl⟩:=hm;exact⟨rfl,rfl,uw⟩
  ·rename_i a uw
   split at h
   ·rename_i A hA
    cases hs:(A.sh || !m.lc A.md) with
    |true=>simp [hs] at h
    |false=>
     simp only [hs,cond_false] at h;split at h
     ·simp only [Option.some.injEq,Prod.mk.injEq] at h
      obtain⟨rfl,rfl⟩:=h;intro nm jM B hm;simp only [List.mem_singleton,Prod.mk.injEq] at hm;obtain⟨rfl,rfl,rfl⟩:=hm;exact⟨rfl,rfl,uw⟩
     ·cases h
   ·cases h
  ·cases h
theorem DE{s:St}:∀{ps:kN} {v:PV ps} {b:AL},kX s ps=some (v,b)→∀ nm jM A,(nm,jM,A)∈b→∃ p∈ps,nm=p.1.key∧(∃ m t,p.2 = .h m t)∧(match jM with | some a=>s.at p.1 = .one (.mu a) | none=>s.at p.1 = .one .nil)
 |[],v,b,h,nm,jM,A,hm=>by simp only [kX,Option.some.injEq,Prod.mk.injEq] at h;obtain⟨_,rfl⟩:=h;cases hm
 |(p,sp) :: r,v,b,h,nm,jM,A,hm=>by
  simp only [kX] at h;split at h
  ·rename_i x a1 h1
   split at h
   ·rename_i xs b1 h2
    simp only [Option.some.injEq,Prod.mk.injEq] at h;obtain⟨_,rfl⟩:=h;rcases List.mem_append.1 hm with hm | hm
    ·obtain⟨e1,e2,e3⟩:=Gr h1 nm jM A hm
     exact⟨(p,sp),List.mem_cons_self ..,e1,(z8 e2).2,e3⟩
    ·obtain⟨q,hq,e⟩:=DE h2 nm jM A hm
     exact⟨q,List.mem_cons_of_mem _ hq,e⟩
   ·cases h
  ·cases h
theorem tB{α β:Type}{f:Nat×α→β}:∀{l:List (Nat×α)} {o:Nat} {x:α},(l.map (·.1)).Nodup→(o,x)∈l→look (l.map fun p=>(p.1,f p)) o=some (f (o,x))
 |p :: r,o,x,hn,h=>by
  simp only [List.map_cons,aw];rw [List.map_cons,List.nodup_cons] at hn;by_cases e:p.1=o
  ·rcases List.mem_cons.1 h with h | h
   ·rw [if_pos e,←h]
   ·exact absurd (List.mem_map_of_mem (f:=(·.1)) h) (by rw [←e];exact hn.1)
  ·rw [if_neg e]
   rcases List.mem_cons.1 h with h | h
   ·exact absurd (by rw [←h]) e
   ·exact tB hn.2 h
theorem Je{α:Type}:∀{l:List (Nat×α)} {o:Nat},o∉l.map (·.1)→look l o=none
 |[],o,_=>rfl
 |(k,v) :: r,o,h=>by rw [aw];simp only [List.map_cons,List.mem_cons,not_or] at h;rw [if_neg (fun e=>h.1 e.symm)];exact Je h.2
theorem Dr:∀{b:List Nat} {l:List (Nat×jF)} {a:Nat},look (kT b l) a=if a∈b then none else look l a
 |[],l,a=>by simp [kT]
 |x :: r,l,a=>by
  simp only [kT,Dr (b:=r),qf,List.mem_cons];by_cases h1:a∈r
  ·simp [h1]
  ·by_cases h2:a=x
   ·subst h2;simp [h1]
   ·simp [h1,h2,eq_comm (a:=x)]
theorem zE{tl:List (Nat×Nat×ag)}{cs:kN}{o:Nat}:∀{ls:List ag} {j:Nat},(vS tl cs o j ls).length=ls.length
 |[],j=>rfl
 |l :: r,j=>by simp [vS,zE (ls:=r)]
theorem Br{tl:List (Nat×Nat×ag)}{cs:kN}{o:Nat}:∀{ls:List ag} {i j:Nat},(vS tl cs o i ls)[j]? = (ls[j]?).map fun l=>(match dY tl o (i + j) with | some x=>x | none=>bif yG o (i + j) cs then l else .any)
 |[],i,j=>by simp [vS]
 |l :: r,i,0=>by simp [vS]<;>rfl
 |l :: r,i,j + 1=>by simp only [vS,List.getElem?_cons_succ];rw [Br (ls:=r),show i + 1 + j=i + (j + 1) by omega]
theorem Dv{tl:List (Nat×Nat×ag)}{k:Nat}:∀{n j:Nat},(Ky tl k j n).length=n
 |0,j=>rfl
 |n + 1,j=>by simp [Ky,Dv (n:=n)]
theorem Sc{tl:List (Nat×Nat×ag)}{k:Nat}:∀{n i j:Nat},j < n→(Ky tl k i n)[j]? = some (match dY tl k (i + j) with | some x=>x | none=>.any)
 |n + 1,i,0,_=>by simp [Ky]<;>rfl
 |n + 1,i,j + 1,h=>by simp only [Ky,List.getElem?_cons_succ];rw [Sc (n:=n) (by omega),show i + 1 + j=i + (j + 1) by omega]
theorem De{o j:Nat}:∀{ps:kN},yG o j ps=true↔∃ s,(Pl.l o j,s)∈ps
 |[]=>by simp [yG]
 |(.r i,s) :: r=>by simp only [yG,De (ps:=r),List.mem_cons,Prod.mk.injEq,reduceCtorEq,false_and,false_or]
 |(.q i k,s) :: r=>by simp only [yG,De (ps:=r),List.mem_cons,Prod.mk.injEq,reduceCtorEq,false_and,false_or]
 |(.l o' j',s) :: r=>by
  simp only [yG,Bool.or_eq_true,Bool.and_eq_true,De (ps:=r),List.mem_cons,Prod.mk.injEq,Pl.l.injEq];constructor
  ·rintro(⟨h1,h2⟩ |⟨x,h⟩)
   ·exact⟨s,.inl ⟨⟨(Nat.eq_of_beq_eq_true h1).symm,(Nat.eq_of_beq_eq_true h2).symm⟩,rfl⟩⟩
   ·exact⟨x,.inr h⟩
  ·rintro⟨x,⟨⟨rfl,rfl⟩,_⟩ | h⟩
   ·exact .inl ⟨by simp,by simp⟩
   ·exact .inr ⟨x,h⟩
theorem vw{dst:Nat}{pin:List Nat}{news:List (Nat×Nat×Nat)}:∀{ps:kN} {v:PV ps} {o j:Nat} {lf:ag},dY (jg dst pin news ps v) o j=some lf→∃ s,(Pl.l o j,s)∈ps
 |[],v,o,j,lf,h=>by cases h
 |(.r i,s) :: r,v,o,j,lf,h=>by obtain⟨x,hx⟩:=vw (ps:=r) (v:=v.2) h;exact⟨x,List.mem_cons_of_mem _ hx⟩
 |(.q i k,s) :: r,v,o,j,lf,h=>by obtain⟨x,hx⟩:=vw (ps:=r) (v:=v.2) h;exact⟨x,List.mem_cons_of_mem _ hx⟩
 |(.l o' j',s) :: r,v,o,j,lf,h=>by
  simp only [jg,dY] at h;cases hb:(Nat.beq o' o && Nat.beq j' j) with
  |true=>simp only [Bool.and_eq_true] at hb;rw [Nat.eq_of_beq_eq_true hb.1,Nat.eq_of_beq_eq_true hb.2];exact⟨s,List.mem_cons_self ..⟩
  |false=>simp only [hb,cond_false] at h;obtain⟨x,hx⟩:=vw (ps:=r) (v:=v.2) h;exact⟨x,List.mem_cons_of_mem _ hx⟩
theorem CV:∀{l:List ae} {i k:Nat} {v:ae},look (oV i l) k=some v→v∈l
 |x :: r,i,k,v,h=>by
  simp only [oV,aw] at h;by_cases e:i=k
  ·simp only [e,if_true,Option.some.injEq] at h;subst h;exact List.mem_cons_self ..
  ·simp only [e,if_false] at h;exact List.mem_cons_of_mem _ (CV h)
theorem I0{q:pM}{v:ae}:∀{l:List ae},v∈l→q∈v.tg→q∈mZ l
 |x :: r,h,hq=>by
  rcases List.mem_cons.1 h with rfl | h
  ·exact List.mem_append_left _ hq
  ·exact List.mem_append_right _ (I0 h hq)
end Go.Fx
namespace Go.Fx
section
variable {L:pW} {args:List ae} {st:St} {e:Zm L}
structure DT(L:pW)(args:List ae)(st:St)(e:Zm L)(s1 s:St):Prop where
 sc:iG L.cs (B0 L.n args st)=some s1
 sv:iG L.vs s1=some s
 rc:kX s L.cs=some (e.c,e.a)
 rv:kX s L.vs=some (e.v,e.b)
 al:zt (e.a ++ e.b)=true
 ob:yl L.cf s=true
 NF:yj L=true
 len:args.length≤L.n
 q:qOk L.vs s=true
 pin:YE L.pin e.b=true
 st':e.st = {st with cK:=s.cK}
 yR:yK (B0 L.n args st) s
theorem UC(h:Xd L args st=some e):∃ s1 s,DT L args st e s1 s:=by
 unfold Xd at h;split at h
 ·cases h
 ·rename_i s1 h1
  split at h
  ·cases h
  ·rename_i s h2
   split at h
   ·cases h
   ·rename_i c a h3
    split at h
    ·cases h
    ·rename_i v b h4
     cases hb:(zt (a ++ b) && yl L.cf s && yj L && Nat.ble args.length L.n && qOk L.vs s && YE L.pin b) with
     |false=>simp [hb] at h
     |true=>simp only [hb,cond_true,Option.some.injEq] at h;subst h;simp only [Bool.and_eq_true] at hb;exact⟨s1,s,h1,h2,h3,h4,hb.1.1.1.1.1,hb.1.1.1.1.2,hb.1.1.1.2,Nat.le_of_ble_eq_true hb.1.1.2,hb.1.2,hb.2,rfl,(qo h1).trans (qo h2)⟩
theorem UU(h:yj L=true){p:Pl×mq}(hp:p∈L.cs ++ L.vs){o j:Nat}(ho:p.1 = .l o j):o∈L.cf.map (·.1):=by simp only [yj,Bool.and_eq_true,List.all_eq_true] at h;have:=h.1.2 p hp;rw [ho] at this;exact gI.1 this
theorem Qd(h:yj L=true){p:Nat×Nat}(hp:p∈L.cf):p.1 < 10000:=by simp only [yj,Bool.and_eq_true,List.all_eq_true] at h;have:=h.1.1.1.1 p hp;simpa [Nat.blt_eq] using this
theorem I9(h:yj L=true):(L.cf.map (·.1)).Nodup:=by simp only [yj,Bool.and_eq_true] at h;exact eD h.1.1.1.2
theorem adV(h:yj L=true):((L.cs ++ L.vs).map fun p=>p.1.key).Nodup:=by simp only [yj,Bool.and_eq_true] at h;exact eD h.1.1.2
theorem oC{cf:List (Nat×Nat)}{s:St}(h:yl cf s=true){p:Nat×Nat}(hp:p∈cf):∃ ls,s.dM p.1=some ls∧ls.length=p.2:=by
 have:=List.all_eq_true.1 h p hp;split at this
 ·rename_i ls hl;exact⟨ls,hl,Nat.eq_of_beq_eq_true this⟩
 ·cases this
theorem YW{st:St}{o:Nat}:∀{ls:List ag} {i j:Nat} {l:ag},ls[j]? = some l→st.res o (i + j) l∈st.jT o i ls:=fun {ls i j l} h=>by refine List.mem_of_getElem? (i:=j) ?_;rw [rH,h];rfl
theorem L3{q:pM}{l:ag}:∀{R:List ag},l∈R→q∈fL [l]→q∈fL R
 |x :: r,hl,hq=>by
  rcases List.mem_cons.1 hl with rfl | hl
  ·cases l<;>simp only [fL,List.not_mem_nil] at hq<;>simp only [List.mem_singleton] at hq<;>subst hq<;>exact List.mem_cons_self ..
  ·have:=L3 hl hq
   cases x<;>simp only [fL]<;>first | exact this | exact List.mem_cons_of_mem _ this
theorem KM{W:Type}{F:PV L.cs→PV L.vs→Option W}{dk:DkO W}(hl:yj L=true){p:Pl×mq}(hp:p∈L.cs ++ L.vs){q:pM}(hq:q∈((B0 L.n args st).at p.1).tg):q∈(mI L F dk).Kh args st:=by
 obtain⟨pl,sp⟩:=p;simp only [mI];refine List.mem_append_right _ ?_;cases pl with
 |r i=>
  refine List.mem_append_right _ ?_;simp only [St.at,St.t6,St.ii,B0] at hq;cases hr:look (oV 0 args) i with
  |none=>rw [hr] at hq;simp [look,ae.tg,fL] at hq
  |some v=>rw [hr] at hq;exact I0 (CV hr) hq
 |q i j=>
  refine List.mem_append_right _ ?_;simp only [St.at,St.t6,St.ii,B0] at hq;cases hr:look (oV 0 args) i with
  |none=>rw [hr] at hq;simp [look,ae.qls,ae.isAgg,ae.tg,fL] at hq
  |some v=>
   rw [hr] at hq;simp only at hq;cases hv:v.qls with
   |none=>rw [hv] at hq;simp [ae.tg,fL] at hq
   |some ls=>
    rw [hv] at hq;simp only at hq;cases hj:ls[j]? with
    |none=>rw [hj] at hq;simp [ae.tg,fL] at hq
    |some l=>
     rw [hj] at hq;refine I0 (CV hr) ?_;have hql:q∈fL ls:=by have:q∈fL [l]:=hq;have hm:=List.mem_of_getElem? hj;exact L3 hm this
     unfold ae.qls at hv;cases hi:v.isAgg with
     |false=>rw [hi] at hv;cases hv
     |true=>rw [hi,cond_true] at hv;exact Df hv q hql
 |l o j=>
  refine List.mem_append_left _ ?_;have ho:=UU hl hp rfl;obtain⟨⟨o',n⟩,gX,rfl⟩:=List.mem_map.1 ho;refine List.mem_flatMap.2 ⟨(o',n),gX,?_⟩;simp only [St.at,St.dM,B0] at hq;have Hy:look st.cf o' = st.dM o':=rfl;simp only at hq ⊢;rw [Hy] at hq;cases wC:st.dM o' with
  |none=>rw [wC] at hq;simp [ae.tg,fL] at hq
  |some ls=>
   rw [wC] at hq;simp only at hq ⊢;cases hj:ls[j]? with
   |none=>rw [hj] at hq;simp [ae.tg,fL] at hq
   |some l=>
    rw [hj] at hq;have Ap:(B0 L.n args st).res o' j l=st.res o' j l:=by cases l<;>rfl
    have hm:=YW (st:=st) (o:=o') (i:=0) hj;rw [Nat.zero_add] at hm;generalize st.jT o' 0 ls=R at hm;have hq:q∈fL [st.res o' j l]:=by have:q∈(ae.one ((B0 L.n args st).res o' j l)).tg:=hq;rw [Ap] at this;exact this
    exact L3 hm hq
theorem acn{news:List (Nat×Nat×Nat)}{o:Nat}(h:o∉news.map (·.1)):HQ news o=none:=by
 induction news with
 |nil=>rfl
 |cons p r ih=>simp only [List.map_cons,List.mem_cons,not_or] at h;simp only [HQ,uC (Ne.symm h.1),cond_false];exact ih h.2
theorem Da{dst:Nat}{told:kN}{o:PV told}{news:List (Nat×Nat×Nat)}{s:St}(h:C9 dst L told o news s=true):
  (told.map fun p=>p.1.key).Nodup∧(∀ p∈rq dst L.pin told o,s.arr p.1=none∧s.cZ true p.1=false)∧(∀ p∈news,s.dM p.2.2=none∧s.cZ false p.2.2=false∧p.1∉L.cf.map (·.1))∧
   (news.map (·.1)).Nodup∧(news.map (·.2.2)).Nodup∧(∀ p∈told,∀ q j,p.1 = .l q j→(∀ c∈L.cs,c.1.key≠p.1.key)∧(q∈L.cf.map (·.1)∨q∈news.map (·.1)))∧
   (∀ p∈told,∀ q off,p.2 = .lit (.mW q off)→q∈L.cf.map (·.1)∨q∈news.map (·.1)):=by
 simp only [C9,Bool.and_eq_true,List.all_eq_true] at h;obtain⟨⟨⟨⟨⟨⟨h1,h2⟩,h3⟩,h4⟩,h5⟩,h6⟩,h7⟩:=h;refine⟨eD h1,fun p hp=>?_,fun p hp=>?_,eD h4,eD h5,fun p hp q j e=>?_,fun p hp q off e=>?_⟩
 ·have:=h2 p hp;simpa using this
 ·have:=h3 p hp
  simp only [Bool.not_eq_true',Gi] at this;refine⟨by simpa using this.1.1,this.1.2,fun hm=>?_⟩
  rw [gI.2 hm] at this;cases this.2
 ·have:=h6 p hp
  rw [e] at this;simp only [Bool.and_eq_true,Bool.not_eq_true',Bool.or_eq_true,C9.aaS,Gi] at this;refine⟨fun c hc e2=>?_,this.2.imp gI.1 gI.1⟩;have hm:eV p.1.key (L.cs.map fun p=>p.1.key)=true:=gI.2 (by rw [←e2];exact List.mem_map_of_mem hc)
  rw [e] at hm;rw [hm] at this;cases this.1
 ·have:=h7 p hp
  rw [e] at this;simp only [Bool.or_eq_true,Gi] at this;exact this.imp gI.1 gI.1
theorem Up{dst:Nat}{told:kN}{o:PV told}{news:List (Nat×Nat×Nat)}{a b:AL}{s:St}(hn:(L.cf.map (·.1)).Nodup)(NA:yl L.cf s=true)(hf:∀ p∈news,s.dM p.2.2=none)(hnn:(news.map (·.2.2)).Nodup)(q:Nat):
  (∃ k n,(k,n,q)∈news∧(GW dst L told o news a b s).dM q=some (Ky (jg dst L.pin news told o) k 0 n))∨
  (q∉news.map (·.2.2)∧((∃ n ls,(q,n)∈L.cf∧s.dM q=some ls∧(GW dst L told o news a b s).dM q=some (vS (jg dst L.pin news told o) L.cs q 0 ls))∨
   (q∉L.cf.map (·.1)∧(GW dst L told o news a b s).dM q=s.dM q))):=by
 have e1:(GW dst L told o news a b s).dM q=look ((news.map fun p=>(p.2.2,Ky (jg dst L.pin news told o) p.1 0 p.2.1)) ++ ((L.cf.map fun p=>(p.1,vS (jg dst L.pin news told o) L.cs p.1 0 ((s.dM p.1).getD []))) ++ s.cf)) q:=rfl;rw [e1,io,io];by_cases h:q∈news.map (·.2.2)
 ·obtain⟨⟨k,n,q'⟩,hm,rfl⟩:=List.mem_map.1 h
  refine .inl ⟨k,n,hm,?_⟩;have key:∀{Sd:List (Nat×Nat×Nat)} {k n q:Nat},(Sd.map (·.2.2)).Nodup→(k,n,q)∈Sd→look (Sd.map fun p=>(p.2.2,Ky (jg dst L.pin news told o) p.1 0 p.2.1)) q=some (Ky (jg dst L.pin news told o) k 0 n):=by
   intro Sd;induction Sd with
   |nil=>intro k n q _ h;cases h
   |cons p r ih=>
    intro k n q hn h;rw [List.map_cons,List.nodup_cons] at hn;simp only [List.map_cons,aw];rcases List.mem_cons.1 h with rfl | h
    ·simp
    ·rw [if_neg (fun e=>hn.1 (by rw [e];exact List.mem_map_of_mem (f:=(·.2.2)) h)),ih hn.2 h]
  rw [key hnn hm]
 ·have h0:look (news.map fun p=>(p.2.2,Ky (jg dst L.pin news told o) p.1 0 p.2.1)) q=none:=Je (by simpa [List.map_map] using h)
  rw [h0];refine .inr ⟨h,?_⟩;by_cases h2:q∈L.cf.map (·.1)
  ·obtain⟨⟨q',n⟩,hm,rfl⟩:=List.mem_map.1 h2
   obtain⟨ls,hl,_⟩:=oC NA hm;refine .inl ⟨n,ls,hm,hl,?_⟩;rw [tB (f:=fun p=>vS (jg dst L.pin news told o) L.cs p.1 0 ((s.dM p.1).getD [])) hn hm,hl];rfl
  ·have h3:look (L.cf.map fun p=>(p.1,vS (jg dst L.pin news told o) L.cs p.1 0 ((s.dM p.1).getD []))) q=none:=Je (by simpa [List.map_map,Function.comp_def] using h2)
   rw [h3];exact .inr ⟨h2,rfl⟩
theorem OJ(st:St)(q:Nat):∀(ks:List Nat),(match look (ks.map (fun k=>(k,st.dA k + 1)) ++ st.DS) q with | some v=>v | none=>0)=if q∈ks then st.dA q + 1 else st.dA q
 |[]=>rfl
 |k :: r=>by
  rw [List.map_cons,List.cons_append,aw];by_cases e:k=q
  ·subst e;simp
  ·rw [if_neg e,OJ st q r]
   have:(q∈k :: r)↔q∈r:=⟨fun h=>(List.mem_cons.1 h).resolve_left (fun h=>e h.symm),List.mem_cons_of_mem _⟩;simp only [this]
theorem Uq{dst:Nat}{told:kN}{o:PV told}{news:List (Nat×Nat×Nat)}{a b:AL}{s:St}(q:Nat):
 (GW dst L told o news a b s).dA q=if q∈Jr (a ++ C7 L.pin b) then s.dA q + 1 else s.dA q:=OJ s q _
theorem Aa{pin:List Nat}{b:AL}:∀{ps:kN} {v:PV ps} {a:Nat} {A:jF},look (oI pin b ps v) a=some A→∃ nm C,(nm,some a,C)∈b
 |[],v,a,A,h=>by cases h
 |(p,s) :: r,v,a,A,h=>by
  simp only [oI] at h;split at h
  ·cases hm:eV p.key pin with
   |false=>rw [hm,cond_false] at h;exact Aa (ps:=r) h
   |true=>
    rw [hm,cond_true] at h;split at h
    ·rename_i x C hl
     rw [aw] at h;by_cases e:x=a
     ·subst e;exact⟨_,_,dV hl⟩
     ·rw [if_neg e] at h;exact Aa (ps:=r) h
    ·exact Aa (ps:=r) h
  ·exact Aa (ps:=r) h
theorem O8(L:pW){W:Type}(F:PV L.cs→PV L.vs→Option W)(dk:DkO W)(hdk:abq dk):mR (mI L F dk):=by
 intro R dst args st K K' KP KP' hK hP;simp only [mI];cases he:Xd L args st with
 |none=>rfl
 |some e=>
  obtain⟨s1,s,E⟩:=UC he;simp only;refine uu (fun hc=>dT fun x=>?_) (fun _=>rfl);have UK:ke st e.st:=by rw [E.st'];exact⟨rfl,rfl,rfl,by have:=E.yR.ix.2.2.2;exact rfl⟩
  rcases hdk x with ⟨told,o,news,res,h⟩ |⟨T,ls,h⟩
  ·rw [h,h]
   refine uu (fun hf=>hK _ _ ?_) (fun _=>rfl);obtain⟨f1,f2,f3,f4,f5,f6,_⟩:=Da hf;have hW:∀ p∈L.cs ++ L.vs,∀ q∈((B0 L.n args st).at p.1).tg,q∈(mI L F dk).Kh args st:=fun p hp q hq=>KM E.NF hp hq;have u0:qC ((mI L F dk).Kh args st) (B0 L.n args st) s:=
    (wM E.sc fun p hp=>hW p (List.mem_append_left _ hp)).trans (wM E.sv fun p hp q hq=>hW p (List.mem_append_right _ hp) q (by rw [←(qo E.sc).at];exact hq))
   have LY:∀ a,e.st.arr a=s.arr a:=fun a=>by rw [E.st'];simp only [St.arr,(Prod.mk.inj E.yR.ix.2.2.2).1];rfl
   have Di:∀ q,e.st.dM q=st.dM q:=fun q=>by rw [E.st'];rfl
   have NA:yl L.cf e.st=true:=by
    have:∀ q,e.st.dM q=s.dM q:=fun q=>by rw [Di];simp only [St.dM,E.yR.cf];rfl
    have:=E.ob;unfold yl at this ⊢;rw [←this]
    congr 1
    funext p
    rw [show e.st.dM p.1=s.dM p.1 from ‹∀ q,e.st.dM q=s.dM q› p.1]
   refine⟨UK,?_,fun q ls hq _ _=>?_,fun a A hA hn fo=>?_,fun a hn _=>?_⟩
   ·show e.st.ez=st.ez;rw [E.st']
   ·rcases Up (dst:=dst) (told:=told) (o:=o) (news:=news) (a:=e.a) (b:=e.b) (I9 E.NF) NA (fun p hp=>(f3 p hp).1) f5 q with ⟨k,n,hm,_⟩ |⟨_,⟨n,wF,hm,hl,e2⟩ |⟨_,e2⟩⟩
    ·have:=(f3 _ hm).1
     rw [Di,hq] at this;cases this
    ·rw [Di,hq] at hl
     cases hl;refine⟨_,e2,zE,fun j hj=>?_⟩;rw [Br,Nat.zero_add];cases hlj:ls[j]? with
     |none=>rfl
     |some l=>
      have hjn:j < n:=by obtain⟨ls2,h1,h2⟩:=oC NA hm;rw [Di,hq] at h1;cases h1;have:=(List.getElem?_eq_some_iff.1 hlj).1;simp only at h2;omega
      have hc:yG q j L.cs=true:=by
       cases hh:yG q j L.cs with
       |true=>rfl
       |false=>exact absurd ⟨rfl,Nat.le_refl _,Nat.lt_succ_self _⟩ (hj (.o q j 1) (List.mem_append_left _ (List.mem_flatMap.2 ⟨(q,n),hm,List.mem_map.2 ⟨j,List.mem_filter.2 ⟨List.mem_range.2 hjn,by simp [hh]⟩,rfl⟩⟩)))
      have ht:dY (jg dst L.pin news told o) q j=none:=by
       cases hh:dY (jg dst L.pin news told o) q j with
       |none=>rfl
       |some x=>obtain⟨sp,hsp⟩:=vw hh;obtain⟨sc,hsc⟩:=De.1 hc;exact absurd (rfl:(Pl.l q j).key=(Pl.l q j).key) ((f6 (Pl.l q j,sp) hsp q j rfl).1 (Pl.l q j,sc) hsc)
      simp [ht,hc]
    ·exact⟨ls,by rw [e2,Di];exact hq,rfl,fun _ _=>rfl⟩
   ·have h1:e.st.arr a=some A:=by
     rw [LY];exact u0.arr a A hA hn fo
    have hns:a∉Jr e.b:=fun hs=>hn (by
     obtain⟨⟨nm,jM,B⟩,hm,RU⟩:=List.mem_filterMap.1 hs;simp only at RU;subst RU;obtain⟨p,hp,_,_,uw⟩:=DE E.rv nm _ B hm;exact KM E.NF (List.mem_append_right _ hp) (by rw [←E.yR.at,uw];simp [ae.tg,fL]))
    have hnb:look (oI L.pin e.b told o) a=none:=by
     cases hl:look (oI L.pin e.b told o) a with
     |none=>rfl
     |some B=>obtain⟨nm,C,hm⟩:=Aa hl;exact absurd (show a∈Jr e.b from List.mem_filterMap.2 ⟨_,hm,rfl⟩) hns
    have hnt:look (rq dst L.pin told o) a=none:=by
     cases hl:look (rq dst L.pin told o) a with
     |none=>rfl
     |some B=>have:=(f2 _ (dV hl)).1;rw [h1] at this;cases this
    have e1:(GW dst L told o news e.a e.b e.st).arr a=(match look (rq dst L.pin told o ++ (oI L.pin e.b told o ++ kT (Jr e.b) e.st.cK)) a with | some v=>some v | none=>look e.st.fN a):=rfl
    rw [e1,io,hnt,io,hnb,Dr,if_neg hns];exact h1
   ·rw [Uq,if_neg ?_]
    ·rw [E.st'];rfl
    ·intro hs
     obtain⟨⟨nm,jM,B⟩,hm,RU⟩:=List.mem_filterMap.1 hs;simp only at RU;subst RU;rcases List.mem_append.1 hm with hm | hm
     ·obtain⟨p,hp,_,_,uw⟩:=DE E.rc nm _ B hm
      exact hn (KM E.NF (List.mem_append_left _ hp) (by rw [←E.yR.at,uw];simp [ae.tg,fL]))
     ·obtain⟨p,hp,_,_,uw⟩:=DE E.rv nm _ B (List.mem_filter.1 hm).1
      exact hn (KM E.NF (List.mem_append_right _ hp) (by rw [←E.yR.at,uw];simp [ae.tg,fL]))
  ·rw [h,h]
   exact hP _ _ UK
end
end Go.Fx
namespace Go.Fx
theorem qg{pin:List Nat}{b:AL}{e:Nat×Option Nat×jF}:e∈vQ pin b↔e∈b∧eV e.1 pin=false:=by simp [vQ,List.mem_filter]
theorem wU{pin:List Nat}{b:AL}{e:Nat×Option Nat×jF}:e∈C7 pin b↔e∈b∧eV e.1 pin=true:=by simp [C7,List.mem_filter]
theorem Bu{pin:List Nat}{b:AL}(h:(b.map (·.1)).Nodup):((vQ pin b).map (·.1)).Nodup:=h.sublist (List.filter_sublist.map _)
def yz(dst:Nat)(b:AL)(nm:Nat):Option (Option Nat):=look (b.map fun e=>(nmO dst e.1,e.2.1)) nm
def Dl(a:AL)(nm:Nat):Option Nat:=look (a.filterMap fun e=>e.2.1.map fun s=>(s,e.1)) nm
def Cg(news:List (Nat×Nat×Nat))(q:Nat):Option Nat:=look (news.map fun p=>(p.2.2,p.1)) q
theorem Z3{dst k k':Nat}(h:nmO dst k=nmO dst k'):k=k':=by unfold nmO at h;omega
theorem uL{dst:Nat}:∀{b:AL} {nm:Nat} {jM:Option Nat},yz dst b nm=some jM→∃ k A,nm=nmO dst k∧(k,jM,A)∈b
 |(k,s,A) :: r,nm,jM,h=>by
  simp only [yz,List.map_cons,aw] at h;by_cases e:nmO dst k=nm
  ·simp only [e,if_true,Option.some.injEq] at h
   exact⟨k,A,e.symm,by rw [h];exact List.mem_cons_self ..⟩
  ·simp only [e,if_false] at h
   obtain⟨k',A',h1,h2⟩:=uL (b:=r) h;exact⟨k',A',h1,List.mem_cons_of_mem _ h2⟩
theorem DR{dst:Nat}:∀{b:AL} {k:Nat} {jM:Option Nat} {A:jF},(b.map (·.1)).Nodup→(k,jM,A)∈b→yz dst b (nmO dst k)=some jM
 |(k',s,B) :: r,k,jM,A,hn,h=>by
  simp only [yz,List.map_cons,aw];rw [List.map_cons,List.nodup_cons] at hn;rcases List.mem_cons.1 h with h | h
  ·cases h;simp
  ·have gY:k'≠k:=fun e=>hn.1 (by rw [e];exact List.mem_map_of_mem (f:=(·.1)) h)
   rw [if_neg (fun e=>gY (Z3 e))];exact DR (b:=r) hn.2 h
theorem qH:∀{a:AL} {nm k:Nat},Dl a nm=some k→∃ A,(k,some nm,A)∈a
 |(k',s,A) :: r,nm,k,h=>by
  cases s with
  |none=>
   obtain⟨B,hB⟩:=qH (a:=r) (nm:=nm) (k:=k) (by simpa [Dl] using h)
   exact⟨B,List.mem_cons_of_mem _ hB⟩
  |some x=>
   simp only [Dl,List.filterMap_cons,Option.map_some,aw] at h;by_cases e:x=nm
   ·simp only [e,if_true,Option.some.injEq] at h
    exact⟨A,by rw [←h,e];exact List.mem_cons_self ..⟩
   ·simp only [e,if_false] at h
    obtain⟨B,hB⟩:=qH (a:=r) (nm:=nm) (k:=k) h;exact⟨B,List.mem_cons_of_mem _ hB⟩
theorem Gj{a:AL}{nm:Nat}(h:Dl a nm=none):∀ k A,(k,some nm,A)∉a:=by
 induction a with
 |nil=>intro k A hm;cases hm
 |cons p r ih=>
  obtain⟨k',s,B⟩:=p;intro k A hm;cases s with
  |none=>
   rcases List.mem_cons.1 hm with hm | hm
   ·cases hm
   ·exact ih (by simpa [Dl] using h) k A hm
  |some x=>
   simp only [Dl,List.filterMap_cons,Option.map_some,aw] at h;by_cases e:x=nm
   ·simp [e] at h
   ·simp only [e,if_false] at h
    rcases List.mem_cons.1 hm with hm | hm
    ·cases hm;exact e rfl
    ·exact ih h k A hm
theorem AI:∀{news:List (Nat×Nat×Nat)} {q k:Nat},Cg news q=some k→∃ n,(k,n,q)∈news
 |(k',n,q') :: r,q,k,h=>by
  simp only [Cg,List.map_cons,aw] at h;by_cases e:q' = q
  ·simp only [e,if_true,Option.some.injEq] at h
   exact⟨n,by rw [←h,e];exact List.mem_cons_self ..⟩
  ·simp only [e,if_false] at h
   obtain⟨m,hm⟩:=AI (news:=r) h;exact⟨m,List.mem_cons_of_mem _ hm⟩
theorem Mr:∀{news:List (Nat×Nat×Nat)} {q k n:Nat},(news.map (·.2.2)).Nodup→(k,n,q)∈news→Cg news q=some k
 |(k',n',q') :: r,q,k,n,hn,h=>by
  simp only [Cg,List.map_cons,aw];rw [List.map_cons,List.nodup_cons] at hn;rcases List.mem_cons.1 h with h | h
  ·cases h;simp
  ·rw [if_neg (fun e=>hn.1 (by rw [e];exact List.mem_map_of_mem (f:=(·.2.2)) h))]
   exact Mr (news:=r) hn.2 h
theorem OM:∀{news:List (Nat×Nat×Nat)} {o k:Nat},HQ news o=some k→∃ n,(o,n,k)∈news
 |p :: r,o,k,h=>by
  simp only [HQ] at h;cases hb:Nat.beq p.1 o with
  |true=>simp only [hb,cond_true,Option.some.injEq] at h;have e:=Nat.eq_of_beq_eq_true hb;exact⟨p.2.1,by rw [←e,←h];exact List.mem_cons_self ..⟩
  |false=>simp only [hb,cond_false] at h;obtain⟨n,hn⟩:=OM (news:=r) h;exact⟨n,List.mem_cons_of_mem _ hn⟩
theorem Uj{dst:Nat}{t s4:St}{b4:AL}{G G4:Gh}{lb:Nat→Option Nat}{news:List (Nat×Nat×Nat)}{p:Pl}{sp:mq}{x:sp.V}{bp:AL}(zL:zf s4 p sp=some (x,bp))(qb:∀ e∈bp,e∈b4)(hn:(b4.map (·.1)).Nodup)
  (hm:∃ X w',aB X s4 G4 w') (hφ:∀ q tl,t.dM q=some tl→G4.φ q=G.φ q∧G4.pre q=G.pre q) (hnn:(news.map (·.2.2)).Nodup) (hnt:∀ p∈news,t.dM p.2.2=none)
  (VZ:∀ q off,sp = .lit (.mW q off)→(∃ tl,t.dM q=some tl)∨q∈news.map (·.1)) {u:Value} (hu:aU G4 (s4.at p) u):aY (G.iE G4 (yz dst b4) lb (Cg news)) (YR news (sp.bM (nmO dst p.key) x)) u:=by
 obtain⟨X,w',hm⟩:=hm;have gX:=Gr zL;cases sp with
 |any=>trivial
 |d t'=>
  simp only [zf] at zL;split at zL
  ·rename_i y hy
   simp only [Option.some.injEq,Prod.mk.injEq] at zL;obtain⟨rfl,_⟩:=zL;obtain⟨cs,e,hr⟩:=CX hm hy hu;exact⟨cs,e,hr⟩
  ·cases zL
 |h m t'=>
  show u=(match yz dst b4 (nmO dst p.key) with | some (some k)=>G4.ψ k | some none=>.slice none 0 0 | none=>G.ψ (nmO dst p.key))
  simp only [zf] at zL;split at zL
  ·rename_i uw
   cases hw:m.Qz with
   |false=>simp [hw] at zL
   |true=>simp only [hw,cond_true,Option.some.injEq,Prod.mk.injEq] at zL;obtain⟨_,rfl⟩:=zL;rw [DR hn (qb _ (List.mem_singleton.2 rfl))];rw [uw] at hu;exact hu
  ·rename_i a uw
   split at zL
   ·rename_i A hA
    cases hs:(A.sh || !m.lc A.md) with
    |true=>simp [hs] at zL
    |false=>
     simp only [hs,cond_false] at zL;split at zL
     ·simp only [Option.some.injEq,Prod.mk.injEq] at zL
      obtain⟨_,rfl⟩:=zL;rw [DR hn (qb _ (List.mem_singleton.2 rfl))];rw [uw] at hu;exact hu
     ·cases zL
   ·cases zL
  ·cases zL
 |lit l=>
  simp only [zf] at zL;split at zL
  ·rename_i l' uw
   cases he:vA l l' with
   |false=>simp [he] at zL
   |true=>
    have e:=Ml he;rw [uw,←e] at hu;show aY _ (YR news l) u;cases l with
    |mW q off=>
     have hu:u = .pointer (some ⟨G4.φ q,(G4.pre q).length + off,none⟩):=hu;simp only [YR];cases hq:HQ news q with
     |some k=>obtain⟨n,hmm⟩:=OM hq;simp only [aY,Gh.iE,Mr hnn hmm];exact hu
     |none=>
      rcases VZ q off rfl with ⟨tl,htl⟩ | hnw
      ·have vN:Cg news q=none:=by
        cases hh:Cg news q with
        |none=>rfl
        |some k=>obtain⟨n,hmm⟩:=AI hh;have:=hnt _ hmm;rw [htl] at this;cases this
       obtain⟨e1,e2⟩:=hφ q tl htl;simp only [aY,Gh.iE,vN];rw [hu,e1,e2]
      ·obtain⟨⟨q',n,k⟩,hmm,rfl⟩:=List.mem_map.1 hnw
       have:∀{news:List (Nat×Nat×Nat)},(q',n,k)∈news→HQ news q'≠none:=by
        intro news;induction news with
        |nil=>intro h;cases h
        |cons p r ih=>
         intro h;simp only [HQ];cases hb:Nat.beq p.1 q' with
         |true=>simp
         |false=>
          simp only [cond_false];rcases List.mem_cons.1 h with h | h
          ·rw [←h] at hb;simp at hb
          ·exact ih h
       exact absurd hq (this hmm)
    |nil=>exact hu
    |Jg=>exact hu
    |uW=>exact hu
    |fn f=>exact hu
    |_=>simp [vA] at he
  ·cases zL
theorem El{dst:Nat}{pin:List Nat}{t s4:St}{b4:AL}{G G4:Gh}{lb:Nat→Option Nat}{news:List (Nat×Nat×Nat)}{p:Pl}{sp:mq}{x:sp.V}{bp:AL}(zL:zf s4 p sp=some (x,bp))(qb:∀ e∈bp,e∈b4)(hn:(b4.map (·.1)).Nodup)
  (hm:∃ X w',aB X s4 G4 w') (hφ:∀ q tl,t.dM q=some tl→G4.φ q=G.φ q∧G4.pre q=G.pre q) (hnn:(news.map (·.2.2)).Nodup) (hnt:∀ p∈news,t.dM p.2.2=none)
  (VZ:∀ q off,sp = .lit (.mW q off)→(∃ tl,t.dM q=some tl)∨q∈news.map (·.1)) {u:Value} (hu:aU G4 (s4.at p) u):aY (G.iE G4 (yz dst (vQ pin b4)) lb (Cg news)) (yy dst pin news p sp x) u:=by
 unfold yy;cases hp:eV p.key pin with
 |true=>trivial
 |false=>rw [cond_false];refine Uj zL (fun e he=>qg.2 ⟨qb e he,?_⟩) (Bu hn) hm hφ hnn hnt VZ hu;obtain⟨k,jM,A⟩:=e;have:=(Gr zL k jM A he).1;rw [this];exact hp
theorem Jn{s:St}{pin:List Nat}{ba:AL}:∀{ps:kN} {v:PV ps} {b:AL},kX s ps=some (v,b)→∀{dst:Nat} {news:List (Nat×Nat×Nat)},
  (∀{o j:Nat} {lf:ag},dY (jg dst pin news ps v) o j=some lf→∃ sp x bp,(Pl.l o j,sp)∈ps∧zf s (.l o j) sp=some (x,bp)∧(∀ e∈bp,e∈b)∧lf=yy dst pin news (.l o j) sp x)∧
  (∀{i:Nat} {av:ae},look (JM dst pin news ps v) i=some av→∃ sp x bp,(Pl.r i,sp)∈ps∧zf s (.r i) sp=some (x,bp)∧(∀ e∈bp,e∈b)∧av = .one (yy dst pin news (.r i) sp x))∧
  (∀{i j:Nat} {lf:ag},dY (T0 dst pin news ps v) i j=some lf→∃ sp x bp,(Pl.q i j,sp)∈ps∧zf s (.q i j) sp=some (x,bp)∧(∀ e∈bp,e∈b)∧lf=yy dst pin news (.q i j) sp x)∧
  (∀{nm:Nat} {A:jF},look (rq dst pin ps v) nm=some A→∃ p sp x bp,(p,sp)∈ps∧zf s p sp=some (x,bp)∧(∀ e∈bp,e∈b)∧nm=nmO dst p.key∧sp.arr x=some A∧eV p.key pin=false)∧
  (∀{k:Nat} {jM:Option Nat} {A:jF},(k,jM,A)∈b→eV k pin=false→∃ B,look (rq dst pin ps v) (nmO dst k)=some B)∧
  (∀{nm:Nat} {A:jF},look (oI pin ba ps v) nm=some A→∃ p sp x bp C,(p,sp)∈ps∧zf s p sp=some (x,bp)∧(∀ e∈bp,e∈b)∧look ba p.key=some (some nm,C)∧sp.arr x=some A∧eV p.key pin=true)∧
  (∀{k a:Nat} {jM:Option Nat} {A C:jF},(k,jM,A)∈b→eV k pin=true→look ba k=some (some a,C)→∃ B,look (oI pin ba ps v) a=some B)
 |[],v,b,h,dst,news=>by simp only [kX,Option.some.injEq,Prod.mk.injEq] at h;obtain⟨_,rfl⟩:=h;exact⟨(fun h=>(by cases h)),(fun h=>(by cases h)),(fun h=>(by cases h)),(fun h=>(by cases h)),(fun h=>(by cases h)),(fun h=>(by cases h)),(fun h=>(by cases h))⟩
 |(p,sp) :: r,v,b,h,dst,news=>by
  simp only [kX] at h;split at h
  ·rename_i x a1 h1
   split at h
   ·rename_i xs b1 h2
    simp only [Option.some.injEq,Prod.mk.injEq] at h;obtain⟨rfl,rfl⟩:=h;obtain⟨g1,g2,g5,g3,g4,g6,g7⟩:=Jn h2 (dst:=dst) (news:=news);have Y8:∀ e∈a1,e∈a1 ++ b1:=fun e he=>List.mem_append_left _ he;refine⟨fun {o j lf} hl=>?_,fun {i av} hl=>?_,fun {i j lf} hl=>?_,fun {nm A} hl=>?_,fun {k jM A} hm hp=>?_,fun {nm A} hl=>?_,fun {k a jM A C} hm hp hb=>?_⟩
    ·have tail:dY (jg dst pin news r xs) o j=some lf→(∃ sp0 x bp,(Pl.l o j,sp0)∈((p,sp) :: r)∧zf s (.l o j) sp0=some (x,bp)∧(∀ e∈bp,e∈a1 ++ b1)∧lf=yy dst pin news (.l o j) sp0 x):=fun hl=>by
      obtain⟨sp',x',bp,e1,e2,e3,e4⟩:=g1 hl;exact⟨sp',x',bp,List.mem_cons_of_mem _ e1,e2,fun e he=>List.mem_append_right _ (e3 e he),e4⟩
     cases p with
     |r i=>exact tail hl
     |q i k=>exact tail hl
     |l o' j'=>
      simp only [jg,dY] at hl;cases hb:(Nat.beq o' o && Nat.beq j' j) with
      |false=>simp only [hb,cond_false] at hl;exact tail hl
      |true=>simp only [hb,cond_true,Option.some.injEq] at hl;simp only [Bool.and_eq_true] at hb;obtain rfl:=Nat.eq_of_beq_eq_true hb.1;obtain rfl:=Nat.eq_of_beq_eq_true hb.2;exact⟨sp,x,a1,List.mem_cons_self ..,h1,Y8,hl.symm⟩
    ·have tail:look (JM dst pin news r xs) i=some av→(∃ sp0 x bp,(Pl.r i,sp0)∈((p,sp) :: r)∧zf s (.r i) sp0=some (x,bp)∧(∀ e∈bp,e∈a1 ++ b1)∧av = .one (yy dst pin news (.r i) sp0 x)):=fun hl=>by
      obtain⟨sp',x',bp,e1,e2,e3,e4⟩:=g2 hl;exact⟨sp',x',bp,List.mem_cons_of_mem _ e1,e2,fun e he=>List.mem_append_right _ (e3 e he),e4⟩
     cases p with
     |l o j=>exact tail hl
     |q i k=>exact tail hl
     |r i'=>
      simp only [JM,aw] at hl;by_cases e:i' = i
      ·subst e
       simp only [if_true,Option.some.injEq] at hl;exact⟨sp,x,a1,List.mem_cons_self ..,h1,Y8,hl.symm⟩
      ·simp only [e,if_false] at hl;exact tail hl
    ·have tail:dY (T0 dst pin news r xs) i j=some lf→(∃ sp0 x bp,(Pl.q i j,sp0)∈((p,sp) :: r)∧zf s (.q i j) sp0=some (x,bp)∧(∀ e∈bp,e∈a1 ++ b1)∧lf=yy dst pin news (.q i j) sp0 x):=fun hl=>by
      obtain⟨sp',x',bp,e1,e2,e3,e4⟩:=g5 hl;exact⟨sp',x',bp,List.mem_cons_of_mem _ e1,e2,fun e he=>List.mem_append_right _ (e3 e he),e4⟩
     cases p with
     |r i=>exact tail hl
     |l i k=>exact tail hl
     |q o' j'=>
      simp only [T0,dY] at hl;cases hb:(Nat.beq o' i && Nat.beq j' j) with
      |false=>simp only [hb,cond_false] at hl;exact tail hl
      |true=>simp only [hb,cond_true,Option.some.injEq] at hl;simp only [Bool.and_eq_true] at hb;obtain rfl:=Nat.eq_of_beq_eq_true hb.1;obtain rfl:=Nat.eq_of_beq_eq_true hb.2;exact⟨sp,x,a1,List.mem_cons_self ..,h1,Y8,hl.symm⟩
    ·have tail:look (rq dst pin r xs) nm=some A→(∃ p0 sp0 x bp,(p0,sp0)∈((p,sp) :: r)∧zf s p0 sp0=some (x,bp)∧(∀ e∈bp,e∈a1 ++ b1)∧nm=nmO dst p0.key∧sp0.arr x=some A∧eV p0.key pin=false):=fun hl=>by
      obtain⟨p',sp',x',bp,e1,e2,e3,e4,e5,e6⟩:=g3 hl;exact⟨p',sp',x',bp,List.mem_cons_of_mem _ e1,e2,fun e he=>List.mem_append_right _ (e3 e he),e4,e5,e6⟩
     simp only [rq] at hl;split at hl
     ·rename_i B hB
      cases hpk:eV p.key pin with
      |true=>rw [hpk,cond_true] at hl;exact tail hl
      |false=>
       rw [hpk,cond_false,aw] at hl;by_cases e:nmO dst p.key=nm
       ·simp only [e,if_true,Option.some.injEq] at hl
        subst hl;exact⟨p,sp,x,a1,List.mem_cons_self ..,h1,Y8,e.symm,hB,hpk⟩
       ·simp only [e,if_false] at hl;exact tail hl
     ·exact tail hl
    ·simp only [rq]
     rcases List.mem_append.1 hm with hm | hm
     ·obtain⟨e1,e2,_⟩:=Gr h1 k jM A hm
      subst e1;exact⟨A,by simp [e2,aw,hp]⟩
     ·obtain⟨B,hB⟩:=g4 hm hp
      split
      ·cases hpk:eV p.key pin with
       |true=>exact⟨B,hB⟩
       |false=>
        rw [cond_false,aw];by_cases e:nmO dst p.key=nmO dst k
        ·exact⟨_,by rw [if_pos e]⟩
        ·exact⟨B,by rw [if_neg e];exact hB⟩
      ·exact⟨B,hB⟩
    ·have tail:look (oI pin ba r xs) nm=some A→(∃ p0 sp0 x bp C,(p0,sp0)∈((p,sp) :: r)∧zf s p0 sp0=some (x,bp)∧(∀ e∈bp,e∈a1 ++ b1)∧look ba p0.key=some (some nm,C)∧sp0.arr x=some A∧eV p0.key pin=true):=fun hl=>by
      obtain⟨p',sp',x',bp,C,e1,e2,e3,e4,e5,e6⟩:=g6 hl;exact⟨p',sp',x',bp,C,List.mem_cons_of_mem _ e1,e2,fun e he=>List.mem_append_right _ (e3 e he),e4,e5,e6⟩
     simp only [oI] at hl;split at hl
     ·rename_i B hB
      cases hpk:eV p.key pin with
      |false=>rw [hpk,cond_false] at hl;exact tail hl
      |true=>
       rw [hpk,cond_true] at hl;split at hl
       ·rename_i y C hy
        rw [aw] at hl;by_cases e:y=nm
        ·subst e
         simp only [if_true,Option.some.injEq] at hl;subst hl;exact⟨p,sp,x,a1,C,List.mem_cons_self ..,h1,Y8,hy,hB,hpk⟩
        ·rw [if_neg e] at hl;exact tail hl
       ·exact tail hl
     ·exact tail hl
    ·simp only [oI]
     have tail:(∃ B,look (oI pin ba r xs) a=some B)→∃ B,look (match sp.arr x with
       |some A=>bif eV p.key pin then(match look ba p.key with | some (some a,_)=>(a,A) :: oI pin ba r xs | _=>oI pin ba r xs) else oI pin ba r xs
       |none=>oI pin ba r xs) a=some B:=fun⟨B,hB⟩=>by
      split
      ·cases eV p.key pin with
       |false=>exact⟨B,hB⟩
       |true=>
        rw [cond_true];split
        ·rw [aw]
         split
         ·exact⟨_,rfl⟩
         ·exact⟨B,hB⟩
        ·exact⟨B,hB⟩
      ·exact⟨B,hB⟩
     rcases List.mem_append.1 hm with hm | hm
     ·obtain⟨e1,e2,_⟩:=Gr h1 k jM A hm
      subst e1;exact⟨A,by simp [e2,hp,hb,aw]⟩
     ·exact tail (g7 hm hp hb)
   ·cases h
  ·cases h
end Go.Fx
namespace Go.Fx
theorem Mq:∀{cs:kN} {c:PV cs} {k:Nat} {jM:Option Nat} {A:jF},(k,jM,A)∈fV cs c→jM=some k∧∃ p∈cs,p.1.key=k∧∃ m t,p.2 = .h m t
 |(p,s) :: r,c,k,jM,A,h=>by
  simp only [fV] at h;split at h
  ·rename_i B hB
   rcases List.mem_cons.1 h with h | h
   ·cases h;exact⟨rfl,(p,s),List.mem_cons_self ..,rfl,(z8 hB).2⟩
   ·obtain⟨e,q,hq,e2⟩:=Mq (cs:=r) h
    exact⟨e,q,List.mem_cons_of_mem _ hq,e2⟩
  ·obtain⟨e,q,hq,e2⟩:=Mq (cs:=r) h
   exact⟨e,q,List.mem_cons_of_mem _ hq,e2⟩
theorem I6{s:St}:∀{cs:kN} {c:PV cs} {a:AL},kX s cs=some (c,a)→∀{k:Nat} {jM:Option Nat} {A:jF},(k,jM,A)∈a→(k,some k,A)∈fV cs c∧look (eH cs c) k≠none
 |[],c,a,h,k,jM,A,hm=>by simp only [kX,Option.some.injEq,Prod.mk.injEq] at h;obtain⟨_,rfl⟩:=h;cases hm
 |(p,sp) :: r,c,a,h,k,jM,A,hm=>by
  simp only [kX] at h;split at h
  ·rename_i x a1 h1
   split at h
   ·rename_i xs b1 h2
    simp only [Option.some.injEq,Prod.mk.injEq] at h;obtain⟨rfl,rfl⟩:=h;simp only [fV,eH];rcases List.mem_append.1 hm with hm | hm
    ·obtain⟨e1,e2,_⟩:=Gr h1 k jM A hm
     subst e1;simp only [e2];exact⟨List.mem_cons_self ..,by simp [aw]⟩
    ·obtain⟨g1,g2⟩:=I6 h2 hm
     split
     ·refine⟨List.mem_cons_of_mem _ g1,?_⟩
      rw [aw];split
      ·simp
      ·exact g2
     ·exact⟨g1,g2⟩
   ·cases h
  ·cases h
theorem YO{s:St}{p:Pl}{m:Md}{t:Ty}{x:List t.ng}{b:AL}(h:zf s p (.h m t)=some (x,b)):∀ i o,m≠.CD i o:=fun i o e=>by
 subst e;simp only [zf] at h;split at h
 ·simp [Md.Qz] at h
 ·split at h
  ·rename_i A _
   cases hs:A.sh<;>simp [hs,Md.lc] at h
  ·cases h
 ·cases h
theorem HM{cs:kN}{c:PV cs}{o j:Nat}(h:yG o j cs=true):∃ lf,dY (b8 cs c) o j=some lf:=by
 induction cs with
 |nil=>cases h
 |cons p r ih=>
  obtain⟨pl,sp⟩:=p;cases pl with
  |r i=>exact ih (c:=c.2) (by simpa [yG] using h)
  |q i k=>exact ih (c:=c.2) (by simpa [yG] using h)
  |l o' j'=>
   simp only [b8,dY];cases hb:(Nat.beq o' o && Nat.beq j' j) with
   |true=>exact⟨_,rfl⟩
   |false=>simp only [cond_false];exact ih (c:=c.2) (by simpa [yG,hb] using h)
section
variable {L:pW} {args:List ae} {st:St} {e:Zm L} {s1 s s4:St} {dst:Nat} {told:kN} {o:PV told} {news:List (Nat×Nat×Nat)} {b4:AL}
theorem JB(E:DT L args st e s1 s)(q:Nat):e.st.dM q=s.dM q:=by rw [E.st'];simp only [St.dM,E.yR.cf];rfl
theorem JA(E:DT L args st e s1 s)(a:Nat):e.st.arr a=s.arr a:=by rw [E.st'];simp only [St.arr,(Prod.mk.inj E.yR.ix.2.2.2).1];rfl
theorem abG(E:DT L args st e s1 s):e.st.cA=s.cA:=by rw [E.st'];exact E.yR.ix.2.2.1.symm
theorem Hl(E:DT L args st e s1 s):yl L.cf e.st=true:=by
 have:=E.ob;unfold yl at this ⊢;rw [←this]
 congr 1
 funext p
 rw [JB E p.1]
theorem YN{s:St}:∀{cs:kN} {c:PV cs} {a0:AL},kX s cs=some (c,a0)→∀ k a (A':jF),(k,some a,A')∈a0→∀ i o,A'.md≠.CD i o:=by
 intro cs;induction cs with
 |nil=>intro c a0 h k a A' hm;simp only [kX,Option.some.injEq,Prod.mk.injEq] at h;obtain⟨_,rfl⟩:=h;cases hm
 |cons q r ih=>
  intro c a0 h k a A' hm i o;simp only [kX] at h;split at h
  ·rename_i x a1 h1
   split at h
   ·rename_i xs b1 h2
    simp only [Option.some.injEq,Prod.mk.injEq] at h;obtain⟨_,rfl⟩:=h;rcases List.mem_append.1 hm with hm | hm
    ·obtain⟨_,e3,_⟩:=Gr h1 _ _ _ hm
     obtain⟨_,m',t',e4⟩:=z8 e3;obtain⟨q1,q2⟩:=q;simp only at e4;subst e4;simp only [mq.arr,Option.some.injEq] at e3;rw [←e3];exact YO h1 i o
    ·exact ih h2 k a A' hm i o
   ·cases h
  ·cases h
theorem Yi(E:DT L args st e s1 s)(Xs:Ut L e.st=true)(aaU:PI L.pin e.b e.st=true)(zL:kX s4 told=some (o,b4))(Hw:uQ s4 L.cs=true)(ZG:zt (fV L.cs e.c ++ b4)=true)
  (adD:yl L.cf s4=true) (ae4:yl (news.map fun p=>(p.1,p.2.1)) s4=true) (UK:s8 L e.c s4) (hf:C9 dst L told o news e.st=true) (XK:Fd L.pin b4=true):
  GT e.st (L.st e.c e.v) s4 (GW dst L told o news e.a e.b e.st) (e.a ++ e.b) (yz dst (vQ L.pin b4)) (Dl (e.a ++ C7 L.pin e.b)) (Cg news):=by
 obtain⟨f1,f2,f3,f4,f5,f6,f7⟩:=Da hf;have XH:=Hl E;have Hx:=I9 E.NF;have PU:=Up (dst:=dst) (told:=told) (o:=o) (news:=news) (a:=e.a) (b:=e.b) Hx XH (fun p hp=>(f3 p hp).1) f5;have E7:=E.al;simp only [zt,Bool.and_eq_true] at E7 ZG;have hn4:(b4.map (·.1)).Nodup:=by have:=eD ZG.1;rw [List.map_append,List.nodup_append] at this;exact this.2.1
 have hs4:(b4.filterMap (·.2.1)).Nodup:=by have:=eD ZG.2;rw [List.filterMap_append,List.nodup_append] at this;exact this.2.1
 obtain⟨g1,g2,g5,g3,g4,g6,g7⟩:=Jn zL (dst:=dst) (news:=news) (pin:=L.pin) (ba:=e.b);have aaQ:=pg zL;have adg:=pg E.rc;have tob:∀ q tl,(L.st e.c e.v).dM q=some tl→∃ n,(q,n)∈L.cf∧tl=ph (b8 L.cs e.c) (b8 L.vs e.v) q 0 n:=fun q tl h=>wT h;have acP:∀{q n},(q,n)∈L.cf→(L.st e.c e.v).dM q=some (ph (b8 L.cs e.c) (b8 L.vs e.v) q 0 n):=fun {q n} hm=>
  tB (f:=fun p=>ph (b8 L.cs e.c) (b8 L.vs e.v) p.1 0 p.2) Hx hm
 have Vw:∀ q,q∉L.cf.map (·.1)→(L.st e.c e.v).dM q=none:=fun q hq=>by
  cases h:(L.st e.c e.v).dM q with
  |none=>rfl
  |some tl=>obtain⟨n,hm,_⟩:=tob q tl h;exact absurd (List.mem_map_of_mem (f:=(·.1)) hm) hq
 have shl:∀(cl vl:List (Nat×Nat×ag)) (q j n:Nat),(ph cl vl q j n).length=n:=by
  intro cl vl q j n;induction n generalizing j with
  |zero=>rfl
  |succ n ih=>simp [ph,ih]
 have VZ:∀{p:Pl} {sp:mq},(p,sp)∈told→∀ q off,sp = .lit (.mW q off)→(∃ tl,(L.st e.c e.v).dM q=some tl)∨q∈news.map (·.1):=fun {p sp} hp q off e1=>by
  rcases f7 _ hp q off e1 with h | h
  ·obtain⟨⟨q',n⟩,hm,rfl⟩:=List.mem_map.1 h
   exact .inl ⟨_,acP hm⟩
  ·exact .inr h
 have hnt:∀ p∈news,(L.st e.c e.v).dM p.2.2=none:=fun p hp=>Vw _ fun hm=>by obtain⟨⟨q',n⟩,hm,e1⟩:=List.mem_map.1 hm;obtain⟨ls,hl,_⟩:=oC XH hm;have:=(f3 p hp).1;simp only at e1 hl;rw [←e1,hl] at this;cases this
 have Ys:∀{sp:mq} {x:sp.V} {p p':Pl} {bp:AL},zf s4 p sp=some (x,bp)→∀(q:St) o j,q.res o j (yy dst L.pin news p' sp x)=yy dst L.pin news p' sp x:=fun {sp x p p' bp} hr q o j=>by
  unfold yy;cases eV p'.key L.pin with
  |true=>rfl
  |false=>
  rw [cond_false];cases sp with
  |any=>rfl
  |d t=>rfl
  |h m t=>rfl
  |lit l=>
   simp only [zf] at hr;split at hr
   ·rename_i l' _
    cases he:vA l l' with
    |false=>simp [he] at hr
    |true=>
     cases l<;>simp [vA] at he<;>try rfl
     simp only [mq.bM,YR];split<;>rfl
   ·cases hr
 have WT:∀ a,(GW dst L told o news e.a e.b e.st).arr a=(match look (rq dst L.pin told o) a with | some v=>some v | none=>match look (oI L.pin e.b told o) a with | some v=>some v | none=>(if a∈Jr e.b then none else e.st.arr a)):=fun a=>by
  have e1:(GW dst L told o news e.a e.b e.st).arr a=(match look (rq dst L.pin told o ++ (oI L.pin e.b told o ++ kT (Jr e.b) e.st.cK)) a with | some v=>some v | none=>look e.st.fN a):=rfl
  rw [e1,io,io,Dr];cases look (rq dst L.pin told o) a with
  |some v=>rfl
  |none=>
   cases look (oI L.pin e.b told o) a with
   |some v=>rfl
   |none=>
   by_cases Bm:a∈Jr e.b
   ·obtain⟨x,hx,Oz⟩:=List.mem_filterMap.1 Bm
    have:=List.all_eq_true.1 aaU x hx;rw [Oz] at this;simp only [Bool.and_eq_true] at this;simp only [Bm,if_true];simpa using this.1
   ·simp only [Bm,if_false];rfl
 have adt:∀{nm:Nat} {A:jF},look (oI L.pin e.b told o) nm=some A→∃ k C,eV k L.pin=true∧(k,some nm,C)∈e.b∧(k,some k,A)∈b4∧s4.arr k=some A∧A.sh=false∧∀ i o,A.md≠.CD i o:=fun {nm A} h=>by
  obtain⟨p,sp,x,bp,C,h1,h2,h3,h4,h5,h6⟩:=g6 h;have hp4:=List.all_eq_true.1 XK p.key (gI.1 h6);split at hp4
  ·rename_i b0 B hl
   have e0:=Nat.eq_of_beq_eq_true hp4;subst e0;have gX:=dV hl;obtain⟨dn,m,t,rfl⟩:=z8 h5;have P5:=YO h2;have ux:A.md=m:=by simp only [mq.arr,Option.some.injEq] at h5;rw [←h5]
   have hbp:∃ jM,(p.key,jM,A)∈bp:=by
    simp only [mq.arr,Option.some.injEq] at h5;simp only [zf] at h2;split at h2
    ·cases hw:m.Qz with
     |false=>simp [hw] at h2
     |true=>simp only [hw,cond_true,Option.some.injEq,Prod.mk.injEq] at h2;obtain⟨rfl,rfl⟩:=h2;exact⟨none,by rw [←h5];exact List.mem_singleton.2 rfl⟩
    ·rename_i a' _
     split at h2
     ·rename_i A' _
      cases hs:(A'.sh || !m.lc A'.md) with
      |true=>simp [hs] at h2
      |false=>
       simp only [hs,cond_false] at h2;split at h2
       ·simp only [Option.some.injEq,Prod.mk.injEq] at h2
        obtain⟨rfl,rfl⟩:=h2;exact⟨some a',by rw [←h5];exact List.mem_singleton.2 rfl⟩
       ·cases h2
     ·cases h2
    ·cases h2
   obtain⟨jM,hbp⟩:=hbp;have e1:=kW hn4 (h3 _ hbp);rw [hl] at e1;simp only [Option.some.injEq,Prod.mk.injEq] at e1;obtain⟨rfl,rfl⟩:=e1;obtain⟨_,hgd⟩:=aaQ _ _ _ gX;exact⟨p.key,C,h6,dV h4,gX,hgd,dn,fun i o e2=>P5 i o (by rw [←ux];exact e2)⟩
  ·cases hp4
 have aaI:∀{q j:Nat} {sl:List ag} {a:ag},s4.dM q=some sl→sl[j]? = some a→s4.at (.l q j) = .one (s4.res q j a):=fun {q j sl a} h1 h2=>by simp [St.at,h1,h2]
 refine {n:=rfl,vr:=fun q=>?_,ii:=fun _=>rfl,bl:=rfl,aay:=fun q tl h=>?_,dM:=fun q wF hq=>?_,Dw:=fun q k h=>?_,adY:=fun q q' k h h'=>?_,UR:=fun q ls h=>?_,ur:=fun q j ls lf h1 h2 h3=>?_,arr:=fun a A hA=>?_,ti:=fun a a' k h h'=>?_,ki:=fun a a' k h h'=>?_,tk:=fun a a' k h h'=>?_,E5:=fun a x h=>?_,pn:=rfl,ap:=fun a A hp hA=>?_}
 ·rw [Uq]
  cases hk:Dl (e.a ++ C7 L.pin e.b) q with
  |none=>
   rw [if_neg fun hs=>(by
    obtain⟨⟨nm,jM,B⟩,hm,RU⟩:=List.mem_filterMap.1 hs;simp only at RU;subst RU;exact Gj hk _ _ hm)]
  |some k=>obtain⟨A',hm⟩:=qH hk;rw [if_pos (show q∈Jr (e.a ++ C7 L.pin e.b) from List.mem_filterMap.2 ⟨_,hm,rfl⟩)]
 ·obtain⟨n,hm,_⟩:=tob q tl h
  obtain⟨ls,hl,_⟩:=oC XH hm;obtain⟨sl,KX,_⟩:=oC adD hm;exact⟨Qd E.NF hm,⟨ls,hl⟩,sl,KX⟩
 ·rcases PU q with ⟨k,n,hm,e1⟩ |⟨hqn,⟨n,ls,hm,hl,e1⟩ |⟨hqo,e1⟩⟩
  ·
   rw [e1] at hq;cases hq;have hmn:(k,n)∈news.map fun p=>(p.1,p.2.1):=List.mem_map.2 ⟨(k,n,q),hm,rfl⟩;obtain⟨sl,KX,XO⟩:=oC ae4 hmn;refine .inr (.inr ⟨k,sl,Mr f5 hm,KX,by rw [Dv];exact XO.symm,fun j l' a h1 h2 G G3 u hX hφ hu=>?_⟩)
   have hj:j < n:=by have:=(List.getElem?_eq_some_iff.1 h1).1;rwa [Dv] at this
   rw [Sc hj,Nat.zero_add] at h1;simp only [Option.some.injEq] at h1;cases hlk:dY (jg dst L.pin news told o) k j with
   |none=>rw [hlk] at h1;simp only at h1;subst h1;trivial
   |some x=>rw [hlk] at h1;simp only at h1;subst h1;obtain⟨sp,y,bp,hp,hr,qb,rfl⟩:=g1 hlk;rw [Ys hr];exact El hr qb hn4 hX hφ f5 hnt (VZ hp) (by rw [aaI KX h2];exact hu)
  ·
   rw [e1] at hq;cases hq;obtain⟨sl,KX,XO⟩:=oC adD hm;obtain⟨ls2,hl2,jI⟩:=oC XH hm;rw [hl] at hl2;cases hl2;simp only at XO jI;refine .inr (.inl ⟨ls,_,sl,hl,acP hm,KX,by rw [shl];exact jI.symm,by omega,zE,fun j l' l a h1 h2 h3=>?_⟩)
   rw [Br,Nat.zero_add,h2] at h1;simp only [Option.map_some,Option.some.injEq] at h1;have hjn:j < n:=by have:=(List.getElem?_eq_some_iff.1 h2).1;omega
   cases hlk:dY (jg dst L.pin news told o) q j with
   |some x=>rw [hlk] at h1;simp only at h1;subst h1;obtain⟨sp,y,bp,hp,hr,qb,rfl⟩:=g1 hlk;refine .inr fun G G3 u hX hφ hu=>?_;rw [Ys hr];exact El hr qb hn4 hX hφ f5 hnt (VZ hp) (by rw [aaI KX h3];exact hu)
   |none=>
    rw [hlk] at h1;simp only at h1;cases hc:yG q j L.cs with
    |true=>
     rw [hc,cond_true] at h1;subst h1;obtain⟨lf,P4⟩:=HM (c:=e.c) hc;refine .inl ⟨?_,?_,lf,P4⟩
     ·have:∀ x:ag,(GW dst L told o news e.a e.b e.st).res q j x=e.st.res q j x:=fun x=>by cases x<;>rfl
      exact this _
     ·exact yt hjn (by rw [Nat.zero_add];exact P4)
    |false=>rw [hc,cond_false] at h1;subst h1;exact .inr fun _ _ _ _ _ _=>trivial
  ·exact .inl ⟨Vw q hqo,by rw [←e1];exact hq⟩
 ·obtain⟨n,hm⟩:=AI h
  obtain⟨h1,h2,h3⟩:=f3 _ hm;exact⟨h1,h2,Vw k h3⟩
 ·obtain⟨n,hm⟩:=AI h
  obtain⟨n',hm'⟩:=AI h';have key:∀{news:List (Nat×Nat×Nat)},(news.map (·.1)).Nodup→(k,n,q)∈news→(k,n',q')∈news→q=q':=by
   intro news;induction news with
   |nil=>intro _ h;cases h
   |cons p r ih=>
    intro hn h1 h2;rw [List.map_cons,List.nodup_cons] at hn;rcases List.mem_cons.1 h1 with h1 | h1<;>rcases List.mem_cons.1 h2 with h2 | h2
    ·rw [←h1] at h2;cases h2;rfl
    ·exact absurd (by rw [←h1];exact List.mem_map_of_mem (f:=(·.1)) h2) hn.1
    ·exact absurd (by rw [←h2];exact List.mem_map_of_mem (f:=(·.1)) h1) hn.1
    ·exact ih hn.2 h1 h2
  exact key f4 hm hm'
 ·rcases PU q with ⟨k,n,hm,e1⟩ |⟨hqn,⟨n,ls,hm,hl,e1⟩ |⟨hqo,e1⟩⟩
  ·exact⟨_,e1⟩
  ·exact⟨_,e1⟩
  ·exact⟨ls,by rw [e1];exact h⟩
 ·rcases PU q with ⟨k,n,hm,e1⟩ |⟨hqn,⟨n,wF,hm,hl,e1⟩ |⟨hqo,e1⟩⟩
  ·have:=(f3 _ hm).1;rw [h1] at this;cases this
  ·rw [h1] at hl
   cases hl;obtain⟨ls2,hl2,jI⟩:=oC XH hm;rw [h1] at hl2;cases hl2;simp only at jI;have hjn:j < n:=by have:=(List.getElem?_eq_some_iff.1 h2).1;omega
   have hc:yG q j L.cs=true:=by have:=List.all_eq_true.1 (List.all_eq_true.1 Xs _ hm) j (List.mem_range.2 hjn);simp only [h1,Option.bind_some,h2,Bool.or_false] at this;exact this
   have ht:dY (jg dst L.pin news told o) q j=none:=by
    cases hh:dY (jg dst L.pin news told o) q j with
    |none=>rfl
    |some x=>obtain⟨sp,hsp⟩:=vw hh;obtain⟨sc,hsc⟩:=De.1 hc;exact absurd (rfl:(Pl.l q j).key=(Pl.l q j).key) ((f6 (Pl.l q j,sp) hsp q j rfl).1 (Pl.l q j,sc) hsc)
   obtain⟨lf',ady⟩:=HM (c:=e.c) hc;refine⟨_,e1,?_,.inr ⟨_,lf',acP hm,yt hjn (by rw [Nat.zero_add];exact ady),ady⟩⟩
   rw [Br,Nat.zero_add,h2,ht];simp [hc]
  ·exact⟨ls,by rw [e1];exact h1,h2,.inl (Vw q hqo)⟩
 ·rw [WT] at hA
  cases hlk:look (rq dst L.pin told o) a with
  |some B=>
   rw [hlk] at hA;simp only [Option.some.injEq] at hA;subst hA;obtain⟨p,sp,x,bp,hp,hr,qb,rfl,V2,hpk⟩:=g3 hlk;obtain⟨dn,m,t,rfl⟩:=z8 V2;have P5:=YO hr;have ux:B.md=m:=by simp only [mq.arr,Option.some.injEq] at V2;rw [←V2]
   have gX:∃ jM,(p.key,jM,B)∈bp:=by
    simp only [mq.arr,Option.some.injEq] at V2;simp only [zf] at hr;split at hr
    ·cases hw:m.Qz with
     |false=>simp [hw] at hr
     |true=>simp only [hw,cond_true,Option.some.injEq,Prod.mk.injEq] at hr;obtain⟨rfl,rfl⟩:=hr;exact⟨none,by rw [←V2];exact List.mem_singleton.2 rfl⟩
    ·rename_i a' _
     split at hr
     ·rename_i A' _
      cases hs:(A'.sh || !m.lc A'.md) with
      |true=>simp [hs] at hr
      |false=>
       simp only [hs,cond_false] at hr;split at hr
       ·simp only [Option.some.injEq,Prod.mk.injEq] at hr
        obtain⟨rfl,rfl⟩:=hr;exact⟨some a',by rw [←V2];exact List.mem_singleton.2 rfl⟩
       ·cases hr
     ·cases hr
    ·cases hr
   obtain⟨jM,gX⟩:=gX;have hb4:=qb _ gX;have adk:=qg.2 ⟨hb4,hpk⟩;obtain⟨_,hgd⟩:=aaQ _ _ _ hb4;cases jM with
   |some k=>exact .inl ⟨k,DR (Bu hn4) adk,hgd,dn,fun i o e2=>P5 i o (by rw [←ux];exact e2)⟩
   |none=>exact .inr (.inl ⟨DR (Bu hn4) adk,hgd.1,dn,hgd.2⟩)
  |none=>
   rw [hlk] at hA;simp only at hA;have htn:yz dst (vQ L.pin b4) a=none:=by
    cases ht:yz dst (vQ L.pin b4) a with
    |none=>rfl
    |some jM=>obtain⟨k,A',rfl,hm⟩:=uL ht;obtain⟨Ku,hm2⟩:=qg.1 hm;obtain⟨B,hB⟩:=g4 Ku hm2;rw [hlk] at hB;cases hB
   have hn:((e.a ++ e.b).map (·.1)).Nodup:=eD E7.1
   cases hlb:look (oI L.pin e.b told o) a with
   |some B=>
    rw [hlb] at hA;simp only [Option.some.injEq] at hA;subst hA;obtain⟨k,C,q1,q2,q3,q4,q5,q6⟩:=adt hlb;cases hk:Dl (e.a ++ C7 L.pin e.b) a with
    |none=>exact absurd (List.mem_append_right _ (wU.2 ⟨q2,q1⟩)) (Gj hk _ _)
    |some k'=>
     obtain⟨A',hm⟩:=qH hk;have hm':(k',some a,A')∈e.a ++ e.b:=by
      rcases List.mem_append.1 hm with hm | hm
      ·exact List.mem_append_left _ hm
      ·exact List.mem_append_right _ (wU.1 hm).1
     have e1:k' = k:=If (eD E7.2) hm' (List.mem_append_right _ q2);subst e1;exact .inr (.inr (.inl ⟨k',htn,rfl,trivial,q4,q5,q6⟩))
   |none=>
   rw [hlb] at hA;simp only at hA;by_cases Bm:a∈Jr e.b
   ·simp [Bm] at hA
   ·simp only [Bm,if_false] at hA
    cases hk:Dl (e.a ++ C7 L.pin e.b) a with
    |some k=>
     obtain⟨A',hm⟩:=qH hk;have hm:(k,some a,A')∈e.a:=by
      rcases List.mem_append.1 hm with hm | hm
      ·exact hm
      ·exact absurd (show a∈Jr e.b from List.mem_filterMap.2 ⟨_,(wU.1 hm).1,rfl⟩) Bm
     obtain⟨dn,oX⟩:=adg _ _ _ hm;simp only at oX;rw [JA E,oX] at hA;cases hA;obtain⟨hkp,_⟩:=I6 E.rc hm;simp only [uQ,Bool.and_eq_true] at Hw;have aeU:=Ah (v:=e.c) (eD Hw.1);obtain⟨_,h4⟩:=Ar (full:=⟨L.cs,e.c⟩) (Prod.mk.inj UK.2.2.2).1 aeU Hw.2 k (some k) A hkp;exact .inr (.inr (.inl ⟨k,htn,rfl,trivial,h4,dn,fun i o e2=>YN E.rc _ _ _ hm i o e2⟩))
    |none=>
     refine .inr (.inr (.inr ⟨htn,rfl,hA,.inr fun nm B h=>?_⟩));have hm:=dV h;rcases List.mem_append.1 hm with hm | hm
     ·exact Gj hk _ _ (List.mem_append_left _ hm)
     ·exact Bm (List.mem_filterMap.2 ⟨_,hm,rfl⟩)
 ·obtain⟨k1,A1,rfl,Ku⟩:=uL h
  obtain⟨k2,A2,rfl,hm2⟩:=uL h';rw [If hs4 (qg.1 Ku).1 (qg.1 hm2).1]
 ·have sub:∀{k' a':Nat} {A':jF},(k',some a',A')∈e.a ++ C7 L.pin e.b→(k',some a',A')∈e.a ++ e.b:=fun {k' a' A'} hm=>by
   rcases List.mem_append.1 hm with hm | hm
   ·exact List.mem_append_left _ hm
   ·exact List.mem_append_right _ (wU.1 hm).1
  obtain⟨A1,Ku⟩:=qH h;obtain⟨A2,hm2⟩:=qH h';have hn:((e.a ++ e.b).map (·.1)).Nodup:=eD E7.1
  have e1:=kW hn (sub Ku);have e2:=kW hn (sub hm2);rw [e1] at e2;simp only [Option.some.injEq,Prod.mk.injEq] at e2;exact e2.1
 ·obtain⟨k1,A1,rfl,Ku⟩:=uL h
  obtain⟨Ku,ZM⟩:=qg.1 Ku;obtain⟨A2,hm2⟩:=qH h';rcases List.mem_append.1 hm2 with hm2 | hm2
  ·obtain⟨hk2,_⟩:=I6 E.rc hm2
   have Hx:=eD ZG.2;rw [List.filterMap_append,List.nodup_append] at Hx;exact Hx.2.2 k (List.mem_filterMap.2 ⟨_,hk2,rfl⟩) k (List.mem_filterMap.2 ⟨_,Ku,rfl⟩) rfl
  ·obtain⟨_,hpk⟩:=wU.1 hm2
   have hp4:=List.all_eq_true.1 XK k (gI.1 hpk);split at hp4
   ·rename_i b0 B hl
    have e0:=Nat.eq_of_beq_eq_true hp4;subst e0;have:=If hs4 Ku (dV hl);subst this;rw [hpk] at ZM;cases ZM
   ·cases hp4
 ·obtain⟨k1,A1,rfl,Ku⟩:=uL h
  obtain⟨Ku,ZM⟩:=qg.1 Ku;obtain⟨B,hB⟩:=g4 Ku ZM;exact(f2 _ (dV hB)).2
 ·have hlk:look (rq dst L.pin told o) a=none:=by
   cases hl:look (rq dst L.pin told o) a with
   |none=>rfl
   |some B=>have:=(f2 _ (dV hl)).1;rw [hA] at this;cases this
  refine⟨?_,?_⟩
  ·cases ht:yz dst (vQ L.pin b4) a with
   |none=>rfl
   |some jM=>obtain⟨k,A',rfl,hm⟩:=uL ht;obtain⟨Ku,hm2⟩:=qg.1 hm;obtain⟨B,hB⟩:=g4 Ku hm2;rw [hlk] at hB;cases hB
  ·rw [WT,hlk]
   simp only;cases hlb:look (oI L.pin e.b told o) a with
   |some B=>exact⟨B,rfl⟩
   |none=>
    simp only;by_cases Bm:a∈Jr e.b
    ·obtain⟨⟨k,jM,B⟩,hx,Oz⟩:=List.mem_filterMap.1 Bm
     simp only at Oz;subst Oz;have h5:=List.all_eq_true.1 aaU _ hx;simp only [Bool.and_eq_true,Bool.or_eq_true,Bool.not_eq_true'] at h5;rcases h5.2 with h6 | h6
     ·have hp4:=List.all_eq_true.1 XK k (gI.1 h6)
      split at hp4
      ·rename_i b0 B' hl
       have hnb:look e.b k=some (some a,B):=by
        have hn:((e.a ++ e.b).map (·.1)).Nodup:=eD E7.1
        rw [List.map_append,List.nodup_append] at hn;exact kW hn.2.1 hx
       obtain⟨C,hC⟩:=g7 (dV hl) h6 hnb;rw [hlb] at hC;cases hC
      ·cases hp4
     ·have zK:eV a e.st.pin=true:=hp
      rw [h6] at zK;cases zK
    ·rw [if_neg Bm];exact⟨A,hA⟩
end
end Go.Fx
namespace Go.Fx
theorem CW{G:Gh}:∀{args:List ae} {vs:List Value} {k i:Nat} {v:ae},All2 (aU G) args vs→look (oV k args) i=some v→∃ j u,i=k + j∧vs[j]? = some u∧aU G v u
 |[],[],k,i,v,_,h=>by cases h
 |a :: r,u :: us,k,i,v,hr,h=>by
  simp only [oV,aw] at h;by_cases e:k=i
  ·simp only [e,if_true,Option.some.injEq] at h
   subst h;exact⟨0,u,by omega,rfl,hr.1⟩
  ·simp only [e,if_false] at h
   obtain⟨j,u',e1,e2,e3⟩:=CW hr.2 h;exact⟨j + 1,u',by omega,by simpa using e2,e3⟩
 |[],_ :: _,_,_,_,hr,_=>hr.elim
 |_ :: _,[],_,_,_,hr,_=>hr.elim
theorem aB.V7{X:mt}{st st':St}{G:Gh}{w:World}(hm:aB X st G w)(ho:st'.cf=st.cf)(ha:st'.cK=st.cK)(hl:st'.cA=st.cA)(hb:st'.fN=st.fN)(hp:st'.pin=st.pin)(hv:st'.DS=st.DS):aB X st' G w:=by
 obtain⟨n,ez,cf,cK,br,bl,ba,pn,vr⟩:=st;obtain⟨n',abg,U2,Us,br',bl',ba',pn',vr'⟩:=st';simp only at ho ha hl hb hp hv;subst ho ha hl hb hp hv;have Ap:∀ o j l,(⟨n',abg,U2,Us,br',bl',ba',pn',vr'⟩:St).res o j l=(⟨n,ez,U2,Us,br,bl',ba',pn',vr'⟩:St).res o j l:=fun o j l=>by cases l<;>rfl
 have adK:∀ o (ls:List ag) j,(⟨n',abg,U2,Us,br',bl',ba',pn',vr'⟩:St).jT o j ls=(⟨n,ez,U2,Us,br,bl',ba',pn',vr'⟩:St).jT o j ls:=fun o ls=>by
  induction ls with
  |nil=>intro j;rfl
  |cons l r ih=>intro j;simp only [St.jT,Ap,ih]
 exact {sl:=hm.sl,sh:=hm.sh,ob:=fun o ls h=>(by obtain⟨arr,elem,mid,g1,g2,g3⟩:=hm.ob o ls h;exact⟨arr,elem,mid,g1,g2,by unfold ie at g3 ⊢;rw [adK];exact g3⟩),ar:=hm.ar,ah:=hm.ah,nd:=hm.nd,pX:=hm.pX,dS:=hm.dS,s6:=hm.s6,s0:=hm.s0,sn:=hm.sn,fr:=hm.fr,sz:=hm.sz,os:=hm.os,tp:=hm.tp,out:=hm.out,pin:=hm.pin,bv:=hm.bv,ap:=hm.ap,hv:=hm.hv,ds:=hm.ds,hh:=hm.hh}
def mt.Zs(X:mt):mt:=⟨X.S0,X.Wg,X.w0,fun _=>none,(fun _ _ h=>(by cases h)),fun _ _=>none,(fun _ _ _ h=>(by cases h)),fun _=>none,X.ds⟩
theorem aB.Zs{X:mt}{st:St}{G:Gh}{w:World}(hm:aB X st G w):aB X.Zs st G w:=
 {sl:=hm.sl,sh:=hm.sh,ob:=hm.ob,ar:=hm.ar,ah:=hm.ah,nd:=hm.nd,pX:=hm.pX,dS:=hm.dS,s6:=hm.s6,s0:=hm.s0,sn:=hm.sn,fr:=hm.fr,sz:=hm.sz,os:=hm.os,tp:=hm.tp,out:=hm.out,pin:=fun o p h=>(by cases h),bv:=fun o j u h=>(by cases h),ap:=fun a u h=>(by cases h),hv:=hm.hv,ds:=hm.ds,hh:=hm.hh}
theorem Uu{X:mt}{st:St}{G:Gh}{w:World}(hm:aB X st G w){o j:Nat}{ls:List ag}{lf:ag}(ho:st.dM o=some ls)(hj:ls[j]? = some .ur)(hl:dY st.cA o j=some lf):
  ∃ arr elem u,w.heap[G.φ o]? = some (.cells arr elem (0,0))∧arr.toList[(G.pre o).length + j]? = some u∧aY G lf u:=by
 obtain⟨arr,elem,mid,g1,g2,g3⟩:=hm.ob o ls ho;have hml:mid.length=ls.length:=by have:=All2.length g3;rw [iK] at this;exact this.symm
 have hjl:j < ls.length:=(List.getElem?_eq_some_iff.1 hj).1;have hx:(st.jT o 0 ls)[j]? = some lf:=by rw [rH,hj,Nat.zero_add];simp [St.res,hl]
 obtain⟨u,hu,hr⟩:=All2.wa g3 hx;exact⟨arr,elem,u,g1,by rw [Qk g2 (by omega)];exact hu,hr⟩
theorem UI{full:(ps:kN)×PV ps}:∀{ps:kN} {v:PV ps} {o j:Nat} {m:Md} {t:Ty},kM full ps v→(Pl.l o j,mq.h m t)∈ps→dY (b8 full.1 full.2) o j=some (.mu (Pl.l o j).key)
 |[],v,_,_,_,_,_,h=>by cases h
 |(p,sp) :: r,v,o,j,m,t,hf,h=>by
  rcases List.mem_cons.1 h with h' | h'
  ·simp only [Prod.mk.injEq] at h'
   obtain⟨rfl,rfl⟩:=h';exact hf.1
  ·clear h
   cases p<;>exact UI (ps:=r) hf.2.2 h'
theorem aaK{G G':Gh}(hS:G'.S=G.S):∀{ls:List ag} {vs:List Value},vK ls=true→All2 (aY G) ls vs→All2 (aY G') ls vs
 |[],[],_,_=>trivial
 |.eZ t d :: r,_ :: _,h,hr=>⟨(by obtain⟨cs,e1,e2⟩:=hr.1;exact⟨cs,e1,by rw [hS];exact e2⟩),aaK hS (ls:=r) h hr.2⟩
 |[],_ :: _,_,hr=>hr.elim
 |_ :: _,[],_,hr=>hr.elim
def Pr(av:ae):Prop:=(∃ lf,av = .one lf)∨∃ ls,av = .agg ls
theorem YV{G':Gh}{l:List (Nat×ae)}{val:Nat→Value}(h:∀ i av,look l i=some av→Pr av∧aU G' av (val i))(i:Nat):Pr (OZ l i)∧aU G' (OZ l i) (val i):=by
 unfold OZ;cases hl:look l i with
 |none=>exact⟨.inl ⟨_,rfl⟩,trivial⟩
 |some av=>exact h i av hl
theorem Zh{G':Gh}{av:ae}{u:Value}(ho:Pr av)(h:aU G' av u):if(M5 av).1=true then ∃ cs:List Value,u = .agg cs.toArray∧All2 (aY G') (M5 av).2 cs else ∃ l,(M5 av).2 = [l]∧aY G' l u:=by
 rcases ho with ⟨lf,rfl⟩ |⟨ls,rfl⟩
 ·cases lf with
  |eZ t d=>
   obtain⟨cs,e1,e2⟩:=h;by_cases ha:t.agg=true
   ·rw [if_pos ha] at e1
    rw [if_pos (show(M5 (.one (.eZ t d))).1=true from ha)]
    exact⟨cs,e1,lw e2⟩
   ·rw [if_neg ha] at e1
    rw [if_neg (show ¬ (M5 (.one (.eZ t d))).1=true from ha)]
    cases t<;>simp [Ty.agg] at ha<;>exact⟨_,rfl,cs,by simpa [Ty.agg] using e1,e2⟩
  |_=>exact⟨_,rfl,h⟩
 ·exact h
theorem aai{G':Gh}{l:List (Nat×ae)}{val:Nat→Value}(h:∀ i av,look l i=some av→Pr av∧aU G' av (val i))(res:List Nat):
  aU G' (ad4 l res) (Gs (res.map val)):=by
 have uw:=YV h;have all:∀(is:List Nat),All2 (fun(p:Bool×List ag) u=>if p.1=true then ∃ cs:List Value,u = .agg cs.toArray∧All2 (aY G') p.2 cs else ∃ l,p.2 = [l]∧aY G' l u) (is.map fun i=>M5 (OZ l i)) (is.map val):=by
  intro is;induction is with
  |nil=>trivial
  |cons i r ih=>exact⟨Zh (uw i).1 (uw i).2,ih⟩
 match res with
 |[]=>exact⟨[],rfl,trivial⟩
 |[i]=>exact(uw i).2
 |i :: j :: r=>exact⟨_,rfl,all (i :: j :: r)⟩
theorem SF{G':Gh}{l:List (Nat×Nat×ag)}{i:Nat}{sl:List ag}{R:ag→Value→Prop}(h:∀ j a lf u,sl[j]? = some a→dY l i j=some lf→R a u→aY G' lf u):∀(n j:Nat) (m:List ag) (cs:List Value),m.length=n→(∀ k,sl[j + k]? = m[k]?)→All2 R m cs→All2 (aY G') (qsh l i j n) cs
 |0,j,[],[],_,_,_=>trivial
 |n + 1,j,a :: m,c :: cs,hl,hi,ha=>by
  refine⟨?_,SF h n (j + 1) m cs (by simpa using hl) (fun k=>by have:=hi (k + 1);rw [show j + (k + 1)=j + 1 + k by omega] at this;simpa using this) ha.2⟩
  cases hc:dY l i j with
  |none=>trivial
  |some lf=>exact h j a lf c (by simpa using hi 0) hc ha.1
 |0,j,[],_ :: _,_,_,ha=>ha.elim
 |n + 1,j,_ :: _,[],_,_,ha=>ha.elim
def Ed(pin:List Nat)(s:St):List (Nat×ae):=s.ez.filter fun p=>(match p.2 with | .one (.mu _)=>true | _=>false) && eV (Pl.r p.1).key pin
theorem QB{pin:List Nat}{s:St}{i:Nat}(h:eV (Pl.r i).key pin=false):look (Ed pin s) i=none:=by
 cases hl:look (Ed pin s) i with
 |none=>rfl
 |some v=>have:=(List.mem_filter.1 (dV hl)).2;simp only [Bool.and_eq_true] at this;rw [h] at this;cases this.2
theorem SA{pin:List Nat}{s:St}{i:Nat}{v:ae}(h:look (Ed pin s) i=some v):v.qls=none:=by
 have:=(List.mem_filter.1 (dV h)).2;simp only [Bool.and_eq_true] at this;have h1:=this.1;revert h1;cases v with
 |one l=>cases l<;>intro h1<;>first | rfl | cases h1
 |_=>intro h1;cases h1
def QE(pin:List Nat)(avs:List ae)(s:St):St:={s with ez:=oV 500000 avs ++ Ed pin s}
def H8(n:Nat):List Nat:=(List.range n).map (500000 + ·)
theorem SH(yJ:List Value):(H8 yJ.length).map (fun i=>yJ.getD (i - 500000) undef)=yJ:=by
 apply List.ext_getElem?;intro i;unfold H8;rw [List.getElem?_map,List.getElem?_map];by_cases h:i < yJ.length
 ·simp [h]
 ·simp [Nat.le_of_not_lt h]
theorem DG{E:sd}{st:St}:∀{rv:List ResultVar} {avs:List ae},KG E st rv=some avs→avs.length=rv.length
 |[],avs,h=>by cases h;rfl
 |.tmp t :: r,avs,h=>by
  simp only [KG] at h;split at h
  ·rename_i l hl;cases h;simp [DG hl]
  ·cases h
 |.cell t T :: r,avs,h=>by
  simp only [KG] at h;split at h
  ·split at h
   ·rename_i v l _ hl;cases h;simp [DG hl]
   ·cases h
  ·cases h
section
variable {P:Program} {E:sd} (hE:EX P E)
include hE
theorem abL{f:FuncId}{fn:Func}{body:Code}{L:pW}{W:Type}{F:PV L.cs→PV L.vs→Option W}{dk:DkO W}{out:PV L.cs→St→Option W}{pout:PV L.cs→ae→St→Option W}
  (hf:P.funcs[f]? = some fn) (hb:fn.body=some body) (Am:∀ args w,(callFunc f args).run P w = .ok (.enter f args) w) (hL:rV P E body) (hn:fn.ntmps=L.n)
  (h1:∀ c v x,F c v=some x→so E body (L.st c v) (fun e s=>match e with | .normal=>out c s | .ret=>out c s | _=>none) (pout c)=some x)
  (h2:∀ c s x,out c s=some x→∃ avs told o news,KG E s fn.results.toList=some avs∧NZ L (fV L.cs c) told news (QE L.pin avs s)=some o∧∀(R:Type) (f:(told:kN)→PV told→List (Nat×Nat×Nat)→List Nat→Option R) g,dk R x f g=f told o news (H8 fn.results.toList.length))
  (h3:∀ c av s x,pout c av s=some x→∃ T ls,av = .zC T ls∧vK ls=true∧NZ L (fV L.cs c) [] [] s=some ()∧∀(R:Type) (f:(told:kN)→PV told→List (Nat×Nat×Nat)→List Nat→Option R) g,dk R x f g=g T ls):
  z7 P E.gt f (mI L F dk):=by
 intro R r X st G w dst args vs K KP hr yH hm _ ha;simp only [mI] at hr;cases he:Xd L args st with
 |none=>rw [he] at hr;cases hr
 |some e=>
  rw [he] at hr;obtain⟨s1,s,EN⟩:=UC he;simp only at hr;cases hbc:(Ut L e.st && PI L.pin e.b e.st) with
  |false=>simp [hbc] at hr
  |true=>
   simp only [hbc,cond_true] at hr;simp only [Bool.and_eq_true] at hbc;obtain⟨x,hx,hr⟩:=Option.bind_eq_some_iff.1 hr;have m0:aB X (B0 L.n args st) G w:=hm.V7 rfl rfl rfl rfl rfl rfl;obtain⟨G1,m1,a1,k1⟩:=nI EN.sc m0;obtain⟨G2,m2,a2,k2⟩:=nI EN.sv m1;have a02:=a1.trans a2;have al':=EN.al;simp only [zt,Bool.and_eq_true] at al';have Hx:((e.a ++ e.b).map (·.1)).Nodup:=eD al'.1
   have N:=Se (L:=L) (uE Hx EN.rc (fun e he=>List.mem_append_left _ he)) (uE Hx EN.rv (fun e he=>List.mem_append_right _ he))
    (fun nm jM A gX=>by
     rcases List.mem_append.1 gX with gX | gX
     ·exact pg EN.rc nm jM A gX
     ·exact pg EN.rv nm jM A gX) EN.al EN.ob EN.yR.ix.1.symm EN.q
   have zB:aB X.Zs (L.st e.c e.v) (G2.t7 (e.a ++ e.b)) w:=N.ok m2.Zs (fun o p h=>by cases h) (fun o j u h=>by cases h) (fun a u h=>by cases h)
   have hmi:=zB.enter;have me:aB X e.st G2 w:=by rw [EN.st'];have al:=EN.yR;exact m2.V7 al.cf.symm rfl al.ix.2.2.1.symm (Prod.mk.inj al.ix.2.2.2).1.symm (Prod.mk.inj al.ix.2.2.2).2.symm al.DS.symm
   have AX:m9 E.gt (wb (L.st e.c e.v) (G2.t7 (e.a ++ e.b)) w).S0:=yH.mono m2.s0;have jI:vs.length=args.length:=(All2.length ha).symm;have wB:bL {G2.t7 (e.a ++ e.b) with ds:=[]} (L.st e.c e.v) {tmps:=vs.toArray ++ Array.replicate (fn.ntmps - vs.toArray.size) undef,defers:=[]}:=by
    refine N.ez (G:={G2 with ds:=[]}) m2.ds0 ⟨rfl,?_,fun i v hv=>?_⟩
    ·have:s.n=L.n:=EN.yR.ix.1
     have:=EN.len;simp;omega
    ·have e1:s.ii i=look (oV 0 args) i:=by
      simp only [St.ii,EN.yR.ez,EN.yR.ix.2.1];show(match look (oV 0 args) i with | some v=>some v | none=>look [] i)=_
      cases look (oV 0 args) i<;>rfl
     rw [e1] at hv;obtain⟨j,u,e2,e3,e4⟩:=CW ha hv;have hj:j < vs.length:=(List.getElem?_eq_some_iff.1 e3).1;have e5:i=j:=by omega
     subst e5;have:(vs.toArray ++ Array.replicate (fn.ntmps - vs.toArray.size) undef).getD i undef=u:=by
      rw [Array.getD_eq_getD_getElem?,Array.getElem?_append_left (by simpa using hj)]
      simp [e3]
     rw [this];exact Gh.acS (e4.sub a02)
   have hx1:=h1 e.c e.v x hx;have iE:∀{told:kN} {o:PV told} {news:List (Nat×Nat×Nat)} {s3:St} {G3:Gh} {w':World},s8 L e.c s3→aB (wb (L.st e.c e.v) (G2.t7 (e.a ++ e.b)) w) s3 G3 w'→NZ L (fV L.cs e.c) told news s3=some o→C9 dst L told o news e.st=true→
     ∃ s4 b4 G4 lb,aB (wb (L.st e.c e.v) (G2.t7 (e.a ++ e.b)) w) s4 G4 w'∧G3.Lk G4∧qU s3 s4∧kX s4 told=some (o,b4)∧qOk told s4=true∧(b4.map (·.1)).Nodup∧aB X (GW dst L told o news e.a e.b e.st) (G2.iE G4 (yz dst (vQ L.pin b4)) lb (Cg news)) w'∧
      (∀ act,bL G st act→bL (G2.iE G4 (yz dst (vQ L.pin b4)) lb (Cg news)) (GW dst L told o news e.a e.b e.st) act):=fun {told o news s3 G3 w'} PY m3 hrn sV=>by
    unfold NZ at hrn;split at hrn
    ·cases hrn
    ·rename_i s4 hs4
     split at hrn
     ·cases hrn
     ·rename_i o' b4 zL
      cases hk:(uQ s4 L.cs && zt (fV L.cs e.c ++ b4) && yl L.cf s4 && yl (news.map fun p=>(p.1,p.2.1)) s4 && qOk told s4 && Fd L.pin b4) with
      |false=>simp [hk] at hrn
      |true=>
       simp only [hk,cond_true,Option.some.injEq] at hrn;subst hrn;simp only [Bool.and_eq_true] at hk;obtain⟨⟨⟨⟨⟨q1,q2⟩,q3⟩,q4⟩,q5⟩,q6⟩:=hk;have hb4:=PY.ix (nT hs4);obtain⟨G4,m4,a4,k4⟩:=nI hs4 m3;have M:=Yi EN hbc.1 hbc.2 zL q1 q2 q3 q4 hb4 sV q6;have hn4:(b4.map (·.1)).Nodup:=by have:=q2;simp only [zt,Bool.and_eq_true] at this;have:=eD this.1;rw [List.map_append,List.nodup_append] at this;exact this.2.1
       have Hw:∀ a k,Dl (e.a ++ C7 L.pin e.b) a=some k→yz dst (vQ L.pin b4) a=none→G4.ψ k=G2.ψ a:=fun a k hka _=>by
        obtain⟨A',gX⟩:=qH hka;rcases List.mem_append.1 gX with gX | gX
        rotate_left
        ·obtain⟨hmb,hpk⟩:=wU.1 gX
         have hl:look (e.a ++ e.b) k=some (some a,A'):=kW Hx (List.mem_append_right _ hmb);obtain⟨B,hB⟩:=QJ (L:=L) (c:=e.c) (v:=e.v) (.inr (wV EN.rv _ _ _ hmb));have h1:=(m4.ap k _ (TA (show eV k (L.st e.c e.v).pin=true from hpk) hB)).2.2;rw [h1];simp only [Gh.t7,hl]
        obtain⟨p,hp,ek,⟨md,t,hsp⟩,uw⟩:=DE EN.rc k _ A' gX;obtain⟨⟨pl,sp⟩,rfl⟩:∃ q,q=p:=⟨p,rfl⟩;simp only at ek hsp uw;subst hsp;cases pl with
        |r i=>have hl:=EN.NF;simp only [yj,Bool.and_eq_true,List.all_eq_true] at hl;have:=hl.2 _ hp;simp at this
        |q i j=>have hl:=EN.NF;simp only [yj,Bool.and_eq_true,List.all_eq_true] at hl;have:=hl.2 _ hp;simp at this
        |l q j=>
         have hq:=UU EN.NF (List.mem_append_left _ hp) rfl;obtain⟨⟨q',n⟩,hqm,rfl⟩:=List.mem_map.1 hq;have bo:=Qd EN.NF hqm;have ho:(L.st e.c e.v).dM q' = some (ph (b8 L.cs e.c) (b8 L.vs e.v) q' 0 n):=
          tB (f:=fun p=>ph (b8 L.cs e.c) (b8 L.vs e.v) p.1 0 p.2) (I9 EN.NF) hqm
         simp only [uQ,Bool.and_eq_true,List.all_eq_true] at q1;have P4:=UI (Ah (v:=e.c) (eD q1.1)) hp;have hjn:j < n:=by
          obtain⟨sl,e1,e2⟩:=oC EN.ob hqm;simp only at e1 e2;simp only [St.at,e1] at uw;cases hj:sl[j]? with
          |none=>rw [hj] at uw;simp at uw
          |some l=>have:=(List.getElem?_eq_some_iff.1 hj).1;omega
         have hjt:(ph (b8 L.cs e.c) (b8 L.vs e.v) q' 0 n)[j]? = some .ur:=yt hjn (by rw [Nat.zero_add];exact P4)
         have h5:=q1.2 _ hp;simp only [HJ,Bool.and_eq_true] at h5;have h6:=h5.1;split at h6
         ·rename_i ls4 e4
          split at h6
          ·rename_i Nc
           obtain⟨arr,elem,u,b1,b2,b3⟩:=Mh zB bo ho P4 hjt;obtain⟨arr',Oh,u',b4',b5,b6⟩:=Uu zB ho hjt P4;rw [b1] at b4';simp only [Option.some.injEq,Obj.cells.injEq] at b4';obtain⟨rfl,_⟩:=b4';rw [b2] at b5;cases b5;obtain⟨_,_,WS,Xc,c1,c2⟩:=m4.bv _ _ _ b3;have aeZ:dY s4.cA q' j=some (.mu (Pl.l q' j).key):=by rw [hb4.2.2.1];exact P4
           obtain⟨ac1,afC,u3,d1,d2,d3⟩:=Uu m4 e4 Nc aeZ;rw [c1] at d1;simp only [Option.some.injEq,Obj.cells.injEq] at d1;obtain⟨rfl,_⟩:=d1;rw [c2] at d2;cases d2;have f1:u=G4.ψ (Pl.l q' j).key:=d3;have f2:u=(G2.t7 (e.a ++ e.b)).ψ (Pl.l q' j).key:=b6;have f3:look (e.a ++ e.b) (Pl.l q' j).key=some (some a,A'):=kW Hx (List.mem_append_left _ (by rw [←ek];exact gX))
           rw [ek,←f1,f2];simp only [Gh.t7,f3]
          ·cases h6
         ·cases h6
       have js:∀ x b,eW (G2.t7 (e.a ++ e.b)) (L.st e.c e.v) x b→∃ x',eW G2 e.st x' b∧((∃ o,x=(false,o)∧x' = (false,o))∨∃ nm a A,x=(true,nm)∧x' = (true,a)∧look (e.a ++ e.b) nm=some (some a,A)):=fun x b hx=>by
        obtain⟨x',h1,h2⟩:=N.pe x b hx;refine⟨x',?_,h2⟩;obtain⟨kd,nn⟩:=x';cases kd with
        |false=>obtain⟨⟨ls,hl⟩,e⟩:=h1;exact⟨⟨ls,by rw [JB EN];exact hl⟩,e⟩
        |true=>obtain⟨⟨A,hA,hs⟩,e⟩:=h1;exact⟨⟨A,by rw [JA EN];exact hA,hs⟩,e⟩
       have m5:=M.ok me js zB m4 Hw;refine⟨s4,b4,G4,_,m4,a4,k4,zL,q5,hn4,m5,fun act ra=>M.ez m4.s0 ?_⟩;refine ra.sub a02 ?_ fun i=>?_<;>rw [EN.st'];rfl
   have I1:∀ s3 G3 w' act,s8 L e.c s3→aB (wb (L.st e.c e.v) (G2.t7 (e.a ++ e.b)) w) s3 G3 w'→bL G3 s3 act→out e.c s3=some x→act.defers = []∧∃ v,(results fn act.tmps).run P w' = .ok v w'∧
     ∃ av st' G',aB X st' G' w'∧(∀ act,bL G st act→bL G' st' act)∧aU G' av v∧K av st' = some r:=fun s3 G3 w' act PY m3 r3 ho=>by
    refine⟨r3.1.trans m3.ds,?_⟩;obtain⟨avs,told,o,news,g0,g1,g3⟩:=h2 _ _ _ ho;rw [g3] at hr;cases sV:C9 dst L told o news e.st with
    |false=>simp [sV] at hr
    |true=>
     simp only [sV,cond_true] at hr;obtain⟨yJ,iy,hav⟩:=JN hE.iw m3 r3 g0;obtain⟨s4,b4,G4,lb,m4,a4,k4,zL,hqk,hn4,m5,rg⟩:=iE (s3:=QE L.pin avs s3) ⟨PY.1,PY.2.1,PY.2.2.1,PY.2.2.2⟩ (m3.V7 rfl rfl rfl rfl rfl rfl) g1 sV;refine⟨_,iy,_,_,_,m5,rg,?_,hr⟩;obtain⟨f1,f2,f3,f4,f5,f6,f7⟩:=Da sV;have hvl:yJ.length=fn.results.toList.length:=by rw [←All2.length hav,DG g0]
     rw [←hvl]
     conv=>arg 3;rw [←SH yJ]
     have hφ4:∀ q tl,(L.st e.c e.v).dM q=some tl→G4.φ q=G2.φ q∧G4.pre q=G2.pre q:=fun q tl hq=>by obtain⟨n,hqm,_⟩:=wT hq;have:=(m4.pin q _ (OB (Qd EN.NF hqm) hq)).2;simp only [Prod.mk.injEq] at this;exact⟨this.1.symm,this.2.1.symm⟩
     have adC:∀ p∈news,(L.st e.c e.v).dM p.2.2=none:=fun p hp=>by
      cases ht:(L.st e.c e.v).dM p.2.2 with
      |none=>rfl
      |some tl=>obtain⟨n,hqm,_⟩:=wT ht;obtain⟨ls,Nc,_⟩:=oC (Hl EN) hqm;rw [(f3 p hp).1] at Nc;cases Nc
     have aaW:∀{pl:Pl} {sp:mq},(pl,sp)∈told→∀ q off,sp = .lit (.mW q off)→(∃ tl,(L.st e.c e.v).dM q=some tl)∨q∈news.map (·.1):=fun {pl sp} e1 q off hs=>
      (f7 _ e1 q off hs).imp (fun hq=>uS (f:=fun p=>ph (b8 L.cs e.c) (b8 L.vs e.v) p.1 0 p.2) hq) id
     have aa0:∀ i,(eV (Pl.r i).key L.pin=false∨(s4.t6 i).qls≠none)→aU G4 (s4.t6 i) (yJ.getD (i - 500000) undef):=fun i hpi=>by
      unfold St.t6;cases hs:s4.ii i with
      |none=>trivial
      |some v=>
       have hsv:s4.t6 i=v:=by unfold St.t6;rw [hs]
       rw [k4.ii] at hs;have Bk:look (oV 500000 avs) i=some v:=by
        have pY:s3.jh = []:=by
         rw [PY.2.1];have hl:=EN.NF;simp only [yj,Bool.and_eq_true,List.all_eq_true] at hl;have key:∀{cs:kN} {c:PV cs},(∀ p∈cs,(match p.1 with | .l _ _=>true | _=>false)=true)→lA cs c = []:=by
          intro cs;induction cs with
          |nil=>intro c _;rfl
          |cons p r ih=>
           intro c h;obtain⟨pl,sp⟩:=p;cases pl with
           |r i=>have:=h _ (List.mem_cons_self ..);simp at this
           |q i j=>have:=h _ (List.mem_cons_self ..);simp at this
           |l o j=>exact ih fun p hp=>h p (List.mem_cons_of_mem _ hp)
         exact key hl.2
        have:(QE L.pin avs s3).ii i=(match look (oV 500000 avs ++ Ed L.pin s3) i with | some v=>some v | none=>look s3.jh i):=rfl
        rw [this,pY,io] at hs;cases hq:look (oV 500000 avs) i with
        |some u=>rw [hq] at hs;exact hs
        |none=>
         rw [hq] at hs;simp only at hs;cases hp:look (Ed L.pin s3) i with
         |none=>rw [hp] at hs;cases hs
         |some u=>
          rcases hpi with hpi | hpi
          ·rw [QB hpi] at hp;cases hp
          ·rw [hp] at hs
           cases hs;rw [hsv] at hpi;exact absurd (SA hp) hpi
       obtain⟨j,u,q1,q2,q3⟩:=CW hav Bk;have:yJ.getD (i - 500000) undef=u:=by rw [q1,Nat.add_sub_cancel_left,List.getD_eq_getElem?_getD,q2];rfl
       rw [this];exact q3.sub a4
     have ade:=Jn zL (dst:=dst) (news:=news) (pin:=L.pin) (ba:=e.b);refine aai (fun i av hl=>?_) _;unfold Rj at hl;rw [io] at hl;cases hlr:look (JM dst L.pin news told o) i with
     |some av'=>
      rw [hlr] at hl;cases hl;obtain⟨sp,x',bp,e1,e2,e3,rfl⟩:=ade.2.1 hlr;cases hpi:eV (Pl.r i).key L.pin with
      |true=>exact⟨.inl ⟨_,rfl⟩,by unfold yy;rw [hpi];trivial⟩
      |false=>exact⟨.inl ⟨_,rfl⟩,El (t:=L.st e.c e.v) (p:=.r i) e2 e3 hn4 ⟨_,_,m4⟩ hφ4 f5 adC (aaW e1) (aa0 i (.inl hpi))⟩
     |none=>
      rw [hlr] at hl;simp only at hl;have gX:=dV hl;obtain⟨⟨k,n⟩,hk1,hk2⟩:=List.mem_map.1 gX;simp only [Prod.mk.injEq] at hk2;obtain⟨rfl,rfl⟩:=hk2;refine⟨.inr ⟨_,rfl⟩,?_⟩;have hq4:=List.all_eq_true.1 hqk _ hk1;split at hq4
      ·rename_i ls Nc
       obtain⟨cs,c1,c2⟩:=YL m4 Nc (aa0 k (.inr (by rw [Nc];exact fun h=>by cases h)))
       refine⟨cs,c1,SF (R:=aY G4) (sl:=ls) (fun j a lf u ha P4 hu=>?_) n 0 ls cs (Nat.eq_of_beq_eq_true hq4) (fun k=>by rw [Nat.zero_add]) c2⟩
       obtain⟨sp,x',bp,e1,e2,e3,rfl⟩:=ade.2.2.1 P4;exact El (t:=L.st e.c e.v) (p:=.q k j) e2 e3 hn4 ⟨_,_,m4⟩ hφ4 f5 adC (aaW e1) (by
        simp only [St.at,Nc,ha];exact hu)
      ·cases hq4
   have ab1:∀ av u s3 G3 w',s8 L e.c s3→aB (wb (L.st e.c e.v) (G2.t7 (e.a ++ e.b)) w) s3 G3 w'→aU G3 av u→pout e.c av s3=some x→∃ av st' G',aB X st' G' w'∧aU G' av u∧KP av st' = some r:=fun av u s3 G3 w' PY m3 hv ho=>by
    obtain⟨T,ls,rfl,hd,g1,g2⟩:=h3 _ _ _ _ ho;rw [g2] at hr;obtain⟨s4,b4,G4,lb,m4,a4,k4,zL,hqk,hn4,m5,rg⟩:=iE PY m3 g1 (by simp [C9,rq,nR])
    refine⟨_,_,_,m5,?_,hr⟩;obtain⟨x',cs,e1,e2,e3⟩:=hv;exact⟨x',cs,e1,e2,aaK (G:=G4) (G':=G2.iE G4 (yz dst (vQ L.pin b4)) lb (Cg [])) rfl hd (Gz a4 e3)⟩
   refine⟨Am _ _,calls_of_wp hf hb ?_⟩;have hx1:=(O5 hE.PH hE.aa9 body (K':=fun e' s=>gd L e.c s (match e' with | .normal=>out e.c s | .ret=>out e.c s | _=>none))
    (KP':=fun av s=>gd L e.c s (pout e.c av s)) (fun e s hs=>(IX ⟨hs.1.symm,hs.2.1,hs.2.2.1,hs.2.2.2⟩).symm) (fun av s hs=>(IX ⟨hs.1.symm,hs.2.1,hs.2.2.1,hs.2.2.2⟩).symm)).symm.trans hx1
   refine zg hE AX body hL hx1 hmi wB (fun e s G3 w' act m3 r3 hk=>?_) (fun av v s G3 w' act m3 r3 hv hk=>?_)
   ·obtain⟨PY,hk⟩:=D0 hk
    cases e with
    |normal=>exact I1 s G3 w' act PY m3 r3 hk
    |ret=>exact I1 s G3 w' act PY m3 r3 hk
    |_=>cases hk
   ·obtain⟨PY,hk⟩:=D0 hk
    obtain⟨av',st',G',q1,q2,q3⟩:=ab1 av v s G3 w' PY m3 hv hk;exact⟨r3.trans m3.ds,_,rfl,av',st',G',q1,q2,q3⟩
end
end Go.Fx
namespace Go.Fx
def Vv:TD→TypeDesc→Bool
 |.int k,.int k'=>decide (k=k')
 |.bool,.bool=>true
 |.str,.string=>true
 |.slice e,.slice e'=>Nat.beq e e'
 |.struct fs,.struct nP=>decide (fs=nP.toList.map fun f=>(f.offset,f.type))
 |.mW e,.pointer e'=>Nat.beq e e'
 |.arr n e,.array n' e'=>Nat.beq n n' && Nat.beq e e'
 |.mp k v,.map k' v'=>Nat.beq k k' && Nat.beq v v'
 |.Yx,d=>!d.isRow && (match d with | .int _=>false | .string=>false | .slice _=>false | _=>true)
 |_,_=>false
theorem Zf{x:TD}{d:TypeDesc}(h:Vv x d=true):yD x d:=by
 cases x<;>cases d<;>simp_all [Vv,yD]
 all_goals first | exact Nat.eq_of_beq_eq_true h | exact⟨Nat.eq_of_beq_eq_true h.1,Nat.eq_of_beq_eq_true h.2⟩ | skip
def adU:Kd→Kd→Bool
 |.int k,.int k'=>decide (k=k')
 |.bool,.bool=>true
 |.str,.str=>true
 |_,_=>false
def UQ:List Kd→List Kd→Bool
 |[],[]=>true
 |a :: r,b :: s=>adU a b && UQ r s
 |_,_=>false
theorem R0:∀{a b:List Kd},UQ a b=true→a=b
 |[],[],_=>rfl
 |x :: r,y :: s,h=>by simp only [UQ,Bool.and_eq_true] at h;rw [R0 h.2];have:=h.1;cases x<;>cases y<;>simp_all [adU]
 |[],_ :: _,h=>by cases h
 |_ :: _,[],h=>by cases h
def ack(P:Program)(ti:TI):Bool:=
 match ti.iF with
 |.mp k v=>(match P.underlying k,P.underlying v,(P.info? v).bind (·.zero) with
  |some .string,some (.int .i64),some (.int .i64 n)=>decide (n=0)
  |_,_,_=>false)
 |_=>true
theorem ZY{P:Program}{ti:TI}(h:ack P ti=true):∀ k v,ti.iF = .mp k v→P.underlying k=some .string∧P.underlying v=some (.int .i64)∧∃ j,P.info? v=some j∧j.zero=some (.int .i64 0):=fun k v hd=>by
 unfold ack at h;rw [hd] at h;simp only at h;split at h
 ·rename_i n h1 h2 h3
  obtain⟨j,h4,h5⟩:=Option.bind_eq_some_iff.1 h3;have:n=0:=by simpa using h
  exact⟨h1,h2,j,h4,by rw [h5,this]⟩
 ·cases h
def Zy(P:Program)(t:TypeId)(ti:TI):Bool:=
 ack P ti &&
 match ti.iF.agg,ti.ty.bind I8 with
 |true,some ks=>(match B8 P 6 t with | some l=>UQ l ks | none=>false)
 |_,_=>true
theorem aep{P:Program}{t:TypeId}{i:TypeInfo}{d:TypeDesc}{ti:TI}(h1:P.info? t=some i)(h2:P.underlying t=some d)(h3:i.zero.isSome=true)(h4:(i.zero.getD undef).cells.toList=ti.zero)
  (h5:(Vv ti.iF d && Nat.beq i.size ti.size && Nat.beq i.bytes ti.bytes && (ti.iF.agg || Nat.beq ti.size 1) && Nat.beq ti.zero.length ti.size)=true) (h6:Zy P t ti=true):zr P t ti:=by
 simp only [Bool.and_eq_true,Bool.or_eq_true] at h5;obtain⟨⟨⟨⟨a,b⟩,c⟩,e⟩,f⟩:=h5;refine⟨i,d,i.zero.getD undef,h1,h2,Nat.eq_of_beq_eq_true b,Nat.eq_of_beq_eq_true c,?_,h4,Zf a,fun hn=>?_,Nat.eq_of_beq_eq_true f,fun ks h7 h8=>?_,ZY (by unfold Zy at h6;simp only [Bool.and_eq_true] at h6;exact h6.1)⟩
 ·cases hz:i.zero with
  |none=>rw [hz] at h3;cases h3
  |some z=>rfl
 ·rcases e with e | e
  ·rw [hn] at e;cases e
  ·exact Nat.eq_of_beq_eq_true e
 ·unfold Zy at h6
  simp only [Bool.and_eq_true] at h6
  replace h6:=h6.2
  rw [h7,h8] at h6;simp only at h6;split at h6
  ·rename_i l hl;rw [hl,R0 h6]
  ·cases h6
def Zp(P:Program):List (Nat×TI)→Prop
 |[]=>True
 |p :: r=>zr P p.1 p.2∧Zp P r
theorem Vu{P:Program}:∀{l:List (Nat×TI)},Zp P l→iD P (look l)
 |[],_,t,ti,h=>by cases h
 |p :: r,hl,t,ti,h=>by
  obtain⟨k,v⟩:=p;rw [aw] at h;by_cases e:k=t
  ·subst e;simp only [if_true,Option.some.injEq] at h;subst h;exact hl.1
  ·simp only [e,if_false] at h;exact Vu hl.2 t ti h
def R8{α:Type 1}:List (Nat×α)→Nat→Option α
 |[],_=>none
 |(k,v) :: r,i=>bif Nat.beq k i then some v else R8 r i
theorem AG{α:Type 1}:∀{l:List (Nat×α)} {k:Nat} {v:α},R8 l k=some v→(k,v)∈l
 |(k',v') :: r,k,v,h=>by
  simp only [R8] at h;cases hb:Nat.beq k' k with
  |true=>simp only [hb,cond_true,Option.some.injEq] at h;obtain rfl:=Nat.eq_of_beq_eq_true hb;subst h;exact List.mem_cons_self ..
  |false=>simp only [hb,cond_false] at h;exact List.mem_cons_of_mem _ (AG h)
structure l8(P:Program)(gt:Nat→Option GA)(f:FuncId)(s:iX):Prop where
 ok:z7 P gt f s
 det:oT s
 PH:mR s
def Ra(P:Program)(gt:Nat→Option GA):List (Nat×iX)→Prop
 |[]=>True
 |p :: r=>l8 P gt p.1 p.2∧Ra P gt r
theorem Ra.mem{P:Program}{gt:Nat→Option GA}:∀{l:List (Nat×iX)},Ra P gt l→∀ p∈l,l8 P gt p.1 p.2
 |[],_,_,h=>by cases h
 |q :: r,hl,p,h=>by
  rcases List.mem_cons.1 h with rfl | h
  ·exact hl.1
  ·exact hl.2.mem p h
def Q0:List (Nat×lh)→Prop
 |[]=>True
 |p :: r=>zW p.2∧Q0 r
theorem Q0.mem:∀{l:List (Nat×lh)},Q0 l→∀ p∈l,zW p.2
 |[],_,_,h=>by cases h
 |q :: r,hl,p,h=>by
  rcases List.mem_cons.1 h with rfl | h
  ·exact hl.1
  ·exact hl.2.mem p h
def aaO(gt:Nat→Option GA)(iw:List (Nat×TI))(aam:List (Nat×iX))(nY:List (Nat×lh))(on:List (Nat×Nat)):sd:=
 ⟨gt,look iw,R8 aam,R8 nY,fun n=>match look on n with | some o=>o | none=>n + 10000⟩
theorem abH{P:Program}{gt:Nat→Option GA}{iw:List (Nat×TI)}{aam:List (Nat×iX)}{nY:List (Nat×lh)}{on:List (Nat×Nat)}(Xz:P.follows .mixedOrders=true)(ht:Zp P iw)(hs:Ra P gt aam)(hl:Q0 nY):EX P (aaO gt iw aam nY on):=
 ⟨Vu ht,Xz,fun f s h=>(hs.mem _ (AG h)).ok,fun f s h=>(hs.mem _ (AG h)).det,fun f s h=>(hs.mem _ (AG h)).PH,fun i L h=>hl.mem _ (AG h)⟩
def S3:kN→List Ty
 |[]=>[]
 |(_,.d t) :: r=>t :: S3 r
 |(_,.h _ t) :: r=>.slice t :: S3 r
 |(_,.any) :: r=>S3 r
 |(_,.lit _) :: r=>S3 r
def Mu:(ps:kN)→PV ps→DL (S3 ps)
 |[],_=>()
 |(_,.d _) :: r,v=>(v.1,Mu r v.2)
 |(_,.h _ _) :: r,v=>(v.1,Mu r v.2)
 |(_,.any) :: r,v=>Mu r v.2
 |(_,.lit _) :: r,v=>Mu r v.2
def toPV:(ps:kN)→DL (S3 ps)→PV ps
 |[],_=>()
 |(_,.d _) :: r,v=>(v.1,toPV r v.2)
 |(_,.h _ _) :: r,v=>(v.1,toPV r v.2)
 |(_,.any) :: r,v=>((),toPV r v)
 |(_,.lit _) :: r,v=>((),toPV r v)
theorem Pn:∀{ps:kN} {v:PV ps},toPV ps (Mu ps v)=v
 |[],_=>rfl
 |(_,.d _) :: r,v=>by show(v.1,toPV r (Mu r v.2))=v;rw [Pn]
 |(_,.h _ _) :: r,v=>by show(v.1,toPV r (Mu r v.2))=v;rw [Pn]
 |(_,.any) :: r,v=>by show((),toPV r (Mu r v.2))=v;rw [Pn]
 |(_,.lit _) :: r,v=>by show((),toPV r (Mu r v.2))=v;rw [Pn]
def Oq:(ts:List Ty)→List ag→Option (DL ts)
 |[],[]=>some ()
 |t :: ts,.eZ u d :: r=>(match vb u t d,Oq ts r with | some x,some y=>some (x,y) | _,_=>none)
 |_,_=>none
def W4:(ts:List Ty)→DL ts→List ag
 |[],_=>[]
 |t :: r,d=>.eZ t d.1 :: W4 r d.2
theorem Hu:∀{ts:List Ty} {ls:List ag} {d:DL ts},Oq ts ls=some d→vK ls=true∧W4 ts d=ls
 |[],[],_,_=>⟨rfl,rfl⟩
 |t :: ts,.eZ u x :: r,d,h=>by
  simp only [Oq] at h;split at h
  ·rename_i x' y h1 h2
   simp only [Option.some.injEq] at h;subst h;obtain⟨e1,e2⟩:=Hu h2;obtain⟨rfl,rfl⟩:=lu h1;exact⟨e1,by simp [W4,e2]⟩
  ·cases h
 |[],_ :: _,_,h=>by cases h
 |_ :: _,[],_,h=>by cases h
 |_ :: _,.any :: _,_,h=>by cases h
 |_ :: _,.uW :: _,_,h=>by cases h
 |_ :: _,.ur :: _,_,h=>by cases h
 |_ :: _,.nil :: _,_,h=>by cases h
 |_ :: _,.Jg :: _,_,h=>by cases h
 |_ :: _,.mu _ :: _,_,h=>by cases h
 |_ :: _,.mW _ _ :: _,_,h=>by cases h
 |_ :: _,.C6 _ _ _ _ :: _,_,h=>by cases h
 |_ :: _,.N0 _ _ _ :: _,_,h=>by cases h
 |_ :: _,.fn _ :: _,_,h=>by cases h
 |_ :: _,.ga _ _ :: _,_,h=>by cases h
inductive VO where
 |ret (told:kN) (news:List (Nat×Nat×Nat)) | zM (T:TypeId) (ts:List Ty)
def VO.tys:VO→List Ty
 |.ret told _=>S3 told
 |.zM _ ts=>ts
@[reducible] def WO:List VO→Type
 |[]=>Empty
 |[v]=>DL v.tys
 |v :: u :: r=>DL v.tys⊕WO (u :: r)
def VO.out(L:pW)(al:AL)(s:St):(v:VO)→Option (DL v.tys)
 |.ret told news=>(NZ L al told news s).map (Mu told)
 |.zM _ _=>none
def VO.pout(L:pW)(al:AL)(av:ae)(s:St):(v:VO)→Option (DL v.tys)
 |.ret _ _=>none
 |.zM T ts=>(match av with
  |.zC T' ls=>(bif Nat.beq T T' then(match NZ L al [] [] s with | some _=>Oq ts ls | none=>none) else none)
  |_=>none)
def VO.dk(res:List Nat){R:Type}:(v:VO)→DL v.tys→((told:kN)→PV told→List (Nat×Nat×Nat)→List Nat→Option R)→(TypeId→List ag→Option R)→Option R
 |.ret told news,d,f,_=>f told (toPV told d) news res
 |.zM T ts,d,_,g=>g T (W4 ts d)
def Z5(L:pW)(al:AL)(s:St):(vs:List VO)→Option (WO vs)
 |[]=>none
 |[v]=>v.out L al s
 |v :: u :: r=>(match v.out L al s with | some o=>some (.inl o) | none=>(Z5 L al s (u :: r)).map .inr)
def Vd(L:pW)(al:AL)(av:ae)(s:St):(vs:List VO)→Option (WO vs)
 |[]=>none
 |[v]=>v.pout L al av s
 |v :: u :: r=>(match v.pout L al av s with | some o=>some (.inl o) | none=>(Vd L al av s (u :: r)).map .inr)
def AW(res:List Nat):(vs:List VO)→DkO (WO vs)
 |[]=>fun _ x _ _=>x.elim
 |[v]=>fun _ x f g=>v.dk res x f g
 |v :: u :: r=>fun R x f g=>(match x with | .inl o=>v.dk res o f g | .inr y=>AW res (u :: r) R y f g)
theorem Zj(res:List Nat)(v:VO)(d:DL v.tys):(∃ told o news afr,∀(R:Type) (f:(told:kN)→PV told→List (Nat×Nat×Nat)→List Nat→Option R) g,v.dk res d f g=f told o news afr)∨
  ∃ T ls,∀(R:Type) (f:(told:kN)→PV told→List (Nat×Nat×Nat)→List Nat→Option R) g,v.dk res d f g=g T ls:=by
 cases v with
 |ret told news=>exact .inl ⟨_,_,_,_,fun _ _ _=>rfl⟩
 |zM T ts=>exact .inr ⟨_,_,fun _ _ _=>rfl⟩
theorem LI(res:List Nat):∀(vs:List VO),abq (AW res vs)
 |[],x=>x.elim
 |[v],x=>Zj res v x
 |v :: u :: r,.inl d=>Zj res v d
 |v :: u :: r,.inr y=>LI res (u :: r) y
theorem Vz{L:pW}{al:AL}{s:St}{res:List Nat}{v:VO}{x:DL v.tys}(h:v.out L al s=some x):
  ∃ told o news,NZ L al told news s=some o∧∀(R:Type) (f:(told:kN)→PV told→List (Nat×Nat×Nat)→List Nat→Option R) g,v.dk res x f g=f told o news res:=by
 cases v with
 |ret told news=>obtain⟨o,h1,rfl⟩:=Option.map_eq_some_iff.1 h;exact⟨told,o,news,h1,fun R f g=>by simp only [VO.dk,Pn]⟩
 |zM T ts=>cases h
theorem U5{L:pW}{al:AL}{s:St}{res:List Nat}:∀{vs:List VO} {x:WO vs},Z5 L al s vs=some x→
  ∃ told o news,NZ L al told news s=some o∧∀(R:Type) (f:(told:kN)→PV told→List (Nat×Nat×Nat)→List Nat→Option R) g,AW res vs R x f g=f told o news res
 |[],x,h=>by cases h
 |[v],x,h=>Vz h
 |v :: u :: r,x,h=>by
  simp only [Z5] at h;split at h
  ·rename_i o ho
   simp only [Option.some.injEq] at h;subst h;exact Vz ho
  ·obtain⟨y,h1,rfl⟩:=Option.map_eq_some_iff.1 h
   exact U5 (vs:=u :: r) h1
theorem S7{L:pW}{al:AL}{s:St}{av:ae}{res:List Nat}{v:VO}{x:DL v.tys}(h:v.pout L al av s=some x):
  ∃ T ls,av = .zC T ls∧vK ls=true∧NZ L al [] [] s=some ()∧∀(R:Type) (f:(told:kN)→PV told→List (Nat×Nat×Nat)→List Nat→Option R) g,v.dk res x f g=g T ls:=by
 cases v with
 |ret told news=>cases h
 |zM T ts=>
  simp only [VO.pout] at h;split at h
  ·rename_i T' ls
   cases hb:Nat.beq T T' with
   |false=>simp [hb] at h
   |true=>
    simp only [hb,cond_true] at h;obtain rfl:=Nat.eq_of_beq_eq_true hb;split at h
    ·rename_i u hu
     obtain⟨e1,e2⟩:=Hu h;exact⟨T,ls,rfl,e1,hu,fun R f g=>by simp only [VO.dk,e2]⟩
    ·cases h
  ·cases h
theorem SB{L:pW}{al:AL}{s:St}{av:ae}{res:List Nat}:∀{vs:List VO} {x:WO vs},Vd L al av s vs=some x→
  ∃ T ls,av = .zC T ls∧vK ls=true∧NZ L al [] [] s=some ()∧∀(R:Type) (f:(told:kN)→PV told→List (Nat×Nat×Nat)→List Nat→Option R) g,AW res vs R x f g=g T ls
 |[],x,h=>by cases h
 |[v],x,h=>S7 h
 |v :: u :: r,x,h=>by
  simp only [Vd] at h;split at h
  ·rename_i o ho
   simp only [Option.some.injEq] at h;subst h;exact S7 ho
  ·obtain⟨y,h1,rfl⟩:=Option.map_eq_some_iff.1 h
   exact SB (vs:=u :: r) h1
def qV(f:Func):Code:=f.body.getD .skip
def kO1(E:sd)(rv:List ResultVar)(L:pW)(vs:List VO)(c:PV L.cs)(s:St):Option (WO vs):=
 match KG E s rv with
 |some avs=>Z5 L (fV L.cs c) (QE L.pin avs s) vs
 |none=>none
def kO(E:sd)(rv:List ResultVar)(L:pW)(vs:List VO)(c:PV L.cs)(e:Exit)(s:St):Option (WO vs):=
 match e with
 |.normal=>kO1 E rv L vs c s
 |.ret=>kO1 E rv L vs c s
 |_=>none
def kP(L:pW)(vs:List VO)(c:PV L.cs)(av:ae)(s:St):Option (WO vs):=Vd L (fV L.cs c) av s vs
theorem Xn{P:Program}{E:sd}(hE:EX P E){f:FuncId}{fn:Func}{L:pW}{vs:List VO}{res:List Nat}{F:PV L.cs→PV L.vs→Option (WO vs)}
  (hf:P.funcs[f]? = some fn) (Am:∀ args w,(callFunc f args).run P w = .ok (.enter f args) w) (hb:fn.body.isSome=true) (hL:rV P E (qV fn)) (hn:Nat.beq fn.ntmps L.n=true) (Ap:H8 fn.results.toList.length=res)
  (h:∀ c v,F c v=so E (qV fn) (L.st c v) (kO E fn.results.toList L vs c) (kP L vs c)):l8 P E.gt f (mI L F (AW res vs)):=by
 have Hv:fn.body=some (qV fn):=by
  unfold qV;cases hh:fn.body with
  |none=>rw [hh] at hb;cases hb
  |some b=>rfl
 refine⟨abL hE hf Hv Am hL (Nat.eq_of_beq_eq_true hn) (out:=fun c s=>kO1 E fn.results.toList L vs c s) (pout:=kP L vs) (fun c v x hx=>?_) (fun c s x hx=>?_) (fun c av s x hx=>SB hx),SP _ _ _ (LI res vs),O8 _ _ _ (LI res vs)⟩
 ·rw [←hx,h]
  rfl
 ·simp only [kO1] at hx
  split at hx
  ·rename_i avs hav
   obtain⟨told,o,news,g1,g2⟩:=U5 (res:=res) hx;exact⟨avs,told,o,news,hav,g1,by rw [Ap];exact g2⟩
  ·cases hx
theorem dh{P:Program}{gt:Nat→Option GA}{f:FuncId}{L:pW}{vs:List VO}{res:List Nat}{F:PV L.cs→PV L.vs→Option (WO vs)}(h:∀ c v,F c v=none):l8 P gt f (mI L F (AW res vs)):=by
 refine⟨fun {R r X st G w dst args us K KP} hr _ _ _=>?_,SP _ _ _ (LI res vs),O8 _ _ _ (LI res vs)⟩;simp only [mI] at hr;split at hr
 ·cases hr
 ·rw [h] at hr
  rename_i e _;cases hb:(Ut L e.st && PI L.pin e.b e.st)<;>simp [hb] at hr
def kD(E:sd)(rv:List ResultVar)(rs:List Ty)(e:Exit)(s:St):Option (DL rs):=
 match e with
 |.normal=>NY E rv rs s
 |.ret=>NY E rv rs s
 |_=>none
theorem VW{P:Program}{E:sd}(hE:EX P E){f:FuncId}{fn:Func}{ts rs:List Ty}{F:DL ts→Option (DL rs)}
  (hf:P.funcs[f]? = some fn) (Am:∀ args w,(callFunc f args).run P w = .ok (.enter f args) w) (hb:fn.body.isSome=true) (hL:rV P E (qV fn)) (hn:Nat.ble ts.length fn.ntmps=true)
  (h:∀ d,F d=so E (qV fn) (stD fn.ntmps ts d) (kD E fn.results.toList rs) (fun _ _=>none)):l8 P E.gt f (AP ts rs F id):=by
 have Hv:fn.body=some (qV fn):=by
  unfold qV;cases hh:fn.body with
  |none=>rw [hh] at hb;cases hb
  |some b=>rfl
 refine⟨ZE hE (pack:=id) (fun r=>rfl) hf Hv Am hL (Nat.le_of_ble_eq_true hn) fun d=>?_,AQ _ _ _ _,wW _ _ _ _⟩;rw [h]
 congr 1
 funext e s
 cases e<;>simp [kD]
theorem abM{P:Program}{gt:Nat→Option GA}{f:FuncId}{ts rs:List Ty}{F:DL ts→Option (DL rs)}(h:∀ d,F d=none):l8 P gt f (AP ts rs F id):=by
 refine⟨fun {R r X st G w dst args us K KP} hr _ _ _=>?_,AQ _ _ _ _,wW _ _ _ _⟩;simp only [AP] at hr;split at hr
 ·split at hr
  ·rw [h] at hr;cases hr
  ·cases hr
 ·cases hr
inductive VL where
 |ex (e:Exit) (told:kN) | zM (T:TypeId) (ts:List Ty)
def ZA:Exit→Exit→Bool
 |.normal,.normal=>true
 |.ret,.ret=>true
 |.exit i,.exit j=>Nat.beq i j
 |_,_=>false
theorem ZB{e e':Exit}(h:ZA e e' = true):e=e':=by cases e<;>cases e'<;>simp_all [ZA]
def VL.tys:VL→List Ty
 |.ex _ told=>S3 told
 |.zM _ ts=>ts
@[reducible] def WL:List VL→Type
 |[]=>Empty
 |[v]=>DL v.tys
 |v :: u :: r=>DL v.tys⊕WL (u :: r)
def VL.out(L:pW)(al:AL)(e:Exit)(s:St):(v:VL)→Option (DL v.tys)
 |.ex e' told=>bif ZA e e' then(rnd (L.with told) al s).map (Mu told) else none
 |.zM _ _=>none
def VL.pout(L:pW)(al:AL)(av:ae)(s:St):(v:VL)→Option (DL v.tys)
 |.ex _ _=>none
 |.zM T ts=>(match av with
  |.zC T' ls=>(bif Nat.beq T T' then(match rnd (L.with []) al s with | some _=>Oq ts ls | none=>none) else none)
  |_=>none)
def VL.dk{R:Type}:(v:VL)→DL v.tys→((e:Exit)→(vs:kN)→PV vs→Option R)→(TypeId→List ag→Option R)→Option R
 |.ex e told,d,f,_=>f e told (toPV told d)
 |.zM T ts,d,_,g=>g T (W4 ts d)
def Wf(L:pW)(al:AL)(e:Exit)(s:St):(vs:List VL)→Option (WL vs)
 |[]=>none
 |[v]=>v.out L al e s
 |v :: u :: r=>(match v.out L al e s with | some o=>some (.inl o) | none=>(Wf L al e s (u :: r)).map .inr)
def Vc(L:pW)(al:AL)(av:ae)(s:St):(vs:List VL)→Option (WL vs)
 |[]=>none
 |[v]=>v.pout L al av s
 |v :: u :: r=>(match v.pout L al av s with | some o=>some (.inl o) | none=>(Vc L al av s (u :: r)).map .inr)
def dkL:(vs:List VL)→Dk (WL vs)
 |[]=>fun x _ _=>x.elim
 |[v]=>fun x f g=>v.dk x f g
 |v :: u :: r=>fun x f g=>(match x with | .inl o=>v.dk o f g | .inr y=>dkL (u :: r) y f g)
theorem S6{L:pW}{al:AL}{e:Exit}{s:St}{v:VL}{x:DL v.tys}(h:v.out L al e s=some x):
  ∃ told o,rnd (L.with told) al s=some o∧∀(R:Type) (f:(e:Exit)→(vs:kN)→PV vs→Option R) g,v.dk x f g=f e told o:=by
 cases v with
 |ex e' told=>
  simp only [VL.out] at h;cases hb:ZA e e' with
  |false=>simp [hb] at h
  |true=>simp only [hb,cond_true] at h;obtain rfl:=ZB hb;obtain⟨o,h1,rfl⟩:=Option.map_eq_some_iff.1 h;exact⟨told,o,h1,fun R f g=>by simp only [VL.dk,Pn]⟩
 |zM T ts=>cases h
theorem Qy{L:pW}{al:AL}{e:Exit}{s:St}:∀{vs:List VL} {x:WL vs},Wf L al e s vs=some x→
  ∃ told o,rnd (L.with told) al s=some o∧∀(R:Type) (f:(e:Exit)→(vs:kN)→PV vs→Option R) g,dkL vs (R:=R) x f g=f e told o
 |[],x,h=>by cases h
 |[v],x,h=>S6 h
 |v :: u :: r,x,h=>by
  simp only [Wf] at h;split at h
  ·rename_i o ho
   simp only [Option.some.injEq] at h;subst h;exact S6 ho
  ·obtain⟨y,h1,rfl⟩:=Option.map_eq_some_iff.1 h
   exact Qy (vs:=u :: r) h1
theorem Pp{L:pW}{al:AL}{s:St}{av:ae}{v:VL}{x:DL v.tys}(h:v.pout L al av s=some x):
  ∃ T ls,av = .zC T ls∧vK ls=true∧rnd (L.with []) al s=some ()∧∀(R:Type) (f:(e:Exit)→(vs:kN)→PV vs→Option R) g,v.dk x f g=g T ls:=by
 cases v with
 |ex e' told=>cases h
 |zM T ts=>
  simp only [VL.pout] at h;split at h
  ·rename_i T' ls
   cases hb:Nat.beq T T' with
   |false=>simp [hb] at h
   |true=>
    simp only [hb,cond_true] at h;obtain rfl:=Nat.eq_of_beq_eq_true hb;split at h
    ·rename_i u hu
     obtain⟨e1,e2⟩:=Hu h;exact⟨T,ls,rfl,e1,hu,fun R f g=>by simp only [VL.dk,e2]⟩
    ·cases h
  ·cases h
theorem MM{L:pW}{al:AL}{s:St}{av:ae}:∀{vs:List VL} {x:WL vs},Vc L al av s vs=some x→
  ∃ T ls,av = .zC T ls∧vK ls=true∧rnd (L.with []) al s=some ()∧∀(R:Type) (f:(e:Exit)→(vs:kN)→PV vs→Option R) g,dkL vs (R:=R) x f g=g T ls
 |[],x,h=>by cases h
 |[v],x,h=>Pp h
 |v :: u :: r,x,h=>by
  simp only [Vc] at h;split at h
  ·rename_i o ho
   simp only [Option.some.injEq] at h;subst h;exact Pp ho
  ·obtain⟨y,h1,rfl⟩:=Option.map_eq_some_iff.1 h
   exact MM (vs:=u :: r) h1
def kL(L:pW)(vs:List VL)(c:PV L.cs)(l:PV L.vs→Option (WL vs))(e:Exit)(s:St):Option (WL vs):=
 match e with
 |.normal=>(rnd L (fV L.cs c) s).bind l
 |e=>Wf L (fV L.cs c) e s vs
def kLP(L:pW)(vs:List VL)(c:PV L.cs)(av:ae)(s:St):Option (WL vs):=Vc L (fV L.cs c) av s vs
def kR(L:pW)(vs:List VL)(c:PV L.cs)(s:St):Option (WL vs):=Wf L (fV L.cs c) .normal s vs
noncomputable def acg(id:Nat)(c:Code):Option Code:=
 Code.rec (motive:=fun _=>Option Code) none (fun _ _ _=>none)
  (fun _ _ x y=>match x with | some c=>some c | none=>y) (fun _ _ _ x y=>match x with | some c=>some c | none=>y)
  (fun i b x=>bif Nat.beq i id then(match b with | .loop c=>some c | _=>x) else x) (fun _ x=>x) (fun _ _ _ _ x y=>match x with | some c=>some c | none=>y)
  (fun _=>none) (fun _ x=>x) (fun _=>none) (fun _=>none) none (fun _=>none) c
noncomputable def Ds(f:Func)(id:Nat):Code:=(acg id (qV f)).getD .skip
noncomputable def ad3(id:Nat)(c:Code):Option (Array Oper):=
 Code.rec (motive:=fun _=>Option (Array Oper)) none (fun i ops d=>bif Nat.beq i id then some ops else none)
  (fun _ _ x y=>match x with | some c=>some c | none=>y) (fun _ _ _ x y=>match x with | some c=>some c | none=>y)
  (fun i b x=>x) (fun _ x=>x) (fun _ _ _ _ x y=>match x with | some c=>some c | none=>y)
  (fun _=>none) (fun _ x=>x) (fun _=>none) (fun _=>none) none (fun _=>none) c
noncomputable def qk(f:Func)(id:Nat):Array Oper:=(ad3 id (qV f)).getD #[]
noncomputable def ac3(f:Func)(id:Nat):Code:=.block id (.loop (Ds f id))
noncomputable def ad2(f:Func)(id:Nat):Code:=.region id (qk f id) true
def WB(P:Program)(gt:Nat→Option GA):List (Code×lh)→Prop
 |[]=>True
 |p :: r=>uo P gt p.1 p.2∧WB P gt r
theorem vd{P:Program}{E:sd}{c:Code}{l:List (Code×lh)}(e:xv E c=l)(h:WB P E.gt l):rV P E c:=by
 refine Qh e ?_;clear e;induction l with
 |nil=>intro x hx;cases hx
 |cons p r ih=>
  intro x hx;rcases List.mem_cons.1 hx with rfl | hx
  ·exact h.1
  ·exact ih h.2 x hx
theorem Yc{P:Program}{E:sd}(hE:EX P E){id:Nat}{f:Func}{L:pW}{vs:List VL}{l:Nat→PV L.cs→PV L.vs→Option (WL vs)}(hb:rV P E (Ds f id))(h0:∀ c v,l 0 c v=none)
  (h1:∀ k c v,l (k + 1) c v=so E (Ds f id) (L.st c v) (kL L vs c (l k c)) (kLP L vs c)) (k:Nat):uo P E.gt (ac3 f id) (wE id L (l k) (dkL vs)):=
 ZW hE (out:=fun c e s=>Wf L (fV L.cs c) e s vs) (pout:=kLP L vs) hb h0 (fun k c v=>by
   rw [h1]
   congr 1)
  (fun c e s x h=>Qy h) (fun c av s x h=>MM h) k
theorem aae{P:Program}{E:sd}(hE:EX P E){id:Nat}{f:Func}{L:pW}{vs:List VL}{F:PV L.cs→PV L.vs→Option (WL vs)}{ls:List (List Nat)}
  (hd:C5 (qk f id).toList (iL (qk f id).toList [])=true) (hc:iP (qk f id).toList (iL (qk f id).toList []) (qk f id).toList.length []=ls)
  (h1:∀ l∈ls,IN (qk f id).toList l=true∧∀ c v,F c v=Gt E (qk f id).toList (iL (qk f id).toList []) l [] (L.st c v) (kR L vs c) (kLP L vs c)):
  uo P E.gt (ad2 f id) (wE (id + 1000000) L F (dkL vs)):=
 acv hE hd hc h1 (fun c s x h=>Qy h) (fun c av s x h=>MM h)
def WD{α:Type}(p:α→Prop):List α→Prop
 |[]=>True
 |a :: r=>p a∧WD p r
theorem RE{α:Type}{p:α→Prop}:∀{l:List α},WD p l→∀ a∈l,p a
 |[],_,_,h=>by cases h
 |b :: r,hl,a,h=>by
  rcases List.mem_cons.1 h with rfl | h
  ·exact hl.1
  ·exact RE hl.2 a h
def aa{α β:Type}(f:β→α)(body:(β→α)→α):α:=body f
abbrev I:Ty:=.int .i64
abbrev U:Ty:=.int .u8
end Go.Fx
namespace Go.Fx
def ag.low:ag→Bool
 |.mu a=>Nat.blt a 1000000000000000000
 |.C6 a _ _ _=>Nat.blt a 1000000000000000000
 |.Eb a _ _ _ _=>Nat.blt a 1000000000000000000
 |.nse a _ _ _ _ _ _ _=>Nat.blt a 1000000000000000000
 |.KL a _ _=>Nat.blt a 1000000000000000000
 |_=>true
def ae.low:ae→Bool
 |.one l=>l.low
 |.agg ls=>ls.all ag.low
 |.JT vs=>vs.all fun p=>p.2.all ag.low
 |.zC _ ls=>ls.all ag.low
theorem R9{a v q:Nat}{x:ae}(h:x.low=true):x.cZ true (Kz a v q)=false:=by
 have ne:∀{b:Nat},Nat.blt b 1000000000000000000=true→Nat.beq b (Kz a v q)=false:=fun {b} hb=>by rw [Nat.blt_eq] at hb;refine uC fun e=>?_;unfold Kz at e;omega
 have one:∀{l:ag},l.low=true→l.cZ true (Kz a v q)=false:=fun {l} h=>by cases l<;>simp only [ag.cZ,ag.low,Bool.true_and,Bool.not_true,Bool.false_and] at h ⊢<;>exact ne h
 have all:∀{ls:List ag},ls.all ag.low=true→ls.any (ag.cZ true (Kz a v q))=false:=fun {ls} h=>by rw [List.any_eq_false];intro l hl;rw [one (List.all_eq_true.1 h l hl)];simp
 cases x with
 |one l=>exact one h
 |agg ls=>exact all h
 |JT vs=>simp only [ae.cZ,ae.low] at h ⊢;rw [List.any_eq_false];intro p hp;rw [all (List.all_eq_true.1 h p hp)];simp
 |zC t ls=>exact all h
def HO(o:Nat)(args:List ae):Bool:=args.all fun x=>x.low && !x.cZ false o
def zb(j o:Nat)(s:iX):iX where
 run dst args st K KP:=match (args[j]?).map ae.bM with
  |some (.C6 a sz i 0)=>(bif QL st a sz && HO o args then
   EQ st a i o fun s1=>s.run dst (args.set j (.one (.mW o 0))) s1 (fun v s2=>Af s2 a o (K v)) KP else none)
  |some (.Eb a v sz i off)=>(bif QL st a sz && HO (obN a v) args && Nat.beq v (st.dA a) && Nat.blt off sz then
   EQ st a i (obN a v) fun s1=>s.run dst (args.set j (.one (.mu (Kz a v off)))) s1 (fun r s2=>Af s2 a (obN a v) (K r)) KP else none)
  |_=>s.run dst args st K KP
 Kh args st:=match (args[j]?).map ae.bM with
  |some (.C6 _ _ _ 0)=>[.all]
  |some (.Eb _ _ _ _ _)=>[.all]
  |_=>s.Kh args st
theorem X8{j o:Nat}{s:iX}(h:oT s):oT (zb j o s):=by
 intro R dst args st K KP;simp only [zb];have key:∀(G0:List ae) (a o:Nat) (s1:St),s.run dst G0 s1 (fun v s2=>Af s2 a o (K v)) KP=(s.run dst G0 s1 (fun v s2=>Af s2 a o (nX v)) NU).bind (sw K KP):=fun G0 a o s1=>by
  rw [h dst G0 s1 (fun v s2=>Af s2 a o (K v)) KP,h dst G0 s1 (fun v s2=>Af s2 a o (nX v)) NU,Option.bind_assoc]
  congr 1
  funext u
  obtain⟨v,q,b⟩:=u;cases b with
  |true=>simp only [sw,cond_true];exact Rx fun s=>rfl
  |false=>rfl
 split
 ·exact db (HZ fun s1=>key _ _ _ s1) rfl
 ·exact db (HZ fun s1=>key _ _ _ s1) rfl
 ·exact h dst args st K KP
theorem V5{j o:Nat}{s:iX}(h:mR s):mR (zb j o s):=by
 intro R dst args st K K' KP KP' hK hP;simp only [zb] at hK ⊢;have key:∀(G0:List ae) (a o:Nat),(∀ v q,qC [.all] st q→K v q=K' v q)→∀ s1,ke st s1→s1.ez=st.ez→
   s.run dst G0 s1 (fun v s2=>Af s2 a o (K v)) KP=s.run dst G0 s1 (fun v s2=>Af s2 a o (K' v)) KP':=fun G0 a o hK s1 b1 r1=>
  h (fun v q hq=>IM fun q' b2 r2=>hK v q' (qC.any (b1.trans (hq.ix.trans b2)) (r2.trans (hq.ez.trans r1)))) (fun v q hq=>hP v q (b1.trans hq))
 split
 ·rename_i a sz i hl
  rw [hl] at hK;exact aX (Jm fun s1 b1 r1=>key _ _ _ hK s1 b1 r1) rfl
 ·rename_i a v sz i off hl
  rw [hl] at hK;exact aX (Jm fun s1 b1 r1=>key _ _ _ hK s1 b1 r1) rfl
 ·rename_i h1 h2
  refine h (fun v q hq=>hK v q (hq.mono fun p hp=>?_)) hP;split
  ·rename_i a sz i hl;exact absurd hl (h1 a sz i)
  ·rename_i a v sz i off hl;exact absurd hl (h2 a v sz i off)
  ·exact hp
theorem Lm{G:Gh}:∀{args:List ae} {vs:List Value} {j:Nat} {x:ae} {u:Value},All2 (aU G) args vs→vs[j]? = some u→aU G x u→All2 (aU G) (args.set j x) vs
 |[],[],_,_,_,_,h,_=>by simp at h
 |a :: r,v :: vs,0,x,u,h,hj,hx=>by simp only [List.getElem?_cons_zero,Option.some.injEq] at hj;subst hj;exact⟨hx,h.2⟩
 |a :: r,v :: vs,j + 1,x,u,h,hj,hx=>⟨h.1,Lm h.2 (by simpa using hj) hx⟩
 |[],_ :: _,_,_,_,h,_,_=>h.elim
 |_ :: _,[],_,_,_,h,_,_=>h.elim
theorem ZU{P:Program}{gt:Nat→Option GA}{f:FuncId}{j o:Nat}{s:iX}(h:z7 P gt f s):z7 P gt f (zb j o s):=by
 intro R r X st G w dst args vs K KP hr yH hm PT ha;have key:∀{a i ob:Nat} {x:ae} {u:Value},vs[j]? = some u→HO ob args=true→
   EQ st a i ob (fun s1=>s.run dst (args.set j x) s1 (fun v s2=>Af s2 a ob (K v)) KP)=some r→(∀ s1 G1,WK X st G w a i ob s1 G1→aU G1 x u)→
   (callFunc f vs.toArray).run P w = .ok (.enter f vs.toArray) w∧Calls P f vs.toArray w fun e w'=>match e with
    |.returned v=>∃ av st' G',aB X st' G' w'∧(∀ act,bL G st act→bL G' st' act)∧aU G' av v∧K av st' = some r
    |.panicked Hh=>∃ v,Hh = [{v,recovered:=false}]∧∃ av st' G',aB X st' G' w'∧aU G' av v∧KP av st' = some r
    |.outgrown=>False:=fun {a i ob x u} hu Nz mi hx=>by
  obtain⟨s1,G1,O,iy⟩:=Qx mi hm;have ha1:All2 (aU G1) args vs:=ha.uz fun y v hy hv=>by have:=List.all_eq_true.1 Nz y hy;simp only [Bool.and_eq_true,Bool.not_eq_true'] at this;exact O.M7 y v this.2 (fun q=>R9 this.1) hv
  obtain⟨h1,h2⟩:=h iy yH O.Ff (PT.imp fun act ra=>O.ez act ra) (Lm ha1 hu (hx s1 G1 O));refine⟨h1,h2.mono fun e w' he=>?_⟩;cases e with
  |returned v=>obtain⟨av,st',G',m',r',v',hk⟩:=he;obtain⟨hp1,GE⟩:=Ms hm O.none;obtain⟨s4,G4,m4,r4,l4,hK⟩:=PG hk m' hp1 GE;exact⟨av,s4,G4,m4,fun act ra=>r4 act (r' act (O.ez act ra)),l4 _ _ v',hK⟩
  |panicked Hh=>obtain⟨v,e1,av,st',G',m',v',hk⟩:=he;exact⟨v,e1,av,st',G',m',v',hk⟩
  |outgrown=>exact he.elim
 have ac0:∀{l:ag},(args[j]?).map ae.bM=some l→l≠.any→∃ u,vs[j]? = some u∧aY G l u:=fun {l} hl gY=>by
  rw [Option.map_eq_some_iff] at hl;obtain⟨y,hy,he⟩:=hl;obtain⟨u,hu,hr⟩:=ha.wa hy;refine⟨u,hu,?_⟩;cases y with
  |one l'=>simp only [ae.bM] at he;rw [he] at hr;exact hr
  |_=>exact absurd he.symm gY
 simp only [zb] at hr;split at hr
 ·rename_i a sz i hl
  cases hc:(QL st a sz && HO o args) with
  |false=>rw [hc] at hr;cases hr
  |true=>
   rw [hc,cond_true] at hr;simp only [Bool.and_eq_true] at hc;obtain⟨u,hu,hru⟩:=ac0 hl (by simp)
   have mA:=hc.1;unfold QL at mA;split at mA
   ·rename_i A hA
    obtain rfl:=Nat.eq_of_beq_eq_true mA;exact key hu hc.2 hr fun s1 G1 O=>(O.mW 0 u).2 ⟨A,hA,hru⟩
   ·cases mA
 ·rename_i a v sz i off hl
  cases hc:(QL st a sz && HO (obN a v) args && Nat.beq v (st.dA a) && Nat.blt off sz) with
  |false=>rw [hc] at hr;cases hr
  |true=>
   rw [hc,cond_true] at hr;simp only [Bool.and_eq_true] at hc;obtain⟨⟨⟨mA,Nz⟩,hv⟩,V0⟩:=hc;obtain rfl:=Nat.eq_of_beq_eq_true hv;rw [Nat.blt_eq] at V0;obtain⟨u,hu,hru⟩:=ac0 hl (by simp)
   unfold QL at mA;split at mA
   ·rename_i A hA
    obtain rfl:=Nat.eq_of_beq_eq_true mA;refine key hu Nz hr fun s1 G1 O=>O.aau A off u hA V0 ?_;have hw:∃ x∈args,x.bM = .Eb a (st.dA a) A.t.size i off∧aU G x u:=by rw [Option.map_eq_some_iff] at hl;obtain⟨y,hy,he⟩:=hl;obtain⟨u',hu',P7⟩:=ha.wa hy;rw [hu] at hu';cases hu';exact⟨y,List.mem_of_getElem? hy,he,P7⟩
    obtain⟨x,hx,hxl,hxr⟩:=hw;have hlx:=List.all_eq_true.1 Nz x hx;simp only [Bool.and_eq_true,Bool.not_eq_true'] at hlx;have:=O.M7 x u hlx.2 (fun q=>R9 hlx.1) hxr;cases x with
    |one l=>simp only [ae.bM] at hxl;rw [hxl] at this;exact this
    |_=>cases hxl
   ·cases mA
 ·exact h hr yH hm PT ha
theorem V6{P:Program}{gt:Nat→Option GA}{f:FuncId}{j o:Nat}{s:iX}(h:l8 P gt f s):l8 P gt f (zb j o s):=⟨ZU h.ok,X8 h.det,V5 h.PH⟩
end Go.Fx
namespace Go.Fx
theorem aB.UZ{X:mt}{st:St}{G:Gh}{w:World}(hm:aB X st G w){p q:Nat}{ls:List ag}(hpq:p≠q)(hp:st.dM p=some ls)(hq:st.dM q=none)(hb:ls.any ag.py=false)
    (hX:∀ v,X.pin p≠some v) (hB:∀ j u,X.bv p j≠some u) {F:List (Bool×Nat)} (hF:∀ x∈F,st.cZ x.1 x.2=false)
    (hl:(∀ a A,st.arr a=some A→∀ i o,A.md = .CD i o→o≠q)) (aaT:F = [(false,q)]∨(F = []∧G.φ q=G.φ p∧(G.pre q).length=(G.pre p).length)):
    ∃ G',aB X {st with cf:=(q,ls) :: E4 st.cf p} G' w∧(∀ act,bL G st act→bL G' {st with cf:=(q,ls) :: E4 st.cf p} act)∧
      (∀ x v,(∀ y∈F,x.cZ y.1 y.2=false)→aU G x v→aU G' x v)∧G'.φ q=G.φ p∧(G'.pre q).length=(G.pre p).length∧G'.φ p=G.φ p∧G'.pre p=G.pre p:=by
  let G':Gh:={G with φ:=fun o=>if o=q then G.φ p else G.φ o,pre:=fun o=>if o=q then G.pre p else G.pre o,post:=fun o=>if o=q then G.post p else G.post o}
  let s1:St:={st with cf:=(q,ls) :: E4 st.cf p}
  have Hy:∀ o,s1.dM o=if q=o then some ls else if p=o then none else st.dM o:=fun o=>by simp only [s1,St.dM,aw,qf]
  have mi:eW G st (false,p) (G.φ p):=⟨⟨ls,hp⟩,rfl⟩;have Nf:vJ X st s1 G G' w w (fun y=>y=(false,p)) (fun y=>y=(false,q)) F:=by
    refine {
             n:=rfl,ii:=fun _=>rfl,bl:=rfl,pn:=rfl,S:=rfl,bM:=fun lf v P4 hr=>?_,fm:=hF,sl:=hm.sl,dM:=fun o l h=>?_,arr:=fun a A hA=>.inr ⟨by simp,hA,rfl,rfl,fun _=>by simp,rfl,fun i o e=>?_⟩,
             pe:=fun y b hy hyo=>?_,pX:=fun y z b hy hz _ _=>hy.trans hz.symm,hv:=hm.hv,old:=fun _ _ _=>rfl,sz:=Nat.le_refl _,os:=rfl,tp:=rfl,out:=rfl,TY:=fun o l ho hpo=>?_,TX:=fun a A _ hA=>⟨⟨A,hA⟩,rfl⟩}
    · rcases aaT with rfl |⟨rfl,e1,e2⟩
      · refine aY.leF (G:=G) (G':=G') (F:=[(false,q)]) (fun _ _ h=>h) (fun o ho=>?_) (fun a _=>⟨rfl,Nat.le_refl _,fun _ _=>rfl⟩) P4 hr
        have:o≠q:=fun e=>ho (by rw [e];simp)
        simp [G',this]
      · cases lf with
        |mW o off=>
          by_cases e:o=q
          · subst e
            simp only [aY,G',if_true] at hr ⊢;rw [hr,e1,e2]
          · simp only [aY,G',e,if_false] at hr ⊢;exact hr
        |eZ t d=>exact hr
        |N0 t d off=>exact hr
        |ga t l=>exact hr
        |Eb a v' sz i off=>exact hr
        |nse a v' sz i off s2 j o2=>exact hr
        |_=>exact hr
    · rw [Hy] at h
      by_cases e:q=o
      · subst e
        simp only [if_true,Option.some.injEq] at h;subst h;obtain⟨arr,elem,mid,g1,g2,g3⟩:=hm.ob p ls hp;refine .inl ⟨rfl,arr,elem,mid,by simp only [G',if_true];exact g1,by simp only [G',if_true];exact g2,?_⟩
        unfold ie at g3 ⊢;rw [uF _ _ _ _ hb] at g3 ⊢;refine g3.uz fun lf v hlm Bj=>?_;rcases aaT with rfl |⟨rfl,e1,e2⟩
        · refine aY.leF (G:=G) (G':=G') (F:=[(false,q)]) (fun _ _ h=>h) (fun o ho=>?_) (fun a _=>⟨rfl,Nat.le_refl _,fun _ _=>rfl⟩) (fun y hy=>?_) Bj
          · have:o≠q:=fun e=>ho (by rw [e];simp)
            simp [G',this]
          · have hmo:=rC (hF y hy) hp 0
            rw [uF _ _ _ _ hb] at hmo;have:=List.any_eq_false.1 hmo lf hlm;simpa using this
        · cases lf with
          |mW o off=>
            by_cases e:o=q
            · subst e
              simp only [aY,G',if_true] at Bj ⊢;rw [Bj,e1,e2]
            · simp only [aY,G',e,if_false] at Bj ⊢;exact Bj
          |eZ t d=>exact Bj
          |N0 t d off=>exact Bj
          |ga t l=>exact Bj
          |Eb a v' sz i off=>exact Bj
          |nse a v' sz i off s2 j o2=>exact Bj
          |_=>exact Bj
      · simp only [e,if_false] at h
        by_cases e2:p=o
        · simp [e2] at h
        · simp only [e2,if_false] at h
          have h1:o≠q:=fun h=>e h.symm;have h2:o≠p:=fun h=>e2 h.symm;exact .inr ⟨by simp [h1],by simp [h2],h,by simp [G',h1],by simp [G',h1],by simp [G',h1]⟩
    · have:o≠q:=hl a A hA i o e
      simp [G',this]
    · subst hy
      obtain⟨_,rfl⟩:=hyo;exact .inl ⟨(false,p),rfl,by simpa [G'] using mi⟩
    · have h1:p≠o:=fun e=>by
        subst e;rcases hpo with ⟨v,hv⟩ |⟨j,u,hu⟩
        · exact hX v hv
        · exact hB j u hu
      have h2:q≠o:=fun e=>by rw [←e,hq] at ho;cases ho
      exact⟨by rw [Hy,if_neg h2,if_neg h1];exact ho,by simpa using fun e=>h2 e.symm⟩
  refine⟨G',Nf.ok hm,fun act=>Nf.ez,fun x v hx hv=>Nf.R3 hx hv,by simp [G'],by simp [G'],?_,?_⟩
  · simp [G',hpq]
  · simp [G',hpq]
def Gl(q:Nat)(l:List (Nat×jF)):Bool:=l.all fun p=>!p.2.Jb q
def DF(j o:Nat)(s:iX):iX where
 run dst args st K KP:=match (args[j]?).map ae.bM with
  |some (.mW p 0)=>(bif Nat.beq p o then s.run dst args st K KP else(match st.dM p with
   |some ls=>(bif Nat.ble 10000 p && (st.dM o).isNone && !st.cZ false o && !ls.any ag.py && args.all (fun x=>!x.cZ false o) && (look st.ez st.n).isNone && (look st.ez (st.n + 1)).isNone && (look st.jh st.n).isNone && (look st.jh (st.n + 1)).isNone then
    s.run dst (args.set j (.one (.mW o 0))) {st with n:=st.n + 2,ez:=(st.n,.one (.mW o 0)) :: (st.n + 1,.one (.mW p 0)) :: st.ez,cf:=(o,ls) :: E4 st.cf p}
     (fun v s2=>match s2.dM o,s2.ez with
      |some ls2,(a,.one (.mW o1 0)) :: (b,.one (.mW p1 0)) :: rest=>
       (bif Nat.beq a st.n && Nat.beq b (st.n + 1) && Nat.beq o1 o && Nat.beq p1 p && (s2.dM p).isNone && !ls2.any ag.py && Gl p s2.cK && Gl p s2.fN && (look rest st.n).isNone && (look rest (st.n + 1)).isNone && (look s2.jh st.n).isNone && (look s2.jh (st.n + 1)).isNone then
        K v {s2 with n:=st.n,ez:=rest,cf:=(p,ls2) :: E4 s2.cf o} else none)
      |_,_=>none)
     (fun v s2=>KP v {s2 with n:=st.n,ez:=st.ez}) else none)
   |none=>none))
  |_=>s.run dst args st K KP
 Kh args st:=match (args[j]?).map ae.bM with
  |some (.mW p 0)=>bif Nat.beq p o then s.Kh args st else [.all]
  |_=>s.Kh args st
theorem aaf{j o:Nat}{s:iX}(h:oT s):oT (DF j o s):=by
 intro R dst args st K KP;simp only [DF];split
 ·rename_i p hl
  refine db (h dst args st K KP) ?_;split
  ·rename_i ls ho
   refine db ?_ rfl;rw [h dst _ _ _ _,h dst _ _ (fun v s2=>match s2.dM o,s2.ez with
     |some ls2,(a,.one (.mW o1 0)) :: (b,.one (.mW p1 0)) :: rest=>
      (bif Nat.beq a st.n && Nat.beq b (st.n + 1) && Nat.beq o1 o && Nat.beq p1 p && (s2.dM p).isNone && !ls2.any ag.py && Gl p s2.cK && Gl p s2.fN && (look rest st.n).isNone && (look rest (st.n + 1)).isNone && (look s2.jh st.n).isNone && (look s2.jh (st.n + 1)).isNone then
       nX v {s2 with n:=st.n,ez:=rest,cf:=(p,ls2) :: E4 s2.cf o} else none)
     |_,_=>none) (fun v s2=>NU v {s2 with n:=st.n,ez:=st.ez}),Option.bind_assoc]
   congr 1
   funext u
   obtain⟨v,q,b⟩:=u;cases b with
   |true=>
    simp only [sw,cond_true];split
    ·exact db rfl rfl
    ·rfl
   |false=>rfl
  ·rfl
 ·exact h dst args st K KP
theorem YS{j o:Nat}{s:iX}(h:mR s):mR (DF j o s):=by
 intro R dst args st K K' KP KP' hK hP;simp only [DF] at hK ⊢;split
 ·rename_i p hl
  rw [hl] at hK;cases hpo:Nat.beq p o with
  |true=>simp only [hpo,cond_true] at hK ⊢;exact h hK hP
  |false=>
   simp only [hpo,cond_false] at hK ⊢;split
   ·rename_i ls ho
    refine aX (h (fun v q hq=>?_) (fun v q hq=>hP v _ ?_)) rfl
    ·split
     ·rename_i ls2 a o1 b p1 rest h1 h2
      refine aX (hK v _ (qC.any ?_ ?_)) rfl
      ·exact⟨rfl,hq.ix.2.1,hq.ix.2.2.1,hq.ix.2.2.2⟩
      ·have:=hq.ez
       rw [h2] at this;simp only [List.cons.injEq] at this;exact this.2.2
     ·rfl
    ·exact⟨rfl,hq.2.1,hq.2.2.1,hq.2.2.2⟩
   ·rfl
 ·rename_i h1
  refine h (fun v q hq=>hK v q (hq.mono fun p hp=>?_)) hP;split
  ·rename_i p hl;exact absurd hl (h1 p)
  ·exact hp
theorem ON{q:Nat}{l:List (Nat×jF)}(h:Gl q l=true){a:Nat}{A:jF}(ha:look l a=some A):∀ i o,A.md = .CD i o→o≠q:=fun i o hm e=>by have:=List.all_eq_true.1 h _ (dV ha);subst e;simp [jF.Jb,hm] at this
theorem YQ{st:St}{i:Nat}(h:(look st.ez i).isNone=true)(h2:(look st.jh i).isNone=true):st.ii i=none:=by
 unfold St.ii;have h:look st.ez i=none:=by simpa using h
 have h2:look st.jh i=none:=by simpa using h2
 rw [h];exact h2
theorem acy{P:Program}{gt:Nat→Option GA}{f:FuncId}{j o:Nat}{s:iX}(h:z7 P gt f s):z7 P gt f (DF j o s):=by
 intro R r X st G w dst args vs K KP hr yH hm PT ha;simp only [DF] at hr;split at hr
 ·rename_i p hl
  cases hpo:Nat.beq p o with
  |true=>rw [hpo,cond_true] at hr;exact h hr yH hm PT ha
  |false=>
   rw [hpo,cond_false] at hr;split at hr
   ·rename_i ls NA
    cases hc:(Nat.ble 10000 p && (st.dM o).isNone && !st.cZ false o && !ls.any ag.py && args.all (fun x=>!x.cZ false o) && (look st.ez st.n).isNone && (look st.ez (st.n + 1)).isNone && (look st.jh st.n).isNone && (look st.jh (st.n + 1)).isNone) with
    |false=>rw [hc] at hr;cases hr
    |true=>
     rw [hc,cond_true] at hr;simp only [Bool.and_eq_true,Bool.not_eq_true'] at hc;obtain⟨⟨⟨⟨⟨⟨⟨⟨c1,c2⟩,c3⟩,c4⟩,c5⟩,c6⟩,c7⟩,c8⟩,c9⟩:=hc;have ZH:=Nat.le_of_ble_eq_true c1;have vN:st.dM o=none:=by simpa using c2
     have gY:p≠o:=fun e=>by rw [e] at hpo;simp at hpo
     obtain⟨ae6,ae7⟩:=Ms hm vN;obtain⟨G1,m1,r1,v1,e1,e2,e3,e4⟩:=hm.UZ (F:=[(false,o)]) gY NA vN c4 (fun v hv=>by have:=X.pl p v hv;omega) (fun j u hu=>by have:=X.bl p j u hu;omega) (fun x hx=>by rw [List.mem_singleton.1 hx];exact c3)
      (fun a A hA i o' ux=>D7 c3 hA ux) (.inl rfl)
     obtain⟨u,hu,hru⟩:∃ u,vs[j]? = some u∧aY G (.mW p 0) u:=by
      rw [Option.map_eq_some_iff] at hl;obtain⟨y,hy,he⟩:=hl;obtain⟨u,hu,P7⟩:=ha.wa hy;refine⟨u,hu,?_⟩;cases y with
      |one l'=>simp only [ae.bM] at he;rw [he] at P7;exact P7
      |_=>cases he
     have hu0:u = .pointer (some ⟨G.φ p,(G.pre p).length + 0,none⟩):=hru;have hro:aY G1 (.mW o 0) u:=by simp only [aY,e1,e2];exact hu0
     have ae9:aY G1 (.mW p 0) u:=by simp only [aY,e3,e4];exact hu0
     have ha1:All2 (aU G1) args vs:=ha.uz fun y v hy hv=>v1 y v (fun z hz=>by
      rw [List.mem_singleton.1 hz];have:=List.all_eq_true.1 c5 y hy;simpa using this) hv
     generalize hs1:({st with n:=st.n + 2,ez:=(st.n,.one (.mW o 0)) :: (st.n + 1,.one (.mW p 0)) :: st.ez,cf:=(o,ls) :: E4 st.cf p}:St)=s1 at hr
     have m1':aB X s1 G1 w:=by rw [←hs1];exact m1.V7 rfl rfl rfl rfl rfl rfl
     have Xj:∀ act,bL G st act→bL G1 s1 {tmps:=act.tmps.push u |>.push u,defers:=act.defers}:=fun act ra=>by
      have rb:=r1 act ra;have mA:act.tmps.size=st.n:=ra.2.1;refine⟨rb.1,by rw [←hs1];simp [mA],fun i x hx=>?_⟩
      rw [←hs1] at hx;simp only [St.ii,aw] at hx;by_cases i1:st.n=i
      ·subst i1
       simp only [if_true,Option.some.injEq] at hx;subst hx;have:((act.tmps.push u).push u).getD st.n undef=u:=by rw [Array.getD_eq_getD_getElem?,Array.getElem?_push,if_neg (by simp;omega),Array.getElem?_push,if_pos mA.symm];rfl
       rw [this];exact hro
      ·by_cases i2:st.n + 1=i
       ·subst i2
        simp only [i1,if_false,if_true,Option.some.injEq] at hx;subst hx;have:((act.tmps.push u).push u).getD (st.n + 1) undef=u:=by rw [Array.getD_eq_getD_getElem?,Array.getElem?_push,if_pos (by simp;omega)];rfl
        rw [this];exact ae9
       ·simp only [i1,i2,if_false] at hx
        have hg:((act.tmps.push u).push u).getD i undef=act.tmps.getD i undef:=by rw [Array.getD_eq_getD_getElem?,Array.getElem?_push,if_neg (by simp;omega),Array.getElem?_push,if_neg (by omega),←Array.getD_eq_getD_getElem?]
        rw [hg];exact rb.2.2 i x hx
     obtain⟨h1,h2⟩:=h hr yH m1' (PT.imp' _ fun act ra=>Xj act ra) (Lm ha1 hu (show aU G1 (.one (.mW o 0)) u from hro))
     refine⟨h1,h2.mono fun e w' he=>?_⟩;cases e with
     |outgrown=>exact he.elim
     |panicked Hh=>obtain⟨v,q1,av,st',G',m',v',hk⟩:=he;exact⟨v,q1,av,{st' with n:=st.n,ez:=st.ez},G',m'.V7 rfl rfl rfl rfl rfl rfl,v',hk⟩
     |returned v=>
      obtain⟨av,s2,G',m',r',v',hk⟩:=he;split at hk
      ·rename_i ls2 a o1 b p1 rest q1 q2
       cases hd:(Nat.beq a st.n && Nat.beq b (st.n + 1) && Nat.beq o1 o && Nat.beq p1 p && (s2.dM p).isNone && !ls2.any ag.py && Gl p s2.cK && Gl p s2.fN && (look rest st.n).isNone && (look rest (st.n + 1)).isNone && (look s2.jh st.n).isNone && (look s2.jh (st.n + 1)).isNone) with
       |false=>rw [hd] at hk;cases hk
       |true=>
        rw [hd,cond_true] at hk;simp only [Bool.and_eq_true,Bool.not_eq_true'] at hd;obtain⟨⟨⟨⟨⟨⟨⟨⟨⟨⟨⟨d1,d2⟩,d3⟩,d4⟩,d5⟩,d6⟩,d7⟩,d8⟩,d9⟩,d10⟩,d11⟩,d12⟩:=hd;obtain rfl:=Nat.eq_of_beq_eq_true d1;obtain rfl:=Nat.eq_of_beq_eq_true d2;obtain rfl:=Nat.eq_of_beq_eq_true d3;obtain rfl:=Nat.eq_of_beq_eq_true d4;have hnp:s2.dM p1=none:=by simpa using d5
        have frame:∀ act,bL G st act→bL G' s2 {tmps:=act.tmps.push u |>.push u,defers:=act.defers}:=fun act ra=>r' _ (Xj act ra);have lc:G'.φ p1=G'.φ o1∧(G'.pre p1).length=(G'.pre o1).length:=by
         obtain⟨act,ra⟩:=PT;have rf:=frame act ra;have k1:=rf.2.2 st.n (.one (.mW o1 0)) (by simp only [St.ii,q2,aw,if_true])
         have k2:=rf.2.2 (st.n + 1) (.one (.mW p1 0)) (by simp only [St.ii,q2,aw];rw [if_neg (by omega)];simp)
         have mA:act.tmps.size=st.n:=ra.2.1;have g1:((act.tmps.push u).push u).getD st.n undef=u:=by rw [Array.getD_eq_getD_getElem?,Array.getElem?_push,if_neg (by simp;omega),Array.getElem?_push,if_pos mA.symm];rfl
         have g2:((act.tmps.push u).push u).getD (st.n + 1) undef=u:=by rw [Array.getD_eq_getD_getElem?,Array.getElem?_push,if_pos (by simp;omega)];rfl
         rw [g1] at k1;rw [g2] at k2;have k1:u = .pointer (some ⟨G'.φ o1,(G'.pre o1).length + 0,none⟩):=k1;have k2:u = .pointer (some ⟨G'.φ p1,(G'.pre p1).length + 0,none⟩):=k2;rw [k1] at k2;simp only [Value.pointer.injEq,Option.some.injEq,Addr.mk.injEq,and_true] at k2;exact⟨k2.1.symm,by omega⟩
        have Tz:o1≠p1:=fun e=>gY e.symm;obtain⟨G2,m2,r2,v2,_⟩:=m'.UZ (F:=[]) (p:=o1) (q:=p1) Tz q1 hnp d6 ae6 ae7 (fun x hx=>by cases hx)
         (fun a A hA i o' ux=>by
          unfold St.arr at hA;cases hl:look s2.cK a with
          |some B=>rw [hl] at hA;cases hA;exact ON d7 hl i o' ux
          |none=>rw [hl] at hA;exact ON d8 hA i o' ux) (.inr ⟨rfl,lc⟩)
        refine⟨av,{s2 with n:=st.n,ez:=rest,cf:=(p1,ls2) :: E4 s2.cf o1},G2,m2.V7 rfl rfl rfl rfl rfl rfl,fun act ra=>?_,v2 av v (fun y hy=>by cases hy) v',hk⟩
        have rf:=frame act ra;have mA:act.tmps.size=st.n:=ra.2.1;refine⟨ra.1.trans (hm.ds.trans m2.ds.symm),mA,fun i x hx=>?_⟩;have hx:({s2 with n:=st.n,ez:=rest,cf:=(p1,ls2) :: E4 s2.cf o1}:St).ii i=some x:=hx
        have i1:i≠st.n:=fun e=>by rw [e] at hx;rw [YQ (st:={s2 with n:=st.n,ez:=rest,cf:=(p1,ls2) :: E4 s2.cf o1}) d9 d11] at hx;cases hx
        have i2:i≠st.n + 1:=fun e=>by rw [e] at hx;rw [YQ (st:={s2 with n:=st.n,ez:=rest,cf:=(p1,ls2) :: E4 s2.cf o1}) d10 d12] at hx;cases hx
        have hx2:s2.ii i=some x:=by simp only [St.ii,q2,aw];rw [if_neg (Ne.symm i1),if_neg (Ne.symm i2)];exact hx
        have k:=rf.2.2 i x hx2;have hg:((act.tmps.push u).push u).getD i undef=act.tmps.getD i undef:=by rw [Array.getD_eq_getD_getElem?,Array.getElem?_push,if_neg (by simp;omega),Array.getElem?_push,if_neg (by omega),←Array.getD_eq_getD_getElem?]
        rw [hg] at k;exact v2 x _ (fun y hy=>by cases hy) k
      ·cases hk
   ·cases hr
 ·exact h hr yH hm PT ha
theorem YT{P:Program}{gt:Nat→Option GA}{f:FuncId}{j o:Nat}{s:iX}(h:l8 P gt f s):l8 P gt f (DF j o s):=⟨acy h.ok,aaf h.det,YS h.PH⟩
end Go.Fx
namespace Go.Fx
structure Tb(P:Program) where
 n:Nat
 i:TI
 ok:zr P n i
def tbs{P:Program}:List (Tb P)→List (Nat×TI)
 |[]=>[]
 |t :: r=>(t.n,t.i) :: tbs r
theorem Ze{P:Program}:∀ l:List (Tb P),Zp P (tbs l)
 |[]=>trivial
 |t :: r=>⟨t.ok,Ze r⟩
structure Prg where
 P:Program
 gt:Nat→Option GA
 iw:List (Tb P)
 mix:P.follows .mixedOrders=true
structure Cl(A:Prg) where
 f:Nat
 s:iX
 ok:l8 A.P A.gt f s
def Cl.afe{A:Prg}(c:Cl A)(j o:Nat):Cl A:=⟨c.f,zb j o c.s,V6 c.ok⟩
def Cl.t7{A:Prg}(c:Cl A)(j o:Nat):Cl A:=⟨c.f,DF j o c.s,YT c.ok⟩
def cls{A:Prg}:List (Cl A)→List (Nat×iX)
 |[]=>[]
 |c :: r=>(c.f,c.s) :: cls r
theorem W0{A:Prg}:∀ l:List (Cl A),Ra A.P A.gt (cls l)
 |[]=>trivial
 |c :: r=>⟨c.ok,W0 r⟩
def Gd(A:Prg)(f:Nat){T:Type}(S:T→iX):Type:={r:T // l8 A.P A.gt f (S r)}
def Gd.cl{A:Prg}{f:Nat}{T:Type}{S:T→iX}(r:Gd A f S):Cl A:=⟨f,S r.1,r.2⟩
structure mg where
 L:pW
 V:List VL
 F:Nat→PV L.cs→PV L.vs→Option (WL V)
def mg.AO(d:mg)(id q:Nat):lh:=wE id d.L (d.F q) (dkL d.V)
structure LpB where
 id:Nat
 s:lh
 c:zW s
def lp(id:Nat)(d:mg)(q:Nat):LpB:=⟨id,d.AO id q,OK _ _ _ _⟩
def rg(id:Nat)(d:mg):LpB:=⟨id + 1000000,d.AO (id + 1000000) 0,OK _ _ _ _⟩
def lps:List LpB→List (Nat×lh)
 |[]=>[]
 |c :: r=>(c.id,c.s) :: lps r
theorem Yg:∀ l:List LpB,Q0 (lps l)
 |[]=>trivial
 |c :: r=>⟨c.c,Yg r⟩
structure Ev(A:Prg) where
 cs:List (Cl A)
 ls:List LpB
 on:List (Nat×Nat)
def Ev.e{A:Prg}(E:Ev A):sd:=aaO A.gt (tbs A.iw) (cls E.cs) (lps E.ls) E.on
theorem Ev.ok{A:Prg}(E:Ev A):EX A.P E.e:=abH A.mix (Ze _) (W0 _) (Yg _)
structure Cd(A:Prg) where
 c:Code
 s:lh
 ok:uo A.P A.gt c s
def cds{A:Prg}:List (Cd A)→List (Code×lh)
 |[]=>[]
 |c :: r=>(c.c,c.s) :: cds r
theorem PF{A:Prg}:∀ l:List (Cd A),WB A.P A.gt (cds l)
 |[]=>trivial
 |c :: r=>⟨c.ok,PF r⟩
noncomputable def nD{A:Prg}(E:Ev A)(f:Func)(id:Nat)(d:mg)(q:Nat)(l:List (Cd A))(hb:xv E.e (Ds f id)=cds l:=by kernel_rfl)(h0:∀ c v,d.F 0 c v=none:=by intros;rfl)
  (h1:∀ q c v,d.F (q + 1) c v=so E.e (Ds f id) (d.L.st c v) (kL d.L d.V c (d.F q c)) (kLP d.L d.V c):=by intros;kernel_rfl):Cd A:=
 ⟨ac3 f id,d.AO id q,Yc E.ok (vd hb (PF l)) h0 h1 q⟩
noncomputable def rgC{A:Prg}(E:Ev A)(f:Func)(id:Nat)(d:mg)(ls:List (List Nat))(hd:C5 (qk f id).toList (iL (qk f id).toList [])=true:=by kernel_rfl)(hc:iP (qk f id).toList (iL (qk f id).toList []) (qk f id).toList.length []=ls:=by kernel_rfl)
  (h1:WD (fun l=>IN (qk f id).toList l=true∧∀ c v,d.F 0 c v=Gt E.e (qk f id).toList (iL (qk f id).toList []) l [] (d.L.st c v) (kR d.L d.V c) (kLP d.L d.V c)) ls:=by(repeat' first | exact trivial | refine⟨?_,?_⟩);all_goals intros;all_goals kernel_rfl):Cd A:=
 ⟨ad2 f id,d.AO (id + 1000000) 0,aae E.ok hd hc (RE h1)⟩
def wv{A:Prg}(E:Ev A)(k:FuncId)(f:Func)(hf:A.P.funcs[k]? = some f)(Am:∀ args w,(callFunc k args).run A.P w = .ok (.enter k args) w)(ts rs:List Ty)(F:DL ts→Option (DL rs))(l:List (Cd A))
  (hb:f.body.isSome=true:=by kernel_rfl) (hl:xv E.e (qV f)=cds l:=by kernel_rfl) (hn:Nat.ble ts.length f.ntmps=true:=by kernel_rfl)
  (h:∀ d,F d=so E.e (qV f) (stD f.ntmps ts d) (kD E.e f.results.toList rs) (fun _ _=>none):=by intros;kernel_rfl):Cl A:=
 ⟨k,AP ts rs F id,VW E.ok hf Am hb (vd hl (PF l)) hn h⟩
structure DU where
 L:pW
 V:List VO
 F:PV L.cs→PV L.vs→Option (WO V)
def mX{A:Prg}(E:Ev A)(k:FuncId)(f:Func)(hf:A.P.funcs[k]? = some f)(Am:∀ args w,(callFunc k args).run A.P w = .ok (.enter k args) w)(res:List Nat)(d:DU)(l:List (Cd A))
  (hb:f.body.isSome=true:=by kernel_rfl) (hl:xv E.e (qV f)=cds l:=by kernel_rfl) (hn:Nat.beq f.ntmps d.L.n=true:=by kernel_rfl) (Ap:H8 f.results.toList.length=res:=by kernel_rfl)
  (h:∀ c v,d.F c v=so E.e (qV f) (d.L.st c v) (kO E.e f.results.toList d.L d.V c) (kP d.L d.V c):=by intros;kernel_rfl):Cl A:=
 ⟨k,mI d.L d.F (AW res d.V),Xn E.ok hf Am hb (vd hl (PF l)) hn Ap h⟩
end Go.Fx
namespace Go.Fx
def tb{P:Program}(n:TypeId)(i:TypeInfo){d:TypeDesc}(hu:P.underlying n=some d)(ti:TI)(h1:P.info? n=some i:=by kernel_rfl)(h3:i.zero.isSome=true:=by kernel_rfl)(h4:(i.zero.getD undef).cells.toList=ti.zero:=by kernel_rfl)
 (h5:(Vv ti.iF d && Nat.beq i.size ti.size && Nat.beq i.bytes ti.bytes && (ti.iF.agg || Nat.beq ti.size 1) && Nat.beq ti.zero.length ti.size)=true:=by kernel_rfl) (h6:Zy P n ti=true:=by kernel_rfl):Tb P:=⟨n,ti,aep h1 hu h3 h4 h5 h6⟩
abbrev rI(i:Nat):Pl×mq:=(.r i,.d I)
abbrev rD(i:Nat)(t:Ty):Pl×mq:=(.r i,.d t)
abbrev rP(i o:Nat):Pl×mq:=(.r i,.lit (.mW o 0))
abbrev lI(o j:Nat):Pl×mq:=(.l o j,.d I)
abbrev lD(o j:Nat)(t:Ty):Pl×mq:=(.l o j,.d t)
abbrev lN(o j:Nat):Pl×mq:=(.l o j,.lit .nil)
abbrev lF(o j:Nat)(t:Ty):Pl×mq:=(.l o j,.h .dE t)
abbrev lU(o j:Nat)(t:Ty):Pl×mq:=(.l o j,.h .bR t)
abbrev lH(m:Md)(o j:Nat)(t:Ty):Pl×mq:=(.l o j,.h m t)
end Go.Fx
