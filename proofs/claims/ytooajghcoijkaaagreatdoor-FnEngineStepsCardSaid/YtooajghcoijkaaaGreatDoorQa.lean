/- Proved here: laws.FnEngineSteps returns true at every input (the tied card), no condition beyond the card. -/
import Derived.Test.YtooajghcoijkaaaGreatDoorCb
set_option linter.unusedVariables false
set_option linter.unusedSimpArgs false
set_option linter.unusedSectionVars false
set_option linter.defProp false
set_option maxRecDepth 100000
namespace Go.Fx.R5
open Go Go.Fx
attribute [go_sem] Option.bind_some cond_true cond_false Bool.false_eq_true Bool.not_true Bool.not_false beq_self_eq_true bne_self_eq_false decide_true decide_false
def Ev(p:Nat→Prop):Prop:=∃ K,∀ k,K≤k→p k
def cz(p:Nat→Nat→Prop):Prop:=∃ K,∀ q k,K≤q→K≤k→p q k
section
variable {p r:Nat→Prop} {p2 r2:Nat→Nat→Prop}
theorem Ev.of(h:∀ k,p k):Ev p:=⟨0,fun k _=>h k⟩
theorem Ev.mono(h:Ev p)(g:∀ k,p k→r k):Ev r:=h.imp fun _ h k hk=>g k (h k hk)
theorem Ev.and(h:Ev p)(g:Ev r):Ev fun k=>p k∧r k:=
 let⟨K,h⟩:=h;let⟨L,g⟩:=g;⟨K+L,fun k hk=>⟨h k (by omega),g k (by omega)⟩⟩
theorem Ev.succ(h:Ev fun k=>p (k+1)):Ev p:=
 let⟨K,h⟩:=h;⟨K+1,fun k hk=>by obtain⟨j,rfl⟩:∃ j,k=j+1:=⟨k - 1,by omega⟩;exact h j (by omega)⟩
theorem Ev.abt(h:Ev p):Ev fun k=>p (k+1):=let⟨K,h⟩:=h;⟨K,fun k hk=>h (k+1) (by omega)⟩
theorem Ev.tn(h:Ev p):cz fun q _=>p q:=let⟨K,h⟩:=h;⟨K,fun q _ hq _=>h q hq⟩
theorem Ev.agZ(h:Ev p):cz fun _ k=>p k:=let⟨K,h⟩:=h;⟨K,fun _ k _ hk=>h k hk⟩
theorem cz.of(h:∀ q k,p2 q k):cz p2:=⟨0,fun q k _ _=>h q k⟩
theorem cz.mono(h:cz p2)(g:∀ q k,p2 q k→r2 q k):cz r2:=h.imp fun _ h q k hq hk=>g q k (h q k hq hk)
theorem cz.and(h:cz p2)(g:cz r2):cz fun q k=>p2 q k∧r2 q k:=
 let⟨K,h⟩:=h;let⟨L,g⟩:=g;⟨K+L,fun q k hq hk=>⟨h q k (by omega) (by omega),g q k (by omega) (by omega)⟩⟩
theorem cz.succ(h:cz fun q k=>p2 q (k+1)):cz p2:=
 let⟨K,h⟩:=h;⟨K+1,fun q k hq hk=>by obtain⟨j,rfl⟩:∃ j,k=j+1:=⟨k - 1,by omega⟩;exact h q j (by omega) (by omega)⟩
theorem cz.j9(h:cz p2):Ev fun k=>p2 k k:=let⟨K,h⟩:=h;⟨K,fun k hk=>h k k hk hk⟩
theorem Ev.vJ(h:Ev p):∃ k,p k:=let⟨K,h⟩:=h;⟨K,h K (axa _)⟩
end
theorem bF{x:Int}(h1:-4611686018427387904≤x)(h2:x≤4611686018427387904):bC x=x:=by unfold bC IntKind.wrap;simp[IntKind.bits,IntKind.signed];omega
theorem af4{n:Nat}(h:n≤4611686018427387904):bC (n:Int)=n:=bF (by omega) (by omega)
theorem ag{n:Nat}(h:n<4611686018427387904):bC ((n:Int)+1)=((n+1:Nat):Int):=by rw[bF (by omega) (by omega)];rfl
section
variable {α:Type}
theorem bq{l:List α}{n:Nat}{x:α}(h:l[n]? = some x):bL l (n:Int)=some x:=by simp[bL,h]
theorem cF{l:List α}{n:Nat}(h:n<l.length):bL l (n:Int)=some l[n]:=bq (by simp[h])
theorem wS{l:List α}{m n:Nat}(h:m≤n)(hn:n≤l.length):sub l (m:Int) (n:Int)=some ((l.take n).drop m):=by simp[sub,h,hn]
theorem oO{l m:List α}(h:l.length+m.length≤4294967296):bE l m=some (l++m):=by simp[bE,h]
end
end Go.Fx.R5
namespace Go.Fx.R5
open Go Go.Fx
theorem Yr(b:UInt8)(n:Nat):((b.toNat:Int)==(n:Int))=(b.toNat==n):=by
 by_cases h:b.toNat=n
 ·simp[h]
 ·have:¬ (b.toNat:Int)=(n:Int):=by omega
  rw[Q6.2 h,Q6.2 this]
theorem VZ(q:Nat):∀ k t a,pT q k t a=kn q k t a
 |0,_,_=>rfl
 |k+1,t,a=>by simp only[pT,kn,VZ q k]
theorem NZ(q:Nat):∀ k t a,oU q k t a=lj q k t a
 |0,_,_=>rfl
 |k+1,t,a=>by simp only[oU,lj,NZ q k];rfl
theorem MJ(q:Nat):∀ k t a,oV q k t a=iN q k t a
 |0,_,_=>rfl
 |k+1,t,a=>by simp only[oV,iN,MJ q k];rfl
variable {t:ab}
theorem WH(hl:t.length≤3000):∀ m lW,m+lW = t.length→∃ r:Nat,lW≤r∧r≤t.length∧(∀ b,t[lW]? = some b→b.toNat≠10→lW < r)∧
  cz fun q k=>kn q k t (lW:Int)=some ((r:Int),())
 |0,lW,h=>by
  refine⟨lW,by omega,by omega,fun b hb=>?_,cz.succ (cz.of fun q k=>?_)⟩
  ·have:=(ama.1 hb).1;omega
  ·have:¬ lW < t.length:=by omega
   simp[kn,aa,this]
 |m+1,lW,h=>by
  have bf:lW < t.length:=by omega
  by_cases hb:t[lW].toNat=10
  ·refine⟨lW,by omega,by omega,fun b hb'=>?_,cz.succ (cz.of fun q k=>?_)⟩
   ·rw[bja bf] at hb';cases hb';exact fun h=>absurd hb h
   ·simp[kn,aa,bf,cF bf,hb]
  ·obtain⟨r,h1,h2,_,h3⟩:=WH hl m (lW + 1) (by omega)
   refine⟨r,by omega,h2,fun _ _ _=>by omega,cz.succ (h3.mono fun q k e=>?_)⟩
   have hb':((t[lW].toNat:Int)==10)=false:=by rw[show(10:Int)=((10:Nat):Int) from rfl,Yr];simp[hb]
   simp only[go_sem,kn,aa,Q5,bf,cF bf,bne,hb',ag (show lW < _ by omega),e]
theorem aam(hl:t.length≤3000):∀ m lW,t.length - lW≤m→lW≤t.length→∃ r:Nat,∃ x,lW≤r∧r≤t.length∧(x=.inl ((r:Int),())∨x=.inr ((r:Int),()))∧
  cz fun q k=>jg q k t (lW:Int)=some x∧iI q k t (lW:Int)=some x:=by
 intro m;induction m with
 |zero=>
  intro lW hm h;have:¬ lW < t.length:=by omega
  exact⟨lW,.inl ((lW:Int),()),by omega,h,.inl rfl,cz.succ (cz.of fun q k=>by simp[jg,iI,this])⟩
 |succ m ih=>
  intro lW hm h;by_cases bf:lW < t.length
  ·have e32:((t[lW].toNat:Int)==32)=(t[lW].toNat==32):=Yr _ 32
   have e10:((t[lW].toNat:Int)==10)=(t[lW].toNat==10):=Yr _ 10;have e35:((t[lW].toNat:Int)==35)=(t[lW].toNat==35):=Yr _ 35;by_cases h1:t[lW].toNat=32∨t[lW].toNat=10
   ·obtain⟨r,x,a1,a2,a3,a4⟩:=ih (lW + 1) (by omega) (by omega)
    refine⟨r,x,by omega,a2,a3,cz.succ (a4.mono fun q k e=>?_)⟩
    simp only[go_sem,jg,iI,aa,Q5,bf,cF bf,e32,e10,e35,ag (show lW < _ by omega),e.1,e.2]
    rcases h1 with h1|h1<;>simp[h1]
   ·have g1:(t[lW].toNat==32)=false:=by simp;omega
    have g2:(t[lW].toNat==10)=false:=by simp;omega
    by_cases h2:t[lW].toNat=35
    ·obtain⟨r1,b1,b2,b3,b4⟩:=WH hl (t.length - lW) lW (by omega)
     have b5:lW < r1:=b3 t[lW] (by simp[bf]) (by omega)
     obtain⟨r,x,a1,a2,a3,a4⟩:=ih r1 (by omega) (by omega)
     obtain⟨K,b4⟩:=b4;refine⟨r,x,by omega,a2,a3,cz.succ ((a4.and (Ev.tn ⟨K,fun q hq=>b4 q q hq hq⟩)).mono fun q k e=>?_)⟩
     simp only[go_sem,jg,iI,aa,Q5,bf,cF bf,e32,e10,e35,g1,g2,show(t[lW].toNat==35)=true by simp[h2],VZ,e.1.1,e.1.2,e.2,bne,aPa]
    ·have g3:(t[lW].toNat==35)=false:=by simp;omega
     refine⟨lW,.inr ((lW:Int),()),by omega,by omega,.inr rfl,cz.succ (cz.of fun q k=>?_)⟩
     simp only[go_sem,jg,iI,aa,Q5,bf,cF bf,e32,e10,e35,g1,g2,g3,bne,aPa]
  ·exact⟨lW,.inl ((lW:Int),()),by omega,h,.inl rfl,cz.succ (cz.of fun q k=>by simp[jg,iI,bf])⟩
theorem Qr(hl:t.length≤3000)(a:Nat)(h:a≤t.length):∃ r:Nat,a≤r∧r≤t.length∧Ev fun k=>pi k t (a:Int)=some ((r:Int),())∧nX k t (a:Int)=some ((r:Int),()):=by obtain⟨r,x,h1,h2,h3,h4⟩:=aam hl _ a (axa _) h;refine⟨r,h1,h2,h4.j9.mono fun k e=>?_⟩;simp only[go_sem,pi,nX,e.1,e.2];rcases h3 with h3|h3<;>simp[h3]
def OO(b:UInt8):Bool:=decide (97≤b.toNat)&&decide (b.toNat≤122)
def FD(b:UInt8):Bool:=decide (48≤b.toNat)&&decide (b.toNat≤57)
theorem IJ(b:UInt8):sH (b.toNat:Int)=some (OO b,()):=by
 simp only[sH,aa,OO,show decide ((b.toNat:Int)≥97)=decide (97≤b.toNat) from cda.2 (by omega),show decide ((b.toNat:Int)≤122)=decide (b.toNat≤122) from cda.2 (by omega)]
 cases decide (97≤b.toNat)<;>simp
theorem Ih(b:UInt8):rH (b.toNat:Int)=some (FD b,()):=by
 simp only[rH,aa,FD,show decide ((b.toNat:Int)≥48)=decide (48≤b.toNat) from cda.2 (by omega),show decide ((b.toNat:Int)≤57)=decide (b.toNat≤57) from cda.2 (by omega)]
 cases decide (48≤b.toNat)<;>simp
theorem PU(b:UInt8):um (b.toNat:Int)=some (OO b,()):=IJ b
theorem VM(b:UInt8):sm (b.toNat:Int)=some (FD b,()):=Ih b
theorem aaf(hl:t.length≤3000):∀ m lW,m+lW = t.length→∃ r:Nat,lW≤r∧r≤t.length∧(∀ b,t[lW]? = some b→OO b=true→lW < r)∧cz fun q k=>lj q k t (lW:Int)=some ((r:Int),())
 |0,lW,h=>by
  refine⟨lW,by omega,by omega,fun b hb=>?_,cz.succ (cz.of fun q k=>?_)⟩
  ·have:=(ama.1 hb).1;omega
  ·have:¬ lW < t.length:=by omega
   simp[lj,aa,this]
 |m+1,lW,h=>by
  have bf:lW < t.length:=by omega
  by_cases hb:OO t[lW]=true∨FD t[lW]=true
  ·obtain⟨r,h1,h2,_,h3⟩:=aaf hl m (lW + 1) (by omega)
   refine⟨r,by omega,h2,fun _ _ _=>by omega,cz.succ (h3.mono fun q k e=>?_)⟩
   simp only[go_sem,lj,aa,Q5,bf,cF bf,IJ,Ih,ag (show lW < _ by omega),e]
   rcases hb with hb|hb
   ·simp[hb]
   ·cases OO t[lW]<;>simp[hb]
  ·refine⟨lW,by omega,by omega,fun b hb'=>?_,cz.succ (cz.of fun q k=>?_)⟩
   ·rw[bja bf] at hb';cases hb';exact fun h=>absurd (.inl h) hb
   ·simp only[cia,bCa] at hb
    simp[lj,aa,bf,cF bf,IJ,Ih,hb.1,hb.2]
theorem VN(hl:t.length≤3000):∀ m lW,m+lW = t.length→∃ r:Nat,lW≤r∧r≤t.length∧(∀ b,t[lW]? = some b→FD b=true→lW < r)∧((t.take r).drop lW).all FD=true∧cz fun q k=>iN q k t (lW:Int)=some ((r:Int),())
 |0,lW,h=>by
  refine⟨lW,by omega,by omega,fun b hb=>?_,?_,cz.succ (cz.of fun q k=>?_)⟩
  ·have:=(ama.1 hb).1;omega
  ·simp
  ·have:¬ lW < t.length:=by omega
   simp[iN,aa,this]
 |m+1,lW,h=>by
  have bf:lW < t.length:=by omega
  by_cases hb:FD t[lW]=true
  ·obtain⟨r,h1,h2,_,h4,h3⟩:=VN hl m (lW + 1) (by omega)
   refine⟨r,by omega,h2,fun _ _ _=>by omega,?_,cz.succ (h3.mono fun q k e=>?_)⟩
   ·have:(t.take r).drop lW = t[lW]::(t.take r).drop (lW + 1):=by
     rw[aLa (by simp;omega)];simp
    rw[this];simp only[bqa,hb,h4,bHa]
   ·simp only[go_sem,iN,aa,Q5,bf,cF bf,Ih,ag (show lW < _ by omega),e,hb]
  ·refine⟨lW,by omega,by omega,fun b hb'=>?_,by simp,cz.succ (cz.of fun q k=>?_)⟩
   ·rw[bja bf] at hb';cases hb';exact fun h=>absurd h hb
   ·simp only[bCa] at hb
    simp[iN,aa,bf,cF bf,Ih,hb]
end Go.Fx.R5
namespace Go.Fx.R5
open Go Go.Fx
theorem u8w{x:Int}(h1:0≤x)(h2:x<256):IntKind.u8.wrap x=x:=by unfold IntKind.wrap;simp[IntKind.bits,IntKind.signed];omega
def Je(n:Int)(b:UInt8):Int:=n * 10+((b.toNat:Int) - 48)
theorem W9{b:UInt8}(h:FD b=true):48≤b.toNat∧b.toNat≤57:=by simpa[FD] using h
theorem Uf{s:ab}(hs:s.all FD=true)(hl:s.length≤10):∀ m i (v:Int),m+i=s.length→0≤v→v<10 ^ i→
  0≤(s.drop i).foldl Je v∧cz fun q k=>mi q k s v (i:Int)=some ((s.drop i).foldl Je v,())
 |0,i,v,h,h0,h1=>by
  have:¬ i<s.length:=by omega
  have e:s.drop i=[]:=by simp;omega
  rw[e];exact⟨h0,cz.succ (cz.of fun q k=>by simp[mi,this])⟩
 |m+1,i,v,h,h0,h1=>by
  have bf:i<s.length:=by omega
  have hd:=W9 (aqa.1 hs s[i] (aQa bf));have e:s.drop i=s[i]::s.drop (i+1):=aLa bf;have hp:(10:Int) ^ (i+1)≤10 ^ 10:=by
   have:(10:Nat) ^ (i+1)≤10 ^ 10:=Nat.pow_le_pow_right (by omega) (by omega)
   exact_mod_cast this
  have hq:(10:Int) ^ (i+1)=10 ^ i * 10:=Int.pow_succ ..;have b1:0≤Je v s[i]:=by unfold Je;omega
  have b2:Je v s[i]<10 ^ (i+1):=by unfold Je;omega
  obtain⟨c1,c2⟩:=Uf hs hl m (i+1) (Je v s[i]) (by omega) b1 b2
  rw[e];refine⟨c1,cz.succ (c2.mono fun q k e=>?_)⟩;have w:bC (bC (v * 10)+bC (IntKind.u8.wrap ((s[i].toNat:Int) - 48)))=Je v s[i]:=by
   rw[u8w (by omega) (by omega),bF (x:=v * 10) (by omega) (by omega),bF (x:=(s[i].toNat:Int) - 48) (by omega) (by omega),bF (by omega) (by omega)]
   rfl
  simp only[go_sem,mi,Q5,bf,cF bf,w,ag (show i<_ by omega),e,b6a]
theorem ZN{s:ab}(hs:s.all FD=true)(h0:0<s.length):∃(v:Int) (ok:Bool),pD s=some (v,ok,())∧(ok=true→0≤v∧v≤2147483647)∧
  Ev fun k=>pJ k s=some (if ok=true then v else -1,()):=by
 have hz:s≠[]:=by intro e;rw[e] at h0;simp at h0
 have hd:SL s=true:=hs;have e0:((s.length:Int) > 10)=(10<s.length):=by simp only[bUa,eq_iff_iff];omega
 have e1:((s.length:Int) > 1)=(1<s.length):=by simp only[bUa,eq_iff_iff];omega
 have hi:s.isEmpty=false:=by simp[hz]
 have hx:bL s 0=some s[0]:=cF (n:=0) h0;have hh:s.headD 0=s[0]:=by cases s with|nil=>exact absurd rfl hz|cons a b=>rfl
 have e48:((s[0].toNat:Int)==48)=(s[0]==48):=by
  rw[show(48:Int)=((48:Nat):Int) from rfl,Yr]
  by_cases h:s[0]=48
  ·simp[h]
  ·rw[Q6.2 h];simp;exact fun h'=>h (UInt8.toNat_inj.1 h')
 by_cases hl:10<s.length
 ·exact⟨0,false,by simp[pD,hd,hi,hl],by simp,Ev.of fun k=>by simp only[go_sem,pJ,aa,e0,hl];rfl⟩
 ·by_cases h48:1<s.length∧s[0]=48
  ·exact⟨0,false,by simp only[pD,hd,hi,hh,h48.1,h48.2];rfl,by simp,Ev.of fun k=>by simp only[go_sem,pJ,aa,e0,e1,hl,h48.1,hx,h48.2];rfl⟩
  ·obtain⟨c1,c2⟩:=Uf hs (by omega) s.length 0 0 (by omega) (by omega) (by simp)
   have hb:(decide (1<s.length)&&(s[0]==48))=false:=by
    simp only[Bool.and_eq_false_iff,cna,Q6];by_cases h:1<s.length
    ·exact .inr fun h'=>h48 ⟨h,h'⟩
    ·exact .inl h
   have hv:(s.drop 0).foldl Je 0=Oe s:=rfl;rw[hv] at c1 c2;have sp:∀ k r,(mi k k s 0 0=some (r,()))→pJ k s=some (if decide (r > 2147483647) then -1 else r,()):=fun k r e=>by
    simp only[go_sem,pJ,aa,e0,e1,hl,hx,e48,e];cases h:decide (1<s.length) with
    |false=>simp only[go_sem];cases decide (r > 2147483647)<;>rfl
    |true=>
     have:(s[0]==48)=false:=by simpa[h] using hb
     rw[this];simp only[go_sem];cases decide (r > 2147483647)<;>rfl
   by_cases hm:2147483647<Oe s
   ·refine⟨0,false,?_,by simp,c2.j9.mono fun k e=>?_⟩
    ·simp only[pD,hd,hi,hh,hb];simp[hl,hm]
    ·rw[sp k _ e];simp[hm]
   ·refine⟨Oe s,true,?_,fun _=>⟨c1,by omega⟩,c2.j9.mono fun k e=>?_⟩
    ·simp only[pD,hd,hi,hh,hb];simp[hl,hm]
    ·rw[sp k _ e];simp[hm]
def PQ:XS:=[[97,114,114,97,121],[118,97,114],[114,101,102],[102,117,110,99],[105,102],[101,108,115,101],[119,104,105,108,101],[102,111,114],[114,101,97,100],[112,114,105,110,116],[97,115,115,101,114,116],[115,116,111,112],[114,101,116,117,114,110],[97,110,100],[111,114],[110,111,116],[110,117,108,108]]
theorem zY{α:Type}{f:Bool→Option α}{b c:Bool}:(aa f fun jx=>bif b then jx true else jx c)=f (b||c):=by cases b<;>rfl
theorem abo{α:Type}{j:Bool→Option α}{b c:Bool}:(bif b then j b else j c)=j (b||c):=by cases b<;>rfl
theorem aaD(t:ab):Aa t=some (PQ.contains t,()):=by simp only[Aa,zY,PQ,List.contains_cons,Bool.or_assoc];simp
theorem aef(t:ab):zN t=some (PQ.contains t,()):=by
 simp only[zN,abo,PQ,List.contains_cons];rw[show ∀ b:Bool,(aa (fun v:Bool=>bif v then some (true,()) else some (false,())) fun jx=>jx b)=some (b,()) from fun b=>by cases b<;>rfl]
 simp
def wQ(t:ab):ab:=(xR.find? (·.isPrefixOf t)).getD []
def N0(o:Option ab):Unit⊕(ab×Unit):=match o with|none=>.inl ()|some s=>.inr (s,())
theorem Z1(s r:ab):(decide (s.length≤r.length)&&(r.take s.length==s))=s.isPrefixOf r:=by
 have:s.isPrefixOf r=true↔s <+: r:=List.isPrefixOf_iff_prefix;rw[Bool.eq_iff_iff,this,List.prefix_iff_eq_take];simp only[Q3,bTa,a_a];constructor
 ·rintro⟨_,h⟩;exact h.symm
 ·intro h;refine⟨?_,h.symm⟩
  have:=bWa List.length h;simp at this;omega
theorem Qq{t:ab}(hl:t.length≤3000){a:Nat}(ha:a≤t.length):∀ m i:Nat,m+i=30→
  cz fun q k=>nw q k t (a:Int) xR (i:Int)=some (N0 ((xR.drop i).find? (·.isPrefixOf (t.drop a))))∧nh q k t (a:Int) xR (i:Int)=some (N0 ((xR.drop i).find? (·.isPrefixOf (t.drop a))))
 |0,i,h=>by
  have e:xR.drop i=[]:=by rw[show i=30 by omega];rfl
  have h1:¬ i<xR.length:=by rw[show i=30 by omega];decide
  have h2:¬ (i:Int)<30:=by omega
  rw[e];exact cz.succ (cz.of fun q k=>by simp[nw,nh,h1,h2,N0])
 |m+1,i,h=>by
  have bf:i<xR.length:=by show i<30;omega
  have h2:(i:Int)<30:=by omega
  have e:xR.drop i=xR[i]::xR.drop (i+1):=aLa bf;have ih:=Qq hl ha m (i+1) (by omega)
  have es:sub t (a:Int) (t.length:Int)=some (t.drop a):=by rw[wS ha (axa _),cva]
  have ew:bC ((t.length:Int) - a)=((t.drop a).length:Int):=by rw[bF (by omega) (by omega)];simp;omega
  rw[e,List.find?_cons];have hp:=Z1 xR[i] (t.drop a);refine cz.succ (ih.mono fun q k e=>?_);simp only[go_sem,nw,nh,aa,Q5,bf,h2,cF bf,es,Hd,ew,ag (show i<_ by omega),e.1,e.2,Int.ofNat_le]
  by_cases hc:xR[i].length≤(t.drop a).length
  ·have hc':a+xR[i].length≤t.length:=by simp at hc;omega
   have e3:sub t (a:Int) (bC ((a:Int)+(xR[i].length:Int)))=some ((t.drop a).take xR[i].length):=by
    rw[bF (by omega) (by omega),show(a:Int)+(xR[i].length:Int)=((a+xR[i].length:Nat):Int) from rfl,wS (by omega) hc']
    rw[List.drop_take];congr 2;omega
   simp only[go_sem,hc,e3];rw[show(List.take xR[i].length (List.drop a t)==xR[i])=xR[i].isPrefixOf (t.drop a) by rw[←hp,decide_eq_true hc,Bool.true_and]]
   cases xR[i].isPrefixOf (t.drop a)<;>simp[N0]
  ·have:xR[i].isPrefixOf (t.drop a)=false:=by rw[←hp];simp;intro h;simp at hc;omega
   simp only[go_sem,hc,this,aPa]
theorem XU{t:ab}(hl:t.length≤3000){a:Nat}(ha:a<t.length):
  Ev fun k=>z8 k t (a:Int)=some (wQ (t.drop a),())∧zM k t (a:Int)=some (wQ (t.drop a),()):=by
 refine(Qq hl (Nat.le_of_lt ha) 30 0 rfl).j9.mono fun k e=>?_;have h0:¬ (a:Int)<0:=by omega
 have h1:¬ (a:Int)≥t.length:=by omega
 have e1:nw k k t (a:Int) xR 0=some (N0 (xR.find? (·.isPrefixOf (t.drop a)))):=e.1
 have e2:nh k k t (a:Int) xR 0=some (N0 (xR.find? (·.isPrefixOf (t.drop a)))):=e.2
 have e3:xO=some (xR,()):=rfl;simp only[go_sem,z8,zM,aa,h0,h1,e3,e1,e2,wQ];cases xR.find? (·.isPrefixOf (t.drop a))<;>simp[N0]
theorem aal{t:ab}(h:wQ t≠[]):wQ t∈xR∧wQ t <+: t:=by
 unfold wQ at h ⊢;cases hf:xR.find? (·.isPrefixOf t) with
 |none=>simp[hf] at h
 |some s=>have h2:s.isPrefixOf t=true:=cxa (p:=fun x:ab=>x.isPrefixOf t) hf;exact⟨b1a hf,List.isPrefixOf_iff_prefix.1 h2⟩
end Go.Fx.R5
namespace Go.Fx.R5
open Go Go.Fx
abbrev zD:=Int×Int×ab×Int
structure Mo(x:zD):Prop where
 k:(x.1=1∧PQ.contains x.2.2.1=false∧xR.contains x.2.2.1=false∧x.2.2.1≠[])∨(x.1=2∧PQ.contains x.2.2.1=false∧xR.contains x.2.2.1=false)∨
  (x.1=3∧PQ.contains x.2.2.1=true∧xR.contains x.2.2.1=false)∨(x.1=4∧xR.contains x.2.2.1=true∧PQ.contains x.2.2.1=false)
 num:0≤x.2.2.2∧x.2.2.2≤2147483647
 lW:0≤x.2.1∧x.2.1≤3000
theorem abI:∀ s∈xR,(s.head?.map fun c=>OO c||FD c)=some false:=by decide +kernel
theorem af2:∀ s∈PQ,(s.head?.map OO)=some true:=by decide +kernel
theorem adz:∀ s∈PQ,(s.head?.map FD)=some false:=by decide +kernel
theorem ad1:∀ s∈xR,0<s.length∧s.length≤2:=by decide +kernel
theorem afA:∀ s∈xR,PQ.contains s=false:=by decide +kernel
theorem ZL{s:ab}{c:UInt8}(h:s.head? = some c)(hc:OO c=true∨FD c=true):xR.contains s=false:=by
 cases h':xR.contains s with
 |false=>rfl
 |true=>
  have:=abI s (by simpa using h')
  rw[h] at this;simp only[bLa,Ob,aGa] at this;rcases hc with hc|hc
  ·rw[this.1] at hc;cases hc
  ·rw[this.2] at hc;cases hc
theorem adM{s:ab}{c:UInt8}(h:s.head? = some c)(hc:FD c=true):PQ.contains s=false:=by
 cases h':PQ.contains s with
 |false=>rfl
 |true=>
  have:=adz s (by simpa using h')
  rw[h] at this;simp only[bLa,Ob] at this;rw[this] at hc;cases hc
theorem SJ{t:ab}{a r:Nat}(h:a<r)(hr:r≤t.length):((t.take r).drop a).head? = t[a]?:=by rw[List.head?_drop,bra h]
theorem LR{t:ab}{a r:Nat}(hr:r≤t.length):((t.take r).drop a).length=r - a:=by simp;omega
theorem Pi{t:ab}{a r:Nat}(h:t.length≤3000):B4 ((t.take r).drop a)=some ((t.take r).drop a,()):=by unfold B4;rw[show decide (((t.take r).drop a).length≤281474976710656)=true by simp;omega];rfl
theorem Vr{t:ab}(hl:t.length≤3000){a:Nat}(ha:a<t.length):∃(x y:zD) (e:Nat) (c:Int),
  (Ev fun k=>oA k t (a:Int)=some (x,(e:Int),c,())∧jX k t (a:Int)=some (y,c,()))∧
  (c=0→x=y∧e=a+y.2.2.1.length∧a<e∧e≤t.length∧Mo y):=by
 have hx:bL t (a:Int)=some t[a]:=cF ha;have hg:t[a]? = some t[a]:=by simp[ha]
 cases bf:OO t[a] with
 |true=>
  obtain⟨r,h1,h2,h3,h4⟩:=aaf hl (t.length - a) a (by omega)
  have h5:a<r:=h3 _ hg bf;have es:sub t (a:Int) (r:Int)=some ((t.take r).drop a):=wS h1 h2;have jB:(((t.take r).drop a).length:Int)=(r:Int) - a:=by rw[LR h2];omega
  have hh:((t.take r).drop a).head? = some t[a]:=by rw[SJ h5 h2,hg]
  have h4:=h4.j9;by_cases h8:(r:Int) - a > 8
  ·refine⟨(if PQ.contains ((t.take r).drop a) then 3 else 1,a,(t.take r).drop a,0),(0,0,[],0),r,3,h4.mono fun k e=>?_,fun h=>by cases h⟩
   simp only[go_sem,oA,jX,Cq,hx,IJ,PU,bf,NZ,e,es,jB,h8,bF (x:=(r:Int) - a) (by omega) (by omega),aaD,aa]
   cases PQ.contains ((t.take r).drop a)<;>simp
  ·refine⟨(if PQ.contains ((t.take r).drop a) then 3 else 1,a,(t.take r).drop a,0),(if PQ.contains ((t.take r).drop a) then 3 else 1,a,(t.take r).drop a,0),r,0,h4.mono fun k e=>?_,fun _=>⟨rfl,?_,h5,h2,?_,by simp,by simp;omega⟩⟩
   ·simp only[go_sem,oA,jX,Cq,hx,IJ,PU,bf,NZ,e,es,jB,h8,bF (x:=(r:Int) - a) (by omega) (by omega),aaD,aef,aa,Pi hl]
    cases PQ.contains ((t.take r).drop a)<;>simp
   ·simp only[LR h2];omega
   ·have hs:=ZL hh (.inl bf)
    cases hk:PQ.contains ((t.take r).drop a) with
    |true=>exact .inr (.inr (.inl ⟨by simp,rfl,hs⟩))
    |false=>exact .inl ⟨by simp,rfl,hs,fun e=>by have e:(t.take r).drop a=[]:=e;rw[e] at hh;cases hh⟩
 |false=>
  cases hdg:FD t[a] with
  |true=>
   obtain⟨r,h1,h2,h3,h6,h4⟩:=VN hl (t.length - a) a (by omega)
   have h5:a<r:=h3 _ hg hdg;have es:sub t (a:Int) (r:Int)=some ((t.take r).drop a):=wS h1 h2;have hh:((t.take r).drop a).head? = some t[a]:=by rw[SJ h5 h2,hg]
   obtain⟨v,ok,g1,g2,g3⟩:=ZN h6 (by rw[LR h2];omega)
   have h4:=h4.j9;cases ok with
   |false=>
    refine⟨(2,a,(t.take r).drop a,-1),(0,0,[],0),r,4,(h4.and g3).mono fun k e=>?_,fun h=>by cases h⟩
    simp only[go_sem,oA,jX,vR,hx,IJ,PU,bf,MJ,e.1,e.2,es,Ih,VM,hdg,g1];simp
   |true=>
    have gv:=g2 rfl;refine⟨(2,a,(t.take r).drop a,v),(2,a,(t.take r).drop a,v),r,0,(h4.and g3).mono fun k e=>?_,fun _=>⟨rfl,?_,h5,h2,.inr (.inl ⟨rfl,adM hh hdg,ZL hh (.inr hdg)⟩),gv,by simp;omega⟩⟩
    ·have:¬ v<0:=by omega
     simp only[go_sem,oA,jX,vR,hx,IJ,PU,bf,MJ,e.1,e.2,es,Ih,VM,hdg,g1,Pi hl];simp[this]
    ·simp only[LR h2];omega
  |false=>
   have hs:=XU hl ha;by_cases hz:wQ (t.drop a)=[]
   ·refine⟨(4,a,[],0),(0,0,[],0),a,2,hs.mono fun k e=>?_,fun h=>by cases h⟩
    simp only[go_sem,oA,jX,hx,IJ,PU,bf,Ih,VM,hdg,e.1,e.2,hz];simp
   ·obtain⟨m1,m2⟩:=aal hz
    have B8:=m2.length_le;have h2:=ad1 _ m1;refine⟨(4,a,wQ (t.drop a),0),(4,a,wQ (t.drop a),0),a+(wQ (t.drop a)).length,0,hs.mono fun k e=>?_,fun _=>⟨rfl,rfl,by omega,by simp at B8;omega,.inr (.inr (.inr ⟨rfl,by simpa using m1,afA _ m1⟩)),by simp,by simp;omega⟩⟩
    have:(wQ (t.drop a)==[])=false:=by simpa using hz
    simp only[go_sem,oA,jX,hx,IJ,PU,bf,Ih,VM,hdg,e.1,e.2,this];rw[bF (by omega) (by omega)]
    simp
theorem Zv{t:ab}(hl:t.length≤3000):∀ m (a:Nat) (out:List zD),t.length - a≤m→a≤t.length→out.length≤700→(∀ x∈out,Mo x)→
  (∃ O4:List zD,O4.length≤700∧(∀ x∈O4,Mo x)∧cz fun q k=>fe q k t 0 0 [] out (a:Int)=some (.inl (0,0,O4,()))∧eZ q k t 0 0 out (a:Int)=some (.inl (0,0,O4,())))∨
  ∃(c:Int) (a':Int),c≠0∧cz fun q k=>fe q k t 0 0 [] out (a:Int)=some (.inr (c,a',[],()))∧eZ q k t 0 0 out (a:Int)=some (.inr (c,a',())):=by
 intro m;induction m with
 |zero=>
  intro a out hm ha ho hok;have:¬ a<t.length:=by omega
  exact .inl ⟨out,ho,hok,cz.succ (cz.of fun q k=>by simp[fe,eZ,this])⟩
 |succ m ih=>
  intro a out hm ha ho hok;by_cases bf:a<t.length
  ·obtain⟨x,y,e,c,h1,h2⟩:=Vr hl bf
   by_cases hc:c=0
   ·subst hc
    obtain⟨rfl,he,h3,h4,h5⟩:=h2 rfl;by_cases h7:out.length=700
    ·refine .inr ⟨5,a,by omega,cz.succ (h1.tn.mono fun q k e=>?_)⟩
     simp only[go_sem,fe,eZ,Q5,bf,e.1,e.2,aa];simp[h7]
    ·obtain⟨r,g1,g2,g3⟩:=Qr hl e h4
     have e7:((out.length:Int)==700)=false:=by simp;omega
     have e8:¬ (out.length:Int)≥700:=by omega
     have ea:bE out [x]=some (out++[x]):=oO (by simp;omega)
     have ew:bC ((a:Int)+(x.2.2.1.length:Int))=(e:Int):=by rw[he,bF (by omega) (by omega)];simp
     have Dt:∀{q k:Nat} {s1 s2},(oA q t (a:Int)=some (x,(e:Int),0,())∧jX q t (a:Int)=some (x,0,()))→(pi q t (e:Int)=some ((r:Int),())∧nX q t (e:Int)=some ((r:Int),()))→
       (fe q k t 0 0 [] (out++[x]) (r:Int)=s1∧eZ q k t 0 0 (out++[x]) (r:Int)=s2)→
       fe q (k+1) t 0 0 [] out (a:Int)=s1∧eZ q (k+1) t 0 0 out (a:Int)=s2:=by
      intro q k s1 s2 i1 i2 i3;simp only[go_sem,fe,eZ,Q5,bf,i1.1,i1.2,aa,e7,e8,ea,ew,i2.1,i2.2,i3.1,i3.2];simp
     have agz:∀ z∈out++[x],Mo z:=by
      intro z hz;rcases ana.1 hz with hz|hz
      ·exact hok z hz
      ·rw[Q7.1 hz];exact h5
     rcases ih r (out++[x]) (by omega) (by omega) (by simp;omega) agz with ⟨O4,o1,o2,o3⟩|⟨c,a',o1,o2⟩
     ·exact .inl ⟨O4,o1,o2,cz.succ (((h1.tn.and g3.tn).and o3).mono fun q k e=>Dt e.1.1 e.1.2 e.2)⟩
     ·exact .inr ⟨c,a',o1,cz.succ (((h1.tn.and g3.tn).and o2).mono fun q k e=>Dt e.1.1 e.1.2 e.2)⟩
   ·refine .inr ⟨c,a,hc,cz.succ (h1.tn.mono fun q k e=>?_)⟩
    have LV:(c==0)=false:=by simpa using hc
    simp only[go_sem,fe,eZ,Q5,bf,e.1,e.2,aa,bne,LV];simp
  ·exact .inl ⟨out,ho,hok,cz.succ (cz.of fun q k=>by simp[fe,eZ,bf])⟩
theorem Zu(t:ab):(∃ ts:List zD,t.length≤3000∧ts.length≤700∧(∀ x∈ts,Mo x)∧Ev fun k=>nv k t=some (ts,(0,0),())∧ng k t=some (ts,(0,0),()))∨
  ∃(c:Int) (a:Int),c≠0∧Ev fun k=>nv k t=some ([],(c,a),())∧ng k t=some ([],(c,a),()):=by
 by_cases hl:t.length≤3000
 ·have h0:¬ (t.length:Int) > 3000:=by omega
  obtain⟨r,g1,g2,g3⟩:=Qr hl 0 (by omega)
  rcases Zv hl _ r [] (axa _) g2 (by simp) (by simp) with ⟨o,o1,o2,o3⟩|⟨c,a,o1,o3⟩
  ·refine .inl ⟨o,hl,o1,o2,(g3.and o3.j9).mono fun k e=>?_⟩
   have e1:pi k t 0=some ((r:Int),()):=e.1.1;have e2:nX k t 0=some ((r:Int),()):=e.1.2;simp only[go_sem,nv,ng,h0,e1,e2,e.2.1,e.2.2,aPa]
  ·refine .inr ⟨c,a,o1,(g3.and o3.j9).mono fun k e=>?_⟩
   have e1:pi k t 0=some ((r:Int),()):=e.1.1;have e2:nX k t 0=some ((r:Int),()):=e.1.2;simp only[go_sem,nv,ng,h0,e1,e2,e.2.1,e.2.2,aPa]
 ·have h0:(t.length:Int) > 3000:=by omega
  exact .inr ⟨1,0,by omega,Ev.of fun k=>by simp[nv,ng,h0]⟩
end Go.Fx.R5
namespace Go.Fx.R5
open Go Go.Fx
abbrev eu:=Int×Int×Int×ab×XI
def aN(ts:List zD)(a:Nat)(w:ab):Bool:=match ts[a]? with|some x=>x.2.2.1==w|none=>false
def uq(ts:List zD)(a:Nat)(k:Int):Bool:=match ts[a]? with|some x=>x.1==k|none=>false
def pl(ts:List zD)(en:Int)(a:Nat):Int:=match ts[a]? with|some x=>x.2.1|none=>en
def tk(ts:List zD)(a:Nat):zD:=(ts[a]?).getD (0,0,[],0)
def sg(ts:List zD)(a:Nat):ab:=bif uq ts a 4 then(tk ts a).2.2.1 else []
structure pu(ts:List zD):Prop where
 len:ts.length≤700
 ok:∀ x∈ts,Mo x
def isW(w:ab):Bool:=PQ.contains w||xR.contains w
section
variable {ts:List zD} {a:Nat} {w:ab} {en:Int} {k:Int} {d:Nat} {ns:List eu} {c p:Int}
theorem bB(h:aN ts a w=true):a<ts.length:=by
 unfold aN at h;cases hx:ts[a]? with
 |none=>simp[hx] at h
 |some x=>exact(ama.1 hx).1
theorem jT(h:uq ts a k=true):a<ts.length:=by
 unfold uq at h;cases hx:ts[a]? with
 |none=>simp[hx] at h
 |some x=>exact(ama.1 hx).1
theorem iG(h:a<ts.length):ts[a]? = some (tk ts a):=by simp[tk,h]
theorem Qz(hs:pu ts)(h:a<ts.length):Mo (tk ts a):=hs.ok _ (a2a (iG h))
theorem JW(h:uq ts a k=true):(tk ts a).1=k:=by have:=jT h;simp only[uq,iG this,a_a] at h;exact h
theorem WE(h:aN ts a w=true):(tk ts a).2.2.1=w:=by have:=bB h;simp only[aN,iG this,a_a] at h;exact h
theorem ww(h:¬ a<ts.length):ts[a]? = none:=by simp;omega
theorem T0(hs:pu ts)(hw:isW w=true)(hk:k=1∨k=2)(h:aN ts a w=true):uq ts a k=false:=by
 cases hi:uq ts a k with
 |false=>rfl
 |true=>
  have h1:=bB h;have h2:=(Qz hs h1).k;rw[JW hi,WE h] at h2;simp only[isW,a6a] at hw;rcases h2 with ⟨e,f,g,_⟩|⟨e,f,g⟩|⟨e,_⟩|⟨e,_⟩
  ·rw[f,g] at hw;simp at hw
  ·rw[f,g] at hw;simp at hw
  ·omega
  ·omega
theorem afg(hs:pu ts)(hw:isW w=true)(hk:k=1∨k=2)(h:uq ts a k=true):aN ts a w=false:=by
 cases hi:aN ts a w with
 |false=>rfl
 |true=>rw[T0 hs hw hk hi] at h;cases h
theorem af0(h:uq ts a 1=true):uq ts a 2=false:=by have h1:=jT h;have:=JW h;simp only[uq,iG h1];rw[this];rfl
theorem af1(h:uq ts a 2=true):uq ts a 1=false:=by have h1:=jT h;have:=JW h;simp only[uq,iG h1];rw[this];rfl
theorem aC{w':ab}(h:aN ts a w=true)(hw:(w==w')=false):aN ts a w' = false:=by have h1:=bB h;have:=WE h;simp only[aN,iG h1];rw[this];exact hw
theorem tx(hl:a≤4000000000000000000):eV ts (a:Int) 0 w=some (aN ts a w,()):=by
 have:bC ((a:Int)+0)=(a:Int):=by rw[bF (by omega) (by omega)];simp
 simp only[eV,this,aa,Q5];by_cases h:a<ts.length
 ·simp only[go_sem,h,bq (iG h),aN,iG h]
 ·simp only[go_sem,h,aN,ww h]
theorem zL(hl:a≤4000000000000000000):eV ts (a:Int) 1 w=some (aN ts (a+1) w,()):=by
 have:bC ((a:Int)+1)=((a+1:Nat):Int):=ag (by omega)
 simp only[eV,this,aa,Q5];by_cases h:a+1<ts.length
 ·simp only[go_sem,h,bq (iG h),aN,iG h]
 ·simp only[go_sem,h,aN,ww h]
theorem aJ(hl:a≤4000000000000000000):aG ts (a:Int) w=some (aN ts a w,((if aN ts a w=true then a+1 else a:Nat):Int),()):=by
 simp only[go_sem,aG,tx hl,ag (show a<_ by omega)]
 cases aN ts a w<;>simp
theorem an:dn ts en (a:Int)=some (pl ts en a,()):=by
 simp only[dn,Q5];by_cases h:a<ts.length
 ·simp only[go_sem,h,bq (iG h),pl,iG h]
 ·simp only[go_sem,h,pl,ww h]
theorem py:gZ ts en (a:Int) c=some (c,pl ts en a,()):=by simp only[go_sem,gZ,an]
theorem aR:iC ts (a:Int) k=some (uq ts a k,()):=by
 simp only[iC,aa,Q5];by_cases h:a<ts.length
 ·simp only[go_sem,h,bq (iG h),uq,iG h]
 ·simp only[go_sem,h,uq,ww h]
theorem bS(hl:a≤4000000000000000000):dr ts en (a:Int) k=some (if uq ts a k=true then .inl (tk ts a,((a+1:Nat):Int),()) else .inr (6,pl ts en a,())):=by
 have e:bC (bC ((a:Int)+1) - 1)=(a:Int):=by rw[bF (x:=(a:Int)+1) (by omega) (by omega),bF (by omega) (by omega)];omega
 simp only[go_sem,dr,aR,py,e];simp only[ag (show a<_ by omega)]
 cases h:uq ts a k with
 |true=>simp[bq (iG (jT h))]
 |false=>simp
theorem aM(hl:a≤4000000000000000000):a8 ts en (a:Int) w=some (if aN ts a w=true then .inl (((a+1:Nat):Int),()) else .inr (6,pl ts en a,())):=by
 simp only[go_sem,a8,aJ hl];cases h:aN ts a w with
 |true=>simp
 |false=>simp[py]
theorem LN(h:ns.length≤4000000)(n:eu):bE ns [n]=some (ns++[n])∧bC (((ns++[n]).length:Int) - 1)=(ns.length:Int):=
 ⟨oO (by simp;omega),by rw[aua,caa,bF (by omega) (by omega)];omega⟩
theorem ip(h:ns.length≤4000000)(n:eu):bH ns n=some ((ns.length:Int),ns++[n],()):=by simp only[go_sem,bH,(LN h n).1,(LN h n).2]
theorem gh(hl:a≤4000000000000000000)(h:ns.length≤4000000):fd ts en (a:Int) ns k =
  some (if uq ts a 1=true then .inl ((ns.length:Int),((a+1:Nat):Int),ns++[(k,(tk ts a).2.1,0,(tk ts a).2.2.1,[])],()) else .inr (6,pl ts en a,())):=by
 simp only[go_sem,fd,bS hl];cases uq ts a 1 with
 |true=>simp[ip h]
 |false=>simp
theorem gU(hd:d≤10):fR ts en (a:Int) (d:Int)=some (if d<10 then .inl (((d+1:Nat):Int),()) else .inr (7,pl ts en a,())):=by
 simp only[go_sem,fR,ag (show d<_ by omega),py]
 by_cases h2:d<10
 ·have:¬ ((d+1:Nat):Int) > 10:=by omega
  simp only[go_sem,this,h2,ava]
 ·have:((d+1:Nat):Int) > 10:=by omega
  simp only[go_sem,this,h2,aka]
theorem cg(hs:pu ts)(hw:isW w=true):fK ts (a:Int) 0 w=some (aN ts a w,()):=by
 simp only[go_sem,fK,aa,Q5];by_cases h:a<ts.length
 ·simp only[go_sem,h,bq (iG h),aN,iG h]
  cases hx:((tk ts a).2.2.1==w) with
  |false=>rfl
  |true=>
   have h2:=(Qz hs h).k;rw[a_a.1 hx] at h2;simp only[isW,a6a] at hw;have:(tk ts a).1≥3:=by
    rcases h2 with ⟨e,f,g,_⟩|⟨e,f,g⟩|⟨e,_⟩|⟨e,_⟩
    ·rw[f,g] at hw;simp at hw
    ·rw[f,g] at hw;simp at hw
    ·omega
    ·omega
   simp[this]
 ·simp only[go_sem,h,aN,ww h]
theorem ae(hs:pu ts)(hw:isW w=true)(hl:a≤4000000000000000000):b8 ts (a:Int) 0 w=some (aN ts a w,((if aN ts a w=true then a+1 else a:Nat):Int),()):=by
 simp only[go_sem,b8,cg hs hw,ag (show a<_ by omega)]
 cases aN ts a w<;>simp
theorem bo:dl ts (a:Int) en=some (pl ts en a,()):=an
theorem aQ:jj ts (a:Int) 0 k=some (uq ts a k,()):=by
 simp only[go_sem,jj,aa,Q5];by_cases h:a<ts.length
 ·simp only[go_sem,h,bq (iG h),uq,iG h]
 ·simp only[go_sem,h,uq,ww h]
theorem Kj:ji ts (a:Int) en 0 0 c=some (c,pl ts en a,()):=by simp only[go_sem,ji,bo]
theorem df(hl:a≤4000000000000000000):dI ts (a:Int) en 0 0=some (if uq ts a 1=true then((tk ts a).2.2.1,((a+1:Nat):Int),0,0,()) else([],(a:Int),6,pl ts en a,())):=by
 have e:bC (bC ((a:Int)+1) - 1)=(a:Int):=by rw[bF (x:=(a:Int)+1) (by omega) (by omega),bF (by omega) (by omega)];omega
 simp only[go_sem,dI,aQ,Kj,e];simp only[ag (show a<_ by omega)]
 cases h:uq ts a 1 with
 |true=>simp[bq (iG (jT h))]
 |false=>simp
theorem o7(hl:a≤4000000000000000000):mn ts (a:Int) en 0 0=some (if uq ts a 2=true then((tk ts a).2.2.2,((a+1:Nat):Int),0,0,()) else(0,(a:Int),6,pl ts en a,())):=by
 have e:bC (bC ((a:Int)+1) - 1)=(a:Int):=by rw[bF (x:=(a:Int)+1) (by omega) (by omega),bF (by omega) (by omega)];omega
 simp only[go_sem,mn,aQ,Kj,e];simp only[ag (show a<_ by omega)]
 cases h:uq ts a 2 with
 |true=>simp[bq (iG (jT h))]
 |false=>simp
theorem aj(hs:pu ts)(hw:isW w=true)(hl:a≤4000000000000000000):aO ts (a:Int) en 0 0 w=some (if aN ts a w=true then(((a+1:Nat):Int),0,0,()) else((a:Int),6,pl ts en a,())):=by
 simp only[go_sem,aO,ae hs hw hl];cases h:aN ts a w with
 |true=>simp
 |false=>simp[Kj]
theorem dZ(h:ns.length≤4000000)(n:eu):aW ns 0 n=some ((ns.length:Int),ns++[n],()):=by simp only[go_sem,aW,(LN h n).1,(LN h n).2]
theorem mf(hd:d≤10):iJ ts (a:Int) en (d:Int) 0 0=some (if d<10 then(true,((d+1:Nat):Int),0,0,()) else(false,((d+1:Nat):Int),7,pl ts en a,())):=by
 simp only[iJ,aa,ag (show d<_ by omega),Kj,bFa]
 by_cases h2:d<10
 ·have:¬ ((d+1:Nat):Int) > 10:=by omega
  simp only[this,cja,aoa,h2,ava];rfl
 ·have:((d+1:Nat):Int) > 10:=by omega
  simp only[this,decide_true,aja,h2,aka];rfl
theorem Hx:mP ts (a:Int) 0=some (sg ts a,()):=by
 simp only[go_sem,mP,aQ,sg];cases h:uq ts a 4 with
 |true=>simp[bq (iG (jT h))]
 |false=>simp
theorem KJ(hl:a≤4000000000000000000)(h:ns.length≤4000000)(hk:uq ts a 1=true):oi ts (a:Int) en ns 0 0=some ((ns.length:Int),((a+1:Nat):Int),ns++[(23,pl ts en a,0,(tk ts a).2.2.1,[])],0,0,()):=by simp only[go_sem,oi,bo,df hl,hk,ava,dZ h]
theorem EE(hs:pu ts)(hw:xR.contains w=true)(hl:a≤4000000000000000000):vS ts (a:Int) w=some (aN ts (a+1) w,()):=by
 simp only[vS,aa,ag (show a<_ by omega),Q5]
 by_cases h:a+1<ts.length
 ·simp only[go_sem,h,bq (iG h),aN,iG h]
  cases hx:((tk ts (a+1)).2.2.1==w) with
  |false=>rfl
  |true=>
   have h2:=(Qz hs h).k;rw[a_a.1 hx] at h2;have:(tk ts (a+1)).1=4:=by
    rcases h2 with ⟨e,f,g,_⟩|⟨e,f,g⟩|⟨e,_,g⟩|⟨e,_⟩
    ·rw[g] at hw;cases hw
    ·rw[g] at hw;cases hw
    ·rw[g] at hw;cases hw
    ·exact e
   simp[this]
 ·simp only[go_sem,h,aN,ww h]
variable (hc:c≠0)
include hc
theorem lZ:fK ts (a:Int) c w=some (false,()):=by simp[fK,aa,Q6.2 hc]
theorem dN:b8 ts (a:Int) c w=some (false,(a:Int),()):=by simp[b8,lZ hc]
theorem fE:jj ts (a:Int) c k=some (false,()):=by simp[jj,aa,Q6.2 hc]
theorem fj{c':Int}:ji ts (a:Int) en c p c' = some (c,p,()):=by simp[ji,Q6.2 hc]
theorem eo:dI ts (a:Int) en c p=some ([],(a:Int),c,p,()):=by simp[dI,fE hc,fj hc]
theorem yx:mn ts (a:Int) en c p=some (0,(a:Int),c,p,()):=by simp[mn,fE hc,fj hc]
theorem cX:aO ts (a:Int) en c p w=some ((a:Int),c,p,()):=by simp[aO,dN hc,fj hc]
theorem co(n:eu):aW ns c n=some (0,ns,()):=by simp[aW,bne,Q6.2 hc]
theorem eS{d:Int}:iJ ts (a:Int) en d c p=some (false,bC (d+1),c,p,()):=by
 have:(c==0)=false:=by simpa using hc
 simp only[go_sem,iJ,aa,fj hc,this];cases decide (bC (d+1) > 10)<;>rfl
theorem YJ:mP ts (a:Int) c=some ([],()):=by simp[mP,fE hc]
theorem jI:oi ts (a:Int) en ns c p=some (0,(a:Int),ns,c,p,()):=by simp[oi,bo,eo hc,co hc]
end
end Go.Fx.R5
namespace Go.Fx.R5
open Go Go.Fx
def kd(ns:List eu)(j:Int):Int:=match ns[j.toNat]? with|some x=>x.1|none=>0
def Bk(k:Int):Bool:=k==24||k==25||k==26||k==27||k==28
def t7(k:Int):Bool:=k==30||k==31||k==32||k==33||k==34
def OM(k:Int):Bool:=decide (9≤k)&&decide (k≤22)
def wL(k:Int):Bool:=k==5||k==6||k==7
def FM(k:Int):Bool:=k==2||k==3||k==4
def cm(k:Int)(l:XI):Bool:=
 if k=24∨k=25∨k=27∨k=29∨k=23∨k=34∨k=17∨k=20∨k=2∨k=3∨k=5∨k=6∨k=7 then l.isEmpty
 else if k=26∨k=11∨k=13∨k=18∨k=21 then(match l with|[a]=>Bk a|_=>false)
 else if k=9 then(match l with|[a]=>Bk a||a==29|_=>false)
 else if k=28∨k=30∨k=10 then(match l with|[a,b]=>Bk a&&Bk b|_=>false)
 else if k=12 then(match l with|[a,b]=>a==23&&Bk b|_=>false)
 else if k=22 then(match l with|a::r=>a==23&&r.all Bk|_=>false)
 else if k=31∨k=32 then(match l with|[a,b]=>t7 a&&t7 b|_=>false)
 else if k=33∨k=19 then(match l with|[a]=>t7 a|_=>false)
 else if k=14 then(match l with|[a,b]=>t7 a&&b==8|[a,b,c]=>t7 a&&b==8&&c==8|_=>false)
 else if k=15 then(match l with|[a,b]=>t7 a&&b==8|_=>false)
 else if k=16 then(match l with|[a,b,c]=>Bk a&&Bk b&&c==8|_=>false)
 else if k=8 then l.all OM
 else if k=4 then l.dropLast.all wL&&l.getLast?==some 8
 else if k=1 then l.all FM
 else false
structure oo(ns:List eu)(i:Nat)(x:eu):Prop where
 cL:∀ j∈x.2.2.2.2,0≤j∧j<(i:Int)
 shp:cm x.1 (x.2.2.2.2.map (kd ns))=true
 nm:(x.1=4→x.2.2.2.1≠[])∧x.2.2.2.2.length≤5000
def jC(ns:List eu):Prop:=∀ i x,ns[i]? = some x→oo ns i x
theorem qH{ns eD:List eu}(h:ns <+: eD){j:Int}(h0:0≤j)(h1:j<ns.length):kd eD j=kd ns j:=by
 obtain⟨r,rfl⟩:=h;have:j.toNat<ns.length:=by omega
 simp only[kd,aUa this]
theorem ru{ns:List eu}{x:eu}:kd (ns++[x]) (ns.length:Int)=x.1:=by simp[kd]
theorem oo.up{ns eD:List eu}{i:Nat}{x:eu}(h:oo ns i x)(hp:ns <+: eD)(hi:i≤ns.length):oo eD i x:=by
 refine⟨h.cL,?_,h.nm⟩;rw[show x.2.2.2.2.map (kd eD)=x.2.2.2.2.map (kd ns) from b4a fun j hj=>by
  have:=h.cL j hj;exact qH hp this.1 (by omega)]
 exact h.shp
theorem jC.add{ns:List eu}{x:eu}(h:jC ns)(hx:oo ns ns.length x):jC (ns++[x]):=by
 intro i y hy;by_cases hi:i<ns.length
 ·rw[aUa hi] at hy
  exact(h i y hy).up ⟨[x],rfl⟩ (by omega)
 ·rw[aSa (by omega)] at hy
  have:i - ns.length=0:=by have:=(ama.1 hy).1;simp at this;omega
  rw[this] at hy;simp only[bda,Ob] at hy;subst hy;have hi:i=ns.length:=by omega
  subst hi;exact hx.up ⟨[x],rfl⟩ (by omega)
theorem jC.nil:jC []:=fun i x h=>by simp at h
def wts(ns:List eu):List Nat:=ns.foldl (fun ws x=>ws++[1+(x.2.2.2.2.map fun j=>ws.getD j.toNat 0).sum]) []
def wt(ns:List eu)(j:Int):Nat:=(wts ns).getD j.toNat 0
def jQ(ns:List eu)(l:XI):Nat:=(l.map (wt ns)).sum
theorem R7(ns:List eu)(x:eu):wts (ns++[x])=wts ns++[1+jQ ns x.2.2.2.2]:=by simp only[wts,List.foldl_append,b6a,List.foldl_nil];rfl
theorem R8(ns:List eu):(wts ns).length=ns.length:=by
 have key:∀(n:Nat) (ns:List eu),ns.length=n→(wts ns).length=ns.length:=by
  intro n;induction n with
  |zero=>intro ns h;rw[List.length_eq_zero_iff.1 h];rfl
  |succ n ih=>
   intro ns h;have ik:ns≠[]:=by intro e;rw[e] at h;cases h
   have e:=List.dropLast_concat_getLast ik;rw[←e,R7,aua,aua,ih ns.dropLast (by simp;omega)];rfl
 exact key _ ns rfl
theorem abU{ns eD:List eu}(h:ns <+: eD):wts ns <+: wts eD:=by
 obtain⟨r,rfl⟩:=h;induction r generalizing ns with
 |nil=>simp
 |cons x r ih=>have:=ih (ns:=ns++[x]);rw[R7,a5a] at this;exact(aMa _ _).trans this
theorem rX{ns eD:List eu}(h:ns <+: eD){j:Int}(h0:0≤j)(h1:j<ns.length):wt eD j=wt ns j:=by
 obtain⟨r,e⟩:=abU h;have:j.toNat<(wts ns).length:=by rw[R8];omega
 simp only[wt,←e,a9a,aUa this]
theorem om{ns:List eu}{x:eu}:wt (ns++[x]) (ns.length:Int)=1+jQ ns x.2.2.2.2:=by simp only[wt,R7,aDa,a9a];rw[aSa (by rw[R8];omega),R8];simp
theorem zO(ns:List eu):jQ ns []=0:=rfl
theorem ph(ns:List eu)(a:Int):jQ ns [a]=wt ns a:=by simp[jQ]
theorem yC(ns:List eu)(a b:Int):jQ ns [a,b]=wt ns a+wt ns b:=by simp[jQ]
theorem PP(ns:List eu)(a b c:Int):jQ ns [a,b,c]=wt ns a+(wt ns b+wt ns c):=by simp[jQ]
theorem qI(ns:List eu)(l m:XI):jQ ns (l++m)=jQ ns l+jQ ns m:=by simp[jQ]
theorem pW{ns eD:List eu}(h:ns <+: eD){l:XI}(hl:∀ j∈l,0≤j∧j<(ns.length:Int)):jQ eD l=jQ ns l:=by simp only[jQ];rw[b4a fun j hj=>rX h (hl j hj).1 (hl j hj).2]
inductive Res|ok (v:Int) (a d:Nat) (ns:List eu)|er (c p:Int)
structure yh(ts:List zD)(C:Int→Bool)(s a d:Nat)(ns:List eu)(v:Int)(a' d':Nat)(eD:List eu)(w0:Nat:=0):Prop where
 lo:a+s≤a'
 hi:a'≤ts.length
 dp:d' = d
 ln:eD.length+2 * a≤ns.length+2 * a'
 pre:ns <+: eD
 all:jC eD
 v0:0≤v
 vl:v<eD.length
 vc:C (kd eD v)=true
 w:wt eD v+ns.length≤eD.length+w0
def Inv(ts:List zD)(C:Int→Bool)(s a d:Nat)(ns:List eu)(r:Res)(w0:Nat:=0):Prop:=match r with
 |.ok v a' d' eD=>yh ts C s a d ns v a' d' eD w0
 |.er c _=>c≠0
structure yi(ts:List zD)(a d:Nat)(ns:List eu):Prop where
 hi:a≤ts.length
 dp:d≤10
 ln:ns.length≤2 * a
 all:jC ns
theorem kV{ts:List zD}{C:Int→Bool}{s a d a':Nat}{ns qy:List eu}{x:eu}(lo:a+s≤a')(hi:a'≤ts.length)(ln:qy.length+1+2 * a≤ns.length+2 * a')(pre:ns <+: qy)(all:jC qy)
  (hx:oo qy qy.length x) (hC:C x.1=true) (hw:jQ qy x.2.2.2.2+ns.length≤qy.length):yh ts C s a d ns (qy.length:Int) a' d (qy++[x]):=
 ⟨lo,hi,rfl,by simp;omega,pre.trans ⟨[x],rfl⟩,all.add hx,by omega,by simp;omega,by rw[ru];exact hC,by rw[om];simp;omega⟩
theorem tg{ns:List eu}{i:Nat}{k a n:Int}{s:ab}(hk:cm k []=true)(h4:k≠4):oo ns i (k,a,n,s,[]):=⟨by simp,hk,fun h=>absurd h h4,by simp⟩
abbrev IT:=Option ((Int×Int×Int×List eu×Unit)⊕(Int×Int×Unit))
abbrev ST:=Option (Int×Int×List eu×Int×Int×Int×Unit)
def uM(r:Res)(o:IT):Prop:=match r with
 |.ok v a d ns=>o=some (.inl (v,(a:Int),(d:Int),ns,()))
 |.er c p=>o=some (.inr (c,p,()))
def L1(r:Res)(o:ST):Prop:=match r with
 |.ok v a d ns=>o=some (v,(a:Int),ns,(d:Int),0,0,())
 |.er c p=>∃(v:Int) (a:Nat) (ns:List eu) (d:Int),o=some (v,(a:Int),ns,d,c,p,())
def Se(ts:List zD)(C:Int→Bool)(s a d:Nat)(ns:List eu)(i:Nat→IT)(sp:Nat→ST):Prop:=
 ∃ r,Inv ts C s a d ns r∧Ev fun k=>uM r (i k)∧L1 r (sp k)
def fnd(s:ab):XS→Int→Int
 |[],_=>0
 |x::r,i=>if x=s then i else fnd s r (i+1)
def NH(s:ab):Int:=fnd s OG.tail 1
def Ig(s:ab):Int:=fnd s gl4.tail 1
def lvF(o:Int):Int:=if o=7 then 1 else if o=8 then 2 else if o=6 then 3 else if o=9∨o=10 then 4 else if o=1∨o=2∨o=11∨o=12 then 5 else 6
theorem Rf(s:ab):∀(l:XS) (i:Int),1≤i→(fnd s l i=0∧s∉l)∨(i≤fnd s l i∧s∈l)
 |[],i,h=>.inl ⟨rfl,by simp⟩
 |x::r,i,h=>by
  simp only[fnd];by_cases hx:x=s
  ·exact .inr (by simp[hx])
  ·rcases Rf s r (i+1) (by omega) with ⟨e,f⟩|⟨e,f⟩
   ·exact .inl (by simp[hx,e,f,bDa hx])
   ·exact .inr (by simp[hx,f];omega)
def fX(n:Int):Unit⊕(Int×Unit):=if n=0 then .inl () else .inr (n,())
theorem P8(s:ab):∀ m i:Nat,m+i=14→1≤i→cz fun q k=>mI q k s OG (i:Int)=some (fX (fnd s (OG.drop i) i))
 |0,i,h,h1=>by
  have e:OG.drop i=[]:=by rw[show i=14 by omega];rfl
  have h2:¬ (i:Int)<14:=by omega
  rw[e];exact cz.succ (cz.of fun q k=>by simp[mI,h2,fX,fnd])
 |m+1,i,h,h1=>by
  have bf:i<OG.length:=by show i<14;omega
  have h2:(i:Int)<14:=by omega
  have h3:(i:Int) > 0:=by omega
  have e:OG.drop i=OG[i]::OG.drop (i+1):=aLa bf;rw[e];refine cz.succ ((P8 s m (i+1) (by omega) (by omega)).mono fun q k e=>?_)
  simp only[go_sem,mI,aa,h2,h3,cF bf,ag (show i<_ by omega),e,fnd]
  by_cases hx:OG[i]=s
  ·have:¬ (i:Int)=0:=by omega
   simp[hx,fX,show i≠0 by omega]
  ·simp only[go_sem,Q6.2 hx,aBa hx];rfl
theorem ady(s:ab):Ev fun k=>EX k s=some (NH s,()):=by
 refine(cz.succ (p2:=fun q k=>mI q k s OG 0=some (fX (NH s))) ((P8 s 13 1 rfl (by omega)).mono fun q k e=>?_)).j9.mono fun k e=>?_
 ·have:mI q k s OG (bC (0+1))=some (fX (NH s)):=e
  simp only[go_sem,mI,aa,show(0:Int)<14 by omega,show ¬ (0:Int) > 0 by omega,this];rfl
 ·simp only[go_sem,EX,e,fX]
  by_cases h:NH s=0<;>simp[h]
theorem MH(s:ab):∀ m i:Nat,m+i=7→1≤i→cz fun q k=>lh q k s gl4 (i:Int)=some (fX (fnd s (gl4.drop i) i))
 |0,i,h,h1=>by
  have e:gl4.drop i=[]:=by rw[show i=7 by omega];rfl
  have h2:¬ (i:Int)<7:=by omega
  rw[e];exact cz.succ (cz.of fun q k=>by simp[lh,h2,fX,fnd])
 |m+1,i,h,h1=>by
  have bf:i<gl4.length:=by show i<7;omega
  have h2:(i:Int)<7:=by omega
  have h3:(i:Int) > 0:=by omega
  have e:gl4.drop i=gl4[i]::gl4.drop (i+1):=aLa bf;rw[e];refine cz.succ ((MH s m (i+1) (by omega) (by omega)).mono fun q k e=>?_)
  simp only[go_sem,lh,aa,h2,h3,cF bf,ag (show i<_ by omega),e,fnd]
  by_cases hx:gl4[i]=s
  ·simp[hx,fX,show i≠0 by omega]
  ·simp only[go_sem,Q6.2 hx,aBa hx];rfl
theorem Zf(s:ab):Ev fun k=>Cc k s=some (Ig s,()):=by
 refine(cz.succ (p2:=fun q k=>lh q k s gl4 0=some (fX (Ig s))) ((MH s 6 1 rfl (by omega)).mono fun q k e=>?_)).j9.mono fun k e=>?_
 ·have:lh q k s gl4 (bC (0+1))=some (fX (Ig s)):=e
  simp only[go_sem,lh,aa,show(0:Int)<7 by omega,show ¬ (0:Int) > 0 by omega,this];rfl
 ·simp only[go_sem,Cc,e,fX]
  by_cases h:Ig s=0<;>simp[h]
theorem adw(o:Int):xE o=some (lvF o,()):=by
 by_cases h7:o=7
 ·subst h7;rfl
 by_cases h8:o=8
 ·subst h8;rfl
 by_cases h6:o=6
 ·subst h6;rfl
 by_cases h9:o=9
 ·subst h9;rfl
 by_cases h10:o=10
 ·subst h10;rfl
 by_cases h1:o=1
 ·subst h1;rfl
 by_cases h2:o=2
 ·subst h2;rfl
 by_cases h11:o=11
 ·subst h11;rfl
 by_cases Kx:o=12
 ·subst Kx;rfl
 simp[xE,aa,lvF,Bool.cond_eq_ite,h7,h8,h6,h9,h10,h1,h2,h11,Kx]
theorem TX(s:ab):Cr s=some (Ig s,()):=by
 simp only[Cr,Ig,gl4,List.tail,fnd,cfa (b:=s),a_a,Bool.cond_eq_ite]
 repeat' split
 all_goals first|rfl|simp_all
theorem abG(s:ab)(n:Nat)(h1:1≤n)(h6:n≤6):vH s (n:Int)=some (if NH s≠0∧lvF (NH s)=n then NH s else 0,()):=by
 by_cases hm:s∈OG.tail
 ·have:∀ s∈OG.tail,∀ n:Nat,n<7→1≤n→vH s (n:Int)=some (if NH s≠0∧lvF (NH s)=n then NH s else 0,()):=by decide +kernel
  exact this s hm n (by omega) h1
 ·have h0:NH s=0:=by
   rcases Rf s OG.tail 1 (by omega) with ⟨e,_⟩|⟨_,f⟩
   ·exact e
   ·exact absurd f hm
  simp only[OG,List.tail,ala,bXa,bca,cia] at hm;have g:∀ w:ab,¬ s=w→(s==w)=false:=fun w h=>Q6.2 h;simp only[go_sem,vH,aa,g _ hm.1,g _ hm.2.1,g _ hm.2.2.1,g _ hm.2.2.2.1,g _ hm.2.2.2.2.1,g _ hm.2.2.2.2.2.1,g _ hm.2.2.2.2.2.2.1,g _ hm.2.2.2.2.2.2.2.1,g _ hm.2.2.2.2.2.2.2.2.1,g _ hm.2.2.2.2.2.2.2.2.2.1,g _ hm.2.2.2.2.2.2.2.2.2.2.1,g _ hm.2.2.2.2.2.2.2.2.2.2.2.1,g _ hm.2.2.2.2.2.2.2.2.2.2.2.2];simp[h0]
theorem afu:∀ s∈OG.tail,xR.contains s=true:=by decide +kernel
theorem ac1:∀ s∈gl4.tail,xR.contains s=true:=by decide +kernel
section
variable {ts:List zD} {a:Nat}
theorem Wi(hs:pu ts)(h:a<ts.length):NH (tk ts a).2.2.1=NH (sg ts a):=by
 simp only[sg];cases hk:uq ts a 4 with
 |true=>rfl
 |false=>
  show _=NH [];rcases Rf (tk ts a).2.2.1 OG.tail 1 (by omega) with ⟨e,_⟩|⟨_,f⟩
  ·exact e
  ·have h2:=(Qz hs h).k
   have h3:=afu _ f;simp only[uq,iG h] at hk;rcases h2 with ⟨e,_,g,_⟩|⟨e,_,g⟩|⟨e,_,g⟩|⟨e,_⟩
   ·rw[g] at h3;cases h3
   ·rw[g] at h3;cases h3
   ·rw[g] at h3;cases h3
   ·rw[e] at hk;simp at hk
theorem Uz(hs:pu ts)(h:a<ts.length):Ig (tk ts a).2.2.1=Ig (sg ts a):=by
 simp only[sg];cases hk:uq ts a 4 with
 |true=>rfl
 |false=>
  show _=Ig [];rcases Rf (tk ts a).2.2.1 gl4.tail 1 (by omega) with ⟨e,_⟩|⟨_,f⟩
  ·exact e
  ·have h2:=(Qz hs h).k
   have h3:=ac1 _ f;simp only[uq,iG h] at hk;rcases h2 with ⟨e,_,g,_⟩|⟨e,_,g⟩|⟨e,_,g⟩|⟨e,_⟩
   ·rw[g] at h3;cases h3
   ·rw[g] at h3;cases h3
   ·rw[g] at h3;cases h3
   ·rw[e] at hk;simp at hk
theorem Vh(h:¬ a<ts.length):sg ts a=[]:=by simp[sg,uq,ww h]
end
end Go.Fx.R5
namespace Go.Fx.R5
open Go Go.Fx
section
theorem Co(k:Nat):ao (k+1)=hJ (ao k) (iF k) (hU k) k:=rfl
theorem Fe(k:Nat):iF (k+1)=iO (ao k) (iF k) (hU k) k:=rfl
theorem qs(k:Nat):hU (k+1)=cI (ao k) (iF k) (hU k) k:=rfl
theorem IB(k:Nat):ak (k+1)=iD (ak k) (fJ k) (gj k) k:=rfl
theorem IF(k:Nat):fJ (k+1)=ie (ak k) (fJ k) (gj k) k:=rfl
theorem rq(k:Nat):gj (k+1)=bV (ak k) (fJ k) (gj k) k:=rfl
variable {ts:List zD} {en:Int} {c p:Int}
theorem fp(hc:c≠0)(k a:Nat)(ns:List eu)(d:Int):hU (k+1) ts (a:Int) en ns d c p=some (0,(a:Int),ns,d,c,p,()):=by rw[qs];simp only[go_sem,cI,bo,fE hc,dN hc,eo hc,co hc]
theorem fu(hc:c≠0)(k a:Nat)(ns:List eu)(d:Int):iF (k+2) ts (a:Int) en ns d c p=some (0,(a:Int),ns,d,c,p,()):=by rw[Fe];simp only[go_sem,iO,bo,dN hc,fp hc]
theorem fl(hc:c≠0):∀(j k n a:Nat) (ns:List eu) (d:Int),n+j=7→ao (k+3+j) ts (a:Int) en ns d c p (n:Int)=some (0,(a:Int),ns,d,c,p,())
 |0,k,n,a,ns,d,h=>by
  have:(n:Int) > 6:=by omega
  show ao (k+2+1) ts (a:Int) en ns d c p (n:Int)=_;rw[Co];simp only[go_sem,hJ,this,fu hc]
 |j+1,k,n,a,ns,d,h=>by
  have:¬ (n:Int) > 6:=by omega
  have hz:(c==0)=false:=Q6.2 hc;show ao (k+3+j+1) ts (a:Int) en ns d c p (n:Int)=_;rw[Co];simp only[go_sem,hJ,this,ag (show n<_ by omega),fl hc j k (n+1) a ns d (by omega)]
  rw[show k+3+j=k+2+j+1 by omega]
  simp only[go_sem,fL,aa,hz]
theorem fl1(hc:c≠0):Ev fun k=>∀(a:Nat) (ns:List eu) (d:Int),ao k ts (a:Int) en ns d c p 1=some (0,(a:Int),ns,d,c,p,()):=
 ⟨9,fun k hk a ns d=>by rw[show k=k - 9+3+6 by omega];exact fl hc 6 (k - 9) 1 a ns d rfl⟩
variable {a d:Nat} {ns:List eu}
abbrev Kp(ts:List zD)(en:Int)(a d:Nat)(ns:List eu)(n:Nat):Prop:=Se ts Bk 1 a d ns (fun k=>ak k ts en (a:Int) (d:Int) ns (n:Int)) (fun k=>ao k ts (a:Int) en ns (d:Int) 0 0 (n:Int))
abbrev UnB(ts:List zD)(en:Int)(a d:Nat)(ns:List eu):Prop:=Se ts Bk 1 a d ns (fun k=>fJ k ts en (a:Int) (d:Int) ns) (fun k=>iF k ts (a:Int) en ns (d:Int) 0 0)
abbrev PrB(ts:List zD)(en:Int)(a d:Nat)(ns:List eu):Prop:=Se ts Bk 1 a d ns (fun k=>gj k ts en (a:Int) (d:Int) ns) (fun k=>hU k ts (a:Int) en ns (d:Int) 0 0)
theorem kG{d:Nat}(h:d≤4000000000000000000):bC (((d+1:Nat):Int) - 1)=(d:Int):=by rw[bF (by omega) (by omega)];omega
theorem Qc(hs:pu ts)(hp:yi ts a d ns)(IH:∀ a' d' eD,a<a'→yi ts a' d' eD→Kp ts en a' d' eD 1):PrB ts en a d ns:=by
 have h7:=hs.len;obtain⟨p1,p2,p3,p4⟩:=hp;have b0:a≤4000000000000000000:=by omega
 have b1:a+1≤4000000000000000000:=by omega
 have b2:a+1+1≤4000000000000000000:=by omega
 have bn:ns.length≤4000000:=by omega
 cases vo:uq ts a 2 with
 |true=>
  have bf:=jT vo;refine⟨.ok _ (a+1) d (ns++[(24,pl ts en a,(tk ts a).2.2.2,[],[])]),kV (by omega) (by omega) (by omega) (aXa _) p4 (tg rfl (by decide)) rfl (by simp[jQ]),Ev.succ (Ev.of fun k=>⟨?_,?_⟩)⟩
  ·simp only[go_sem,uM,rq,bV,an,aR,reduceIte,bS b0,ip bn,vo]
  ·simp only[go_sem,L1,qs,cI,bo,aQ,reduceIte,o7 b0,dZ bn,vo]
 |false=>
 cases xD:aN ts a [42] with
 |true=>
  have bf:=bB xD;have Ji:aN ts a [40]=false:=aC xD rfl;cases hn:uq ts (a+1) 1 with
  |true=>
   have bf:=jT hn;refine⟨.ok _ (a+1+1) d (ns++[(27,pl ts en a,0,(tk ts (a+1)).2.2.1,[])]),kV (by omega) (by omega) (by omega) (aXa _) p4 (tg rfl (by decide)) rfl (by simp[jQ]),Ev.succ (Ev.of fun k=>⟨?_,?_⟩)⟩
   ·simp only[go_sem,uM,rq,bV,an,aR,reduceIte,bS b1,aJ b0,ip bn,vo,xD,hn]
   ·simp only[go_sem,L1,qs,cI,bo,aQ,reduceIte,ae hs (w:=[40]) rfl b0,ae hs (w:=[42]) rfl b0,df b1,dZ bn,vo,xD,Ji,hn]
  |false=>
   refine⟨.er 6 (pl ts en (a+1)),(show(6:Int)≠0 by decide),Ev.succ (Ev.of fun k=>⟨?_,0,a+1,ns,d,?_⟩)⟩
   ·simp only[go_sem,uM,rq,bV,an,aR,reduceIte,bS b1,aJ b0,ip bn,vo,xD,hn]
   ·simp only[go_sem,qs,cI,bo,aQ,reduceIte,ae hs (w:=[40]) rfl b0,ae hs (w:=[42]) rfl b0,df b1,co (show(6:Int)≠0 by decide),vo,xD,Ji,hn]
 |false=>
 cases Ji:aN ts a [40] with
 |true=>
  have bf:=bB Ji;by_cases hd:d<10
  ·obtain⟨r,hi,hr⟩:=IH (a+1) (d+1) ns (by omega) ⟨by omega,by omega,by omega,p4⟩
   cases r with
   |er c p=>
    refine⟨.er c p,hi,Ev.succ (hr.mono fun k e=>?_)⟩;obtain⟨e1,v,a',eD,d',e2⟩:=e;refine⟨?_,0+v,a',eD,bC (d' - 1),?_⟩
    ·simp only[go_sem,uM,rq,bV,an,aR,reduceIte,aJ b0,gU p2,vo,xD,Ji,hd,show ak k ts en ((a+1:Nat):Int) ((d+1:Nat):Int) ns 1=_ from e1]
    ·simp only[go_sem,qs,cI,bo,aQ,reduceIte,ae hs (w:=[40]) rfl b0,mf p2,vo,Ji,hd,show ao k ts ((a+1:Nat):Int) en ns ((d+1:Nat):Int) 0 0 1=_ from e2,cX (show c≠0 from hi),Int.zero_add]
   |ok v a' d' eD=>
    obtain⟨q1,q2,rfl,q3,q4,q5,q6,q7,q8,q9⟩:=hi;have b4:a'≤4000000000000000000:=by omega
    cases mH:aN ts a' [41] with
    |true=>
     have Hg:=bB mH;refine⟨.ok v (a' + 1) d eD,⟨by omega,by omega,rfl,by omega,q4,q5,q6,q7,q8,q9⟩,Ev.succ (hr.mono fun k e=>⟨?_,?_⟩)⟩
     ·simp only[go_sem,uM,rq,bV,an,aR,reduceIte,aJ b0,aM b4,gU p2,vo,xD,Ji,hd,mH,show ak k ts en ((a+1:Nat):Int) ((d+1:Nat):Int) ns 1=_ from e.1,kG (show d≤_ by omega)]
     ·simp only[go_sem,L1,qs,cI,bo,aQ,reduceIte,ae hs (w:=[40]) rfl b0,mf p2,aj hs (w:=[41]) rfl b4,vo,Ji,hd,mH,show ao k ts ((a+1:Nat):Int) en ns ((d+1:Nat):Int) 0 0 1=_ from e.2,kG (show d≤_ by omega)]
    |false=>
     refine⟨.er 6 (pl ts en a'),(show(6:Int)≠0 by decide),Ev.succ (hr.mono fun k e=>⟨?_,v,a',eD,d,?_⟩)⟩
     ·simp only[go_sem,uM,rq,bV,an,aR,reduceIte,aJ b0,aM b4,gU p2,vo,xD,Ji,hd,mH,show ak k ts en ((a+1:Nat):Int) ((d+1:Nat):Int) ns 1=_ from e.1]
     ·simp only[go_sem,qs,cI,bo,aQ,reduceIte,ae hs (w:=[40]) rfl b0,mf p2,aj hs (w:=[41]) rfl b4,vo,Ji,hd,mH,show ao k ts ((a+1:Nat):Int) en ns ((d+1:Nat):Int) 0 0 1=_ from e.2,kG (show d≤_ by omega)]
  ·refine⟨.er 7 (pl ts en (a+1)),(show(7:Int)≠0 by decide),Ev.succ (Ev.of fun k=>⟨?_,0,a+1,ns,((d+1:Nat):Int),?_⟩)⟩
   ·simp only[go_sem,uM,rq,bV,an,aR,reduceIte,aJ b0,gU p2,vo,xD,Ji,hd]
   ·simp only[go_sem,qs,cI,bo,aQ,reduceIte,ae hs (w:=[40]) rfl b0,mf p2,vo,Ji,hd]
 |false=>
 cases hn:uq ts a 1 with
 |false=>
  refine⟨.er 6 (pl ts en a),(show(6:Int)≠0 by decide),Ev.succ (Ev.of fun k=>⟨?_,0,a,ns,d,?_⟩)⟩
  ·simp only[go_sem,uM,rq,bV,an,aR,reduceIte,bS b0,aJ b0,vo,xD,Ji,hn]
  ·simp only[go_sem,qs,cI,bo,aQ,reduceIte,ae hs (w:=[40]) rfl b0,ae hs (w:=[42]) rfl b0,df b0,dN (show(6:Int)≠0 by decide),co (show(6:Int)≠0 by decide),vo,xD,Ji,hn]
 |true=>
 have bf:=jT hn;cases qx:aN ts (a+1) [91] with
 |false=>
  refine⟨.ok _ (a+1) d (ns++[(25,pl ts en a,0,(tk ts a).2.2.1,[])]),kV (by omega) (by omega) (by omega) (aXa _) p4 (tg rfl (by decide)) rfl (by simp[jQ]),Ev.succ (Ev.of fun k=>⟨?_,?_⟩)⟩
  ·simp only[go_sem,uM,rq,bV,an,aR,reduceIte,bS b0,aJ b0,aJ b1,ip bn,vo,xD,Ji,hn,qx]
  ·simp only[go_sem,L1,qs,cI,bo,aQ,reduceIte,ae hs (w:=[40]) rfl b0,ae hs (w:=[42]) rfl b0,ae hs (w:=[91]) rfl b1,df b0,dZ bn,vo,xD,Ji,hn,qx]
 |true=>
 have Y0:=bB qx;by_cases hd:d<10
 ·obtain⟨r,hi,hr⟩:=IH (a+1+1) (d+1) ns (by omega) ⟨by omega,by omega,by omega,p4⟩
  cases r with
  |er c p=>
   refine⟨.er c p,hi,Ev.succ (hr.mono fun k e=>?_)⟩;obtain⟨e1,v,a',eD,d',e2⟩:=e;refine⟨?_,0,a',eD,bC (d' - 1),?_⟩
   ·simp only[go_sem,uM,rq,bV,an,aR,reduceIte,bS b0,aJ b0,aJ b1,gU p2,vo,xD,Ji,hn,qx,hd,show ak k ts en ((a+1+1:Nat):Int) ((d+1:Nat):Int) ns 1=_ from e1]
   ·simp only[go_sem,qs,cI,bo,aQ,reduceIte,ae hs (w:=[40]) rfl b0,ae hs (w:=[42]) rfl b0,ae hs (w:=[91]) rfl b1,df b0,mf p2,vo,xD,Ji,hn,qx,hd,show ao k ts ((a+1+1:Nat):Int) en ns ((d+1:Nat):Int) 0 0 1=_ from e2,cX (show c≠0 from hi),co (show c≠0 from hi)]
  |ok v a' d' eD=>
   obtain⟨q1,q2,rfl,q3,q4,q5,q6,q7,q8,q9⟩:=hi;have b4:a'≤4000000000000000000:=by omega
   have Mt:eD.length≤4000000:=by omega
   cases mH:aN ts a' [93] with
   |true=>
    have Hg:=bB mH;refine⟨.ok _ (a' + 1) d (eD++[(26,pl ts en a,0,(tk ts a).2.2.1,[v])]),kV (by omega) (by omega) (by omega) q4 q5 ⟨by simp;omega,by simpa[cm] using q8,by simp⟩ rfl (by rw[ph];exact q9),Ev.succ (hr.mono fun k e=>⟨?_,?_⟩)⟩
    ·simp only[go_sem,uM,rq,bV,an,aR,reduceIte,bS b0,aJ b0,aJ b1,aM b4,ip Mt,gU p2,vo,xD,Ji,hn,qx,hd,mH,show ak k ts en ((a+1+1:Nat):Int) ((d+1:Nat):Int) ns 1=_ from e.1,kG (show d≤_ by omega)]
    ·simp only[go_sem,L1,qs,cI,bo,aQ,reduceIte,ae hs (w:=[40]) rfl b0,ae hs (w:=[42]) rfl b0,ae hs (w:=[91]) rfl b1,df b0,mf p2,aj hs (w:=[93]) rfl b4,dZ Mt,vo,xD,Ji,hn,qx,hd,mH,show ao k ts ((a+1+1:Nat):Int) en ns ((d+1:Nat):Int) 0 0 1=_ from e.2,kG (show d≤_ by omega)]
   |false=>
    refine⟨.er 6 (pl ts en a'),(show(6:Int)≠0 by decide),Ev.succ (hr.mono fun k e=>⟨?_,0,a',eD,d,?_⟩)⟩
    ·simp only[go_sem,uM,rq,bV,an,aR,reduceIte,bS b0,aJ b0,aJ b1,aM b4,gU p2,vo,xD,Ji,hn,qx,hd,mH,show ak k ts en ((a+1+1:Nat):Int) ((d+1:Nat):Int) ns 1=_ from e.1]
    ·simp only[go_sem,qs,cI,bo,aQ,reduceIte,ae hs (w:=[40]) rfl b0,ae hs (w:=[42]) rfl b0,ae hs (w:=[91]) rfl b1,df b0,mf p2,aj hs (w:=[93]) rfl b4,co (show(6:Int)≠0 by decide),vo,xD,Ji,hn,qx,hd,mH,show ao k ts ((a+1+1:Nat):Int) en ns ((d+1:Nat):Int) 0 0 1=_ from e.2,kG (show d≤_ by omega)]
 ·refine⟨.er 7 (pl ts en (a+1+1)),(show(7:Int)≠0 by decide),Ev.succ (Ev.of fun k=>⟨?_,0,a+1+1,ns,((d+1:Nat):Int),?_⟩)⟩
  ·simp only[go_sem,uM,rq,bV,an,aR,reduceIte,bS b0,aJ b0,aJ b1,gU p2,vo,xD,Ji,hn,qx,hd]
  ·simp only[go_sem,qs,cI,bo,aQ,reduceIte,ae hs (w:=[40]) rfl b0,ae hs (w:=[42]) rfl b0,ae hs (w:=[91]) rfl b1,df b0,mf p2,vo,xD,Ji,hn,qx,hd]
end
theorem yh.from{ts:List zD}{C:Int→Bool}{s s0 a d a1:Nat}{ns qy:List eu}{v:Int}{a' d':Nat}{eD:List eu}{w0 w1:Nat}(h:yh ts C s a1 d qy v a' d' eD w1)(lo:a+s0≤a1+s)(ln:qy.length+2 * a≤ns.length+2 * a1)
  (pre:ns <+: qy) (hw:w1+ns.length≤qy.length+w0):yh ts C s0 a d ns v a' d' eD w0:=
 let⟨h1,h2,h3,h4,h5,h6,h7,h8,h9,h10⟩:=h;⟨by omega,h2,h3,by omega,pre.trans h5,h6,h7,h8,h9,by omega⟩
theorem Inv.from{ts:List zD}{C:Int→Bool}{s s0 a d a1:Nat}{ns qy:List eu}{r:Res}{w0 w1:Nat}(h:Inv ts C s a1 d qy r w1)(lo:a+s0≤a1+s)(ln:qy.length+2 * a≤ns.length+2 * a1)(pre:ns <+: qy)(hw:w1+ns.length≤qy.length+w0):Inv ts C s0 a d ns r w0:=by
 cases r with
 |er c p=>exact h
 |ok v a' d' eD=>exact yh.from h lo ln pre hw
def ID(r:Res)(o:Option ((Int×Int×List eu×Int×Unit)⊕(Int×Int×Unit))):Prop:=match r with
 |.ok v a d ns=>o=some (.inl ((a:Int),(d:Int),ns,v,()))
 |.er c p=>o=some (.inr (c,p,()))
def Rp(r:Res)(o:Option (Int×List eu×Int×Int×Int×Int×Unit)):Prop:=match r with
 |.ok v a d ns=>o=some ((a:Int),ns,(d:Int),0,0,v,())
 |.er c p=>∃(v:Int) (a:Nat) (ns:List eu) (d:Int),o=some ((a:Int),ns,d,c,p,v,())
section
variable {ts:List zD} {en:Int} {a d:Nat} {ns:List eu}
theorem WT(hs:pu ts)(hp:yi ts a d ns)(IH:∀ a' d' eD,a<a'→yi ts a' d' eD→UnB ts en a' d' eD)(PR:PrB ts en a d ns):UnB ts en a d ns:=by
 have h7:=hs.len;obtain⟨p1,p2,p3,p4⟩:=hp;have b0:a≤4000000000000000000:=by omega
 have bn:ns.length≤4000000:=by omega
 cases hm:aN ts a [45] with
 |false=>
  obtain⟨r,hi,hr⟩:=PR;refine⟨r,hi,Ev.succ (hr.mono fun k e=>?_)⟩;cases r with
  |er c p=>
   obtain⟨e1,v,a',eD,d',e2⟩:=e;refine⟨?_,v,a',eD,d',?_⟩
   ·simp only[go_sem,uM,IF,ie,an,aR,reduceIte,aJ b0,hm,show gj k ts en (a:Int) (d:Int) ns=_ from e1]
   ·simp only[go_sem,Fe,iO,bo,aQ,reduceIte,ae hs (w:=[45]) rfl b0,hm,show hU k ts (a:Int) en ns (d:Int) 0 0=_ from e2]
  |ok v a' d' eD=>
   refine⟨?_,?_⟩
   ·simp only[go_sem,uM,IF,ie,an,aR,reduceIte,aJ b0,hm,show gj k ts en (a:Int) (d:Int) ns=_ from e.1]
   ·simp only[go_sem,L1,Fe,iO,bo,aQ,reduceIte,ae hs (w:=[45]) rfl b0,hm,show hU k ts (a:Int) en ns (d:Int) 0 0=_ from e.2]
 |true=>
 have bf:=bB hm;by_cases hd:d<10
 ·obtain⟨r,hi,hr⟩:=IH (a+1) (d+1) (ns++[(24,pl ts en a,0,[],[])]) (by omega) ⟨by omega,by omega,by simp;omega,p4.add (tg rfl (by decide))⟩
  cases r with
  |er c p=>
   refine⟨.er c p,hi,Ev.succ (hr.mono fun k e=>?_)⟩;obtain⟨e1,v,a',eD,d',e2⟩:=e;refine⟨?_,0,a',eD,bC (d' - 1),?_⟩
   ·simp only[go_sem,uM,IF,ie,an,aR,reduceIte,aJ b0,gU p2,ip bn,hm,hd,show fJ k ts en ((a+1:Nat):Int) ((d+1:Nat):Int) (ns++[(24,pl ts en a,0,[],[])])=_ from e1]
   ·simp only[go_sem,Fe,iO,bo,aQ,reduceIte,ae hs (w:=[45]) rfl b0,mf p2,dZ bn,hm,hd,show iF k ts ((a+1:Nat):Int) en (ns++[(24,pl ts en a,0,[],[])]) ((d+1:Nat):Int) 0 0=_ from e2,co (show c≠0 from hi)]
  |ok v a' d' eD=>
   obtain⟨q1,q2,rfl,q3,q4,q5,q6,q7,q8,q9⟩:=hi;simp only[aua,aAa,aza] at q3 q9;have wz:wt eD (ns.length:Int)=1:=by rw[rX q4 (by omega) (by simp;omega),om];rfl
   have Mt:eD.length≤4000000:=by omega
   have qz:kd eD (ns.length:Int)=24:=by rw[qH q4 (by omega) (by simp;omega),ru]
   have ql:ns.length<eD.length:=by have:=q4.length_le;simp at this;omega
   refine⟨.ok _ a' d (eD++[(28,pl ts en a,2,[],[(ns.length:Int),v])]),kV (by omega) (by omega) (by omega) ((aMa _ _).trans q4) q5 ⟨by simp;omega,by simpa[cm,qz,Bk] using q8,by simp⟩ rfl (by rw[yC,wz];omega),Ev.succ (hr.mono fun k e=>⟨?_,?_⟩)⟩
   ·simp only[go_sem,uM,IF,ie,an,aR,reduceIte,aJ b0,gU p2,ip bn,ip Mt,hm,hd,show fJ k ts en ((a+1:Nat):Int) ((d+1:Nat):Int) (ns++[(24,pl ts en a,0,[],[])])=_ from e.1,kG (show d≤_ by omega)]
   ·simp only[go_sem,L1,Fe,iO,bo,aQ,reduceIte,ae hs (w:=[45]) rfl b0,mf p2,dZ bn,dZ Mt,hm,hd,show iF k ts ((a+1:Nat):Int) en (ns++[(24,pl ts en a,0,[],[])]) ((d+1:Nat):Int) 0 0=_ from e.2,kG (show d≤_ by omega)]
 ·refine⟨.er 7 (pl ts en (a+1)),(show(7:Int)≠0 by decide),Ev.succ (Ev.of fun k=>⟨?_,0,a+1,ns,((d+1:Nat):Int),?_⟩)⟩
  ·simp only[go_sem,uM,IF,ie,an,aR,reduceIte,aJ b0,gU p2,hm,hd]
  ·simp only[go_sem,Fe,iO,bo,aQ,reduceIte,ae hs (w:=[45]) rfl b0,mf p2,hm,hd]
theorem UQ(hs:pu ts){n:Nat}(n1:1≤n)(n6:n≤6){a0:Nat}(IH:∀ a' eD,a0≤a'→yi ts a' d eD→Kp ts en a' d eD (n+1)):∀ m a (ns:List eu) (x:Int),ts.length - a≤m→a0≤a→yi ts a d ns→0≤x→x<ns.length→Bk (kd ns x)=true→
  ∃ r,Inv ts Bk 0 a d ns r (wt ns x)∧cz fun q k=>ID r (dV (ak q) (fJ q) (gj q) q k ts en (n:Int) (a:Int) (d:Int) ns x)∧
   Rp r (fL (ao q) (iF q) (hU q) q k ts en (n:Int) (a:Int) ns (d:Int) 0 0 x):=by
 have h7:=hs.len;intro m;induction m with
 |zero=>
  intro a ns x hm h0 hp x0 x1 x2;have bf:¬ a<ts.length:=by omega
  refine⟨.ok x a d ns,⟨by omega,hp.hi,rfl,by omega,aXa _,hp.all,x0,x1,x2,by omega⟩,cz.succ (cz.of fun q k=>⟨?_,?_⟩)⟩
  ·simp only[go_sem,ID,dV,Q5,bf]
  ·simp only[go_sem,Rp,fL,aa,Hx,Vh bf,abG [] n n1 n6,show NH []=0 from rfl,ne_eq,not_true,false_and,ite_false]
 |succ m ih=>
  intro a ns x hm h0 hp x0 x1 x2;obtain⟨p1,p2,p3,p4⟩:=hp;by_cases mL:NH (sg ts a)≠0∧lvF (NH (sg ts a))=n
  ·have bf:a<ts.length:=by
    by_cases h:a<ts.length
    ·exact h
    ·rw[Vh h] at mL;exact absurd rfl mL.1
   have hz:(NH (sg ts a)==0)=false:=Q6.2 mL.1;have hl:(lvF (NH (sg ts a)) != (n:Int))=false:=by rw[mL.2];simp
   obtain⟨r,hi,hr⟩:=IH (a+1) ns (by omega) ⟨by omega,by omega,by omega,p4⟩
   cases r with
   |er c p=>
    have hc:(c==0)=false:=Q6.2 hi;refine⟨.er c p,hi,cz.succ (cz.succ ((hr.tn.and (ady (tk ts a).2.2.1).tn).mono fun q k e=>?_))⟩;obtain⟨⟨e1,v,a',eD,d',e2⟩,e3⟩:=e;refine⟨?_,0,a',eD,d',?_⟩
    ·simp only[go_sem,ID,dV,aa,Q5,bf,bq (iG bf),e3,Wi hs bf,hz,adw,hl,an,ag (show a<_ by omega),ag (show n<_ by omega),show ak q ts en ((a+1:Nat):Int) (d:Int) ns ((n+1:Nat):Int)=_ from e1]
    ·simp only[go_sem,fL,aa,Hx,bo,abG _ n n1 n6,a8a mL,bne,hz,hc,ag (show a<_ by omega),ag (show n<_ by omega),show ao q ts ((a+1:Nat):Int) en ns (d:Int) 0 0 ((n+1:Nat):Int)=_ from e2,co (show c≠0 from hi)]
   |ok y a1 d1 nr=>
    obtain⟨q1,q2,rfl,q3,q4,q5,q6,q7,q8,q9⟩:=hi;have Mt:nr.length≤4000000:=by omega
    have xk:kd nr x=kd ns x:=qH q4 x0 x1;have ql:=q4.length_le;have S2:oo nr nr.length (28,pl ts en a,NH (sg ts a),[],[x,y]):=⟨by simp;omega,by simp[cm,xk,x2,q8],by simp⟩
    obtain⟨r,gi,gr⟩:=ih a1 (nr++[(28,pl ts en a,NH (sg ts a),[],[x,y])]) (nr.length:Int) (by omega) (by omega) ⟨by omega,by omega,by simp;omega,q5.add S2⟩ (by omega) (by simp;omega) (by rw[ru];rfl)
    refine⟨r,gi.from (by omega) (by simp;omega) (q4.trans (aMa _ _)) (by rw[om,yC,rX q4 x0 x1];simp;omega),cz.succ (((hr.tn.and (ady (tk ts a).2.2.1).tn).and gr).mono fun q k e=>?_)⟩
    obtain⟨⟨⟨e1,e2⟩,e3⟩,e4,e5⟩:=e;refine⟨?_,?_⟩
    ·simp only[go_sem,dV,aa,Q5,bf,bq (iG bf),e3,Wi hs bf,hz,adw,hl,an,ag (show a<_ by omega),ag (show n<_ by omega),show ak q ts en ((a+1:Nat):Int) (d1:Int) ns ((n+1:Nat):Int)=_ from e1,ip Mt]
     exact e4
    ·simp only[go_sem,fL,aa,Hx,bo,abG _ n n1 n6,a8a mL,bne,hz,ag (show a<_ by omega),ag (show n<_ by omega),show ao q ts ((a+1:Nat):Int) en ns (d1:Int) 0 0 ((n+1:Nat):Int)=_ from e2,dZ Mt]
     exact e5
  ·refine⟨.ok x a d ns,⟨by omega,p1,rfl,by omega,aXa _,p4,x0,x1,x2,by omega⟩,cz.succ ((ady (tk ts a).2.2.1).tn.mono fun q k e=>⟨?_,?_⟩)⟩
   ·by_cases bf:a<ts.length
    ·by_cases hz:NH (sg ts a)=0
     ·simp only[go_sem,ID,dV,aa,Q5,bf,bq (iG bf),e,Wi hs bf,hz]
     ·have hl:(lvF (NH (sg ts a)) != (n:Int))=true:=by
       rw[a1a];exact fun h=>mL ⟨hz,h⟩
      simp only[go_sem,ID,dV,aa,Q5,bf,bq (iG bf),e,Wi hs bf,Q6.2 hz,adw,hl]
    ·simp only[go_sem,ID,dV,Q5,bf]
   ·simp only[go_sem,Rp,fL,aa,Hx,abG _ n n1 n6,aBa mL]
theorem UP(hs:pu ts){n:Nat}(n1:1≤n)(n6:n≤6)(hp:yi ts a d ns)(IH:∀ a' eD,a≤a'→yi ts a' d eD→Kp ts en a' d eD (n+1)):Kp ts en a d ns n:=by
 have h7:=hs.len;have n7:¬ (n:Int) > 6:=by omega
 obtain⟨r,hi,hr⟩:=IH a ns (axa _) hp;obtain⟨p1,p2,p3,p4⟩:=hp;cases r with
 |er c p=>
  have hc:(c==0)=false:=Q6.2 hi;refine⟨.er c p,hi,Ev.succ ((hr.and ⟨1,fun k hk=>hk⟩).mono fun k e=>?_)⟩;obtain⟨⟨e1,v,a',eD,d',e2⟩,hk⟩:=e;obtain⟨j,rfl⟩:∃ j,k=j+1:=⟨k - 1,by omega⟩
  refine⟨?_,v,a',eD,d',?_⟩
  ·simp only[go_sem,uM,IB (j+1),iD,n7,ag (show n<_ by omega),show ak (j+1) ts en (a:Int) (d:Int) ns ((n+1:Nat):Int)=_ from e1]
  ·simp only[go_sem,Co (j+1),hJ,n7,ag (show n<_ by omega),show ao (j+1) ts (a:Int) en ns (d:Int) 0 0 ((n+1:Nat):Int)=_ from e2,fL,aa,hc]
 |ok x a1 d1 nr=>
  obtain⟨q1,q2,rfl,q3,q4,q5,q6,q7,q8,q9⟩:=hi;obtain⟨r,gi,gr⟩:=UQ hs n1 n6 IH _ a1 nr x (axa _) (by omega) ⟨q2,p2,by omega,q5⟩ q6 q7 q8
  refine⟨r,gi.from (by omega) q3 q4 q9,Ev.succ ((hr.and gr.j9).mono fun k e=>?_)⟩
  obtain⟨⟨e1,e2⟩,e3,e4⟩:=e;cases r with
  |er c p=>
   obtain⟨v,a',eD,d',e4⟩:=e4;refine⟨?_,v,a',eD,d',?_⟩
   ·simp only[go_sem,uM,IB,iD,n7,ag (show n<_ by omega),show ak k ts en (a:Int) (d1:Int) ns ((n+1:Nat):Int)=_ from e1]
    simp only[go_sem,show dV _ _ _ k k ts en (n:Int) (a1:Int) (d1:Int) nr x=_ from e3]
   ·simp only[go_sem,Co,hJ,n7,ag (show n<_ by omega),show ao k ts (a:Int) en ns (d1:Int) 0 0 ((n+1:Nat):Int)=_ from e2,e4]
  |ok v a' d' eD=>
   refine⟨?_,?_⟩
   ·simp only[go_sem,uM,IB,iD,n7,ag (show n<_ by omega),show ak k ts en (a:Int) (d1:Int) ns ((n+1:Nat):Int)=_ from e1]
    simp only[go_sem,show dV _ _ _ k k ts en (n:Int) (a1:Int) (d1:Int) nr x=_ from e3]
   ·simp only[go_sem,L1,Co,hJ,n7,ag (show n<_ by omega),show ao k ts (a:Int) en ns (d1:Int) 0 0 ((n+1:Nat):Int)=_ from e2,show fL _ _ _ k k ts en (n:Int) (a1:Int) nr (d1:Int) 0 0 x=_ from e4]
theorem adC(U:UnB ts en a d ns):Kp ts en a d ns 7:=by
 obtain⟨r,hi,hr⟩:=U;have n7:((7:Nat):Int) > 6:=by omega
 refine⟨r,hi,Ev.succ (hr.mono fun k e=>?_)⟩;obtain⟨e1,e2⟩:=e;cases r with
 |er c p=>
  obtain⟨v,a',eD,d',e2⟩:=e2;refine⟨?_,v,a',eD,d',?_⟩
  ·simp only[go_sem,uM,IB,iD,n7,show fJ k ts en (a:Int) (d:Int) ns=_ from e1]
  ·simp only[go_sem,Co,hJ,n7,e2]
 |ok v a' d' eD=>
  refine⟨?_,?_⟩
  ·simp only[go_sem,uM,IB,iD,n7,show fJ k ts en (a:Int) (d:Int) ns=_ from e1]
  ·simp only[go_sem,L1,Co,hJ,n7,show iF k ts (a:Int) en ns (d:Int) 0 0=_ from e2]
theorem UR(hs:pu ts){a:Nat}(U:∀ a' d ns,a≤a'→yi ts a' d ns→UnB ts en a' d ns):∀ j n,n+j=7→1≤n→∀ a' d ns,a≤a'→yi ts a' d ns→Kp ts en a' d ns n
 |0,n,h,h1,a',d,ns,ha,hp=>by
  obtain rfl:n=7:=by omega
  exact adC (U a' d ns ha hp)
 |j+1,n,h,h1,a',d,ns,ha,hp=>UP hs h1 (by omega) hp fun a2 qy h2 p2=>UR hs U j (n+1) (by omega) (by omega) a2 d qy (by omega) p2
theorem afT(hs:pu ts):∀ m a,ts.length - a≤m→∀ a',a≤a'→∀ d ns,yi ts a' d ns→UnB ts en a' d ns∧Kp ts en a' d ns 1:=by
 intro m;induction m with
 |zero=>
  intro a hm a' ha d ns hp;have key:∀ a',a≤a'→∀ d ns,yi ts a' d ns→UnB ts en a' d ns:=fun a' ha d ns hp=>
   WT hs hp (fun a2 d2 qy h2 p2=>by have:=p2.hi;have:=hp.hi;omega) (Qc hs hp fun a2 d2 qy h2 p2=>by have:=p2.hi;have:=hp.hi;omega)
  exact⟨key a' ha d ns hp,UR hs (a:=a) (fun a' d ns ha hp=>key a' ha d ns hp) 6 1 rfl (by omega) a' d ns ha hp⟩
 |succ m ih=>
  intro a hm a' ha d ns hp;have key:∀ a',a≤a'→∀ d ns,yi ts a' d ns→UnB ts en a' d ns:=fun a' ha d ns hp=>
   WT hs hp (fun a2 d2 qy h2 p2=>(ih (a+1) (by omega) a2 (by omega) d2 qy p2).1) (Qc hs hp fun a2 d2 qy h2 p2=>(ih (a+1) (by omega) a2 (by omega) d2 qy p2).2)
  exact⟨key a' ha d ns hp,UR hs (a:=a) (fun a' d ns ha hp=>key a' ha d ns hp) 6 1 rfl (by omega) a' d ns ha hp⟩
theorem BJ(hs:pu ts)(hp:yi ts a d ns):Kp ts en a d ns 1:=(afT hs _ a (axa _) a (axa _) d ns hp).2
end
end Go.Fx.R5
namespace Go.Fx.R5
open Go Go.Fx
section
theorem Cm(k:Nat):ee (k+1)=mm (ee k) (gC k) (fC k) k:=rfl
theorem Ck(k:Nat):gC (k+1)=mj (ee k) (gC k) (fC k) k:=rfl
theorem kl(k:Nat):fC (k+1)=dF (ee k) (gC k) (fC k) k:=rfl
theorem Hj(k:Nat):dQ (k+1)=kT (dQ k) (eU k) (dR k) k:=rfl
theorem Hi(k:Nat):eU (k+1)=kS (dQ k) (eU k) (dR k) k:=rfl
theorem kc(k:Nat):dR (k+1)=cG (dQ k) (eU k) (dR k) k:=rfl
variable {ts:List zD} {en:Int} {c p:Int}
theorem ac8(hc:c≠0):Ev fun k=>∀(a:Nat) (ns:List eu) (d:Int),fC k ts (a:Int) en ns d c p=some (0,(a:Int),ns,d,c,p,()):=by refine Ev.succ ((fl1 (ts:=ts) (en:=en) (p:=p) hc).mono fun k e a ns d=>?_);rw[kl];simp only[go_sem,dF,bo,dN hc,e,YJ hc,TX,show Ig []=0 from rfl,fj hc]
theorem ac7(hc:c≠0):Ev fun k=>∀(a:Nat) (ns:List eu) (d:Int),gC k ts (a:Int) en ns d c p=some (0,(a:Int),ns,d,c,p,()):=by
 refine Ev.succ (((ac8 (ts:=ts) (en:=en) (p:=p) hc).and ⟨1,fun k hk=>hk⟩).mono fun k e a ns d=>?_);obtain⟨e,hk⟩:=e;obtain⟨j,rfl⟩:∃ j,k=j+1:=⟨k - 1,by omega⟩
 rw[Ck];simp only[go_sem,mj,e,gq,lZ hc]
theorem YI(hc:c≠0):Ev fun k=>∀(a:Nat) (ns:List eu) (d:Int),ee k ts (a:Int) en ns d c p=some (0,(a:Int),ns,d,c,p,()):=by
 refine Ev.succ (((ac7 (ts:=ts) (en:=en) (p:=p) hc).and ⟨1,fun k hk=>hk⟩).mono fun k e a ns d=>?_);obtain⟨e,hk⟩:=e;obtain⟨j,rfl⟩:∃ j,k=j+1:=⟨k - 1,by omega⟩
 rw[Cm];simp only[go_sem,mm,e,gu,lZ hc]
variable {a d:Nat} {ns:List eu}
abbrev CdB(ts:List zD)(en:Int)(a d:Nat)(ns:List eu):Prop:=Se ts t7 1 a d ns (fun k=>dQ k ts en (a:Int) (d:Int) ns) (fun k=>ee k ts (a:Int) en ns (d:Int) 0 0)
abbrev BoB(ts:List zD)(en:Int)(a d:Nat)(ns:List eu):Prop:=Se ts t7 1 a d ns (fun k=>eU k ts en (a:Int) (d:Int) ns) (fun k=>gC k ts (a:Int) en ns (d:Int) 0 0)
abbrev LaB(ts:List zD)(en:Int)(a d:Nat)(ns:List eu):Prop:=Se ts t7 1 a d ns (fun k=>dR k ts en (a:Int) (d:Int) ns) (fun k=>fC k ts (a:Int) en ns (d:Int) 0 0)
theorem W1(hs:pu ts){a0:Nat}(IH:∀ a' eD,a0≤a'→yi ts a' d eD→LaB ts en a' d eD):∀ m a (ns:List eu) (x:Int),ts.length - a≤m→a0≤a→yi ts a d ns→0≤x→x<ns.length→t7 (kd ns x)=true→
  ∃ r,Inv ts t7 0 a d ns r (wt ns x)∧cz fun q k=>ID r (fA (dQ q) (eU q) (dR q) q k ts en (a:Int) (d:Int) ns x)∧
   Rp r (gq (ee q) (gC q) (fC q) q k ts en (a:Int) ns (d:Int) 0 0 x):=by
 have h7:=hs.len;intro m;induction m with
 |zero=>
  intro a ns x hm h0 hp x0 x1 x2;have JV:aN ts a [97,110,100]=false:=by
   cases h:aN ts a [97,110,100] with
   |false=>rfl
   |true=>have:=bB h;omega
  have b0:a≤4000000000000000000:=by have:=hp.hi;omega
  refine⟨.ok x a d ns,⟨by omega,hp.hi,rfl,by omega,aXa _,hp.all,x0,x1,x2,by omega⟩,cz.succ (cz.of fun q k=>⟨?_,?_⟩)⟩
  ·simp only[go_sem,ID,fA,tx b0,JV]
  ·simp only[go_sem,Rp,gq,cg hs (w:=[97,110,100]) rfl,JV]
 |succ m ih=>
  intro a ns x hm h0 hp x0 x1 x2;obtain⟨p1,p2,p3,p4⟩:=hp;have b0:a≤4000000000000000000:=by omega
  cases JV:aN ts a [97,110,100] with
  |true=>
   have bf:=bB JV;obtain⟨r,hi,hr⟩:=IH (a+1) ns (by omega) ⟨by omega,by omega,by omega,p4⟩
   cases r with
   |er c p=>
    refine⟨.er c p,hi,cz.succ (cz.succ (hr.tn.mono fun q k e=>?_))⟩;obtain⟨e1,v,a',eD,d',e2⟩:=e;refine⟨?_,0,a',eD,d',?_⟩
    ·simp only[go_sem,ID,fA,tx b0,JV,an,ag (show a<_ by omega),show dR q ts en ((a+1:Nat):Int) (d:Int) ns=_ from e1]
    ·simp only[go_sem,gq,cg hs (w:=[97,110,100]) rfl,JV,bo,ag (show a<_ by omega),show fC q ts ((a+1:Nat):Int) en ns (d:Int) 0 0=_ from e2,co (show c≠0 from hi),lZ (show c≠0 from hi)]
   |ok y a1 d1 nr=>
    obtain⟨q1,q2,rfl,q3,q4,q5,q6,q7,q8,q9⟩:=hi;have Mt:nr.length≤4000000:=by omega
    have xk:kd nr x=kd ns x:=qH q4 x0 x1;have ql:=q4.length_le;have S2:oo nr nr.length (31,pl ts en a,0,[],[x,y]):=⟨by simp;omega,by simp[cm,xk,x2,q8],by simp⟩
    obtain⟨r,gi,gr⟩:=ih a1 (nr++[(31,pl ts en a,0,[],[x,y])]) (nr.length:Int) (by omega) (by omega) ⟨by omega,by omega,by simp;omega,q5.add S2⟩ (by omega) (by simp;omega) (by rw[ru];rfl)
    refine⟨r,gi.from (by omega) (by simp;omega) (q4.trans (aMa _ _)) (by rw[om,yC,rX q4 x0 x1];simp;omega),cz.succ ((hr.tn.and gr).mono fun q k e=>?_)⟩
    obtain⟨⟨e1,e2⟩,e4,e5⟩:=e;refine⟨?_,?_⟩
    ·simp only[go_sem,fA,tx b0,JV,an,ag (show a<_ by omega),show dR q ts en ((a+1:Nat):Int) (d1:Int) ns=_ from e1,ip Mt]
     exact e4
    ·simp only[go_sem,gq,cg hs (w:=[97,110,100]) rfl,JV,bo,ag (show a<_ by omega),show fC q ts ((a+1:Nat):Int) en ns (d1:Int) 0 0=_ from e2,dZ Mt]
     exact e5
  |false=>
   refine⟨.ok x a d ns,⟨by omega,p1,rfl,by omega,aXa _,p4,x0,x1,x2,by omega⟩,cz.succ (cz.of fun q k=>⟨?_,?_⟩)⟩
   ·simp only[go_sem,ID,fA,tx b0,JV]
   ·simp only[go_sem,Rp,gq,cg hs (w:=[97,110,100]) rfl,JV]
theorem Pg(hs:pu ts)(hp:yi ts a d ns)(IH:∀ a' eD,a≤a'→yi ts a' d eD→LaB ts en a' d eD):BoB ts en a d ns:=by
 have h7:=hs.len;obtain⟨r,hi,hr⟩:=IH a ns (axa _) hp;obtain⟨p1,p2,p3,p4⟩:=hp;cases r with
 |er c p=>
  refine⟨.er c p,hi,Ev.succ ((hr.and ⟨1,fun k hk=>hk⟩).mono fun k e=>?_)⟩;obtain⟨⟨e1,v,a',eD,d',e2⟩,hk⟩:=e;obtain⟨j,rfl⟩:∃ j,k=j+1:=⟨k - 1,by omega⟩
  refine⟨?_,v,a',eD,d',?_⟩
  ·simp only[go_sem,uM,Hi (j+1),kS,show dR (j+1) ts en (a:Int) (d:Int) ns=_ from e1]
  ·simp only[go_sem,Ck (j+1),mj,show fC (j+1) ts (a:Int) en ns (d:Int) 0 0=_ from e2,gq,lZ (show c≠0 from hi)]
 |ok x a1 d1 nr=>
  obtain⟨q1,q2,rfl,q3,q4,q5,q6,q7,q8,q9⟩:=hi;obtain⟨r,gi,gr⟩:=W1 hs IH _ a1 nr x (axa _) (by omega) ⟨q2,p2,by omega,q5⟩ q6 q7 q8
  refine⟨r,gi.from (by omega) q3 q4 q9,Ev.succ ((hr.and gr.j9).mono fun k e=>?_)⟩
  obtain⟨⟨e1,e2⟩,e3,e4⟩:=e;cases r with
  |er c p=>
   obtain⟨v,a',eD,d',e4⟩:=e4;refine⟨?_,v,a',eD,d',?_⟩
   ·simp only[go_sem,uM,Hi,kS,show dR k ts en (a:Int) (d1:Int) ns=_ from e1]
    simp only[go_sem,show fA _ _ _ k k ts en (a1:Int) (d1:Int) nr x=_ from e3]
   ·simp only[go_sem,Ck,mj,show fC k ts (a:Int) en ns (d1:Int) 0 0=_ from e2,e4]
  |ok v a' d' eD=>
   refine⟨?_,?_⟩
   ·simp only[go_sem,uM,Hi,kS,show dR k ts en (a:Int) (d1:Int) ns=_ from e1]
    simp only[go_sem,show fA _ _ _ k k ts en (a1:Int) (d1:Int) nr x=_ from e3]
   ·simp only[go_sem,L1,Ck,mj,show fC k ts (a:Int) en ns (d1:Int) 0 0=_ from e2,show gq _ _ _ k k ts en (a1:Int) nr (d1:Int) 0 0 x=_ from e4]
theorem W6(hs:pu ts){a0:Nat}(IH:∀ a' eD,a0≤a'→yi ts a' d eD→BoB ts en a' d eD):∀ m a (ns:List eu) (x:Int),ts.length - a≤m→a0≤a→yi ts a d ns→0≤x→x<ns.length→t7 (kd ns x)=true→
  ∃ r,Inv ts t7 0 a d ns r (wt ns x)∧cz fun q k=>ID r (fB (dQ q) (eU q) (dR q) q k ts en (a:Int) (d:Int) ns x)∧
   Rp r (gu (ee q) (gC q) (fC q) q k ts en (a:Int) ns (d:Int) 0 0 x):=by
 have h7:=hs.len;intro m;induction m with
 |zero=>
  intro a ns x hm h0 hp x0 x1 x2;have JV:aN ts a [111,114]=false:=by
   cases h:aN ts a [111,114] with
   |false=>rfl
   |true=>have:=bB h;omega
  have b0:a≤4000000000000000000:=by have:=hp.hi;omega
  refine⟨.ok x a d ns,⟨by omega,hp.hi,rfl,by omega,aXa _,hp.all,x0,x1,x2,by omega⟩,cz.succ (cz.of fun q k=>⟨?_,?_⟩)⟩
  ·simp only[go_sem,ID,fB,tx b0,JV]
  ·simp only[go_sem,Rp,gu,cg hs (w:=[111,114]) rfl,JV]
 |succ m ih=>
  intro a ns x hm h0 hp x0 x1 x2;obtain⟨p1,p2,p3,p4⟩:=hp;have b0:a≤4000000000000000000:=by omega
  cases JV:aN ts a [111,114] with
  |true=>
   have bf:=bB JV;obtain⟨r,hi,hr⟩:=IH (a+1) ns (by omega) ⟨by omega,by omega,by omega,p4⟩
   cases r with
   |er c p=>
    refine⟨.er c p,hi,cz.succ (cz.succ (hr.tn.mono fun q k e=>?_))⟩;obtain⟨e1,v,a',eD,d',e2⟩:=e;refine⟨?_,0,a',eD,d',?_⟩
    ·simp only[go_sem,ID,fB,tx b0,JV,an,ag (show a<_ by omega),show eU q ts en ((a+1:Nat):Int) (d:Int) ns=_ from e1]
    ·simp only[go_sem,gu,cg hs (w:=[111,114]) rfl,JV,bo,ag (show a<_ by omega),show gC q ts ((a+1:Nat):Int) en ns (d:Int) 0 0=_ from e2,co (show c≠0 from hi),lZ (show c≠0 from hi)]
   |ok y a1 d1 nr=>
    obtain⟨q1,q2,rfl,q3,q4,q5,q6,q7,q8,q9⟩:=hi;have Mt:nr.length≤4000000:=by omega
    have xk:kd nr x=kd ns x:=qH q4 x0 x1;have ql:=q4.length_le;have S2:oo nr nr.length (32,pl ts en a,0,[],[x,y]):=⟨by simp;omega,by simp[cm,xk,x2,q8],by simp⟩
    obtain⟨r,gi,gr⟩:=ih a1 (nr++[(32,pl ts en a,0,[],[x,y])]) (nr.length:Int) (by omega) (by omega) ⟨by omega,by omega,by simp;omega,q5.add S2⟩ (by omega) (by simp;omega) (by rw[ru];rfl)
    refine⟨r,gi.from (by omega) (by simp;omega) (q4.trans (aMa _ _)) (by rw[om,yC,rX q4 x0 x1];simp;omega),cz.succ ((hr.tn.and gr).mono fun q k e=>?_)⟩
    obtain⟨⟨e1,e2⟩,e4,e5⟩:=e;refine⟨?_,?_⟩
    ·simp only[go_sem,fB,tx b0,JV,an,ag (show a<_ by omega),show eU q ts en ((a+1:Nat):Int) (d1:Int) ns=_ from e1,ip Mt]
     exact e4
    ·simp only[go_sem,gu,cg hs (w:=[111,114]) rfl,JV,bo,ag (show a<_ by omega),show gC q ts ((a+1:Nat):Int) en ns (d1:Int) 0 0=_ from e2,dZ Mt]
     exact e5
  |false=>
   refine⟨.ok x a d ns,⟨by omega,p1,rfl,by omega,aXa _,p4,x0,x1,x2,by omega⟩,cz.succ (cz.of fun q k=>⟨?_,?_⟩)⟩
   ·simp only[go_sem,ID,fB,tx b0,JV]
   ·simp only[go_sem,Rp,gu,cg hs (w:=[111,114]) rfl,JV]
theorem Pj(hs:pu ts)(hp:yi ts a d ns)(IH:∀ a' eD,a≤a'→yi ts a' d eD→BoB ts en a' d eD):CdB ts en a d ns:=by
 have h7:=hs.len;obtain⟨r,hi,hr⟩:=IH a ns (axa _) hp;obtain⟨p1,p2,p3,p4⟩:=hp;cases r with
 |er c p=>
  refine⟨.er c p,hi,Ev.succ ((hr.and ⟨1,fun k hk=>hk⟩).mono fun k e=>?_)⟩;obtain⟨⟨e1,v,a',eD,d',e2⟩,hk⟩:=e;obtain⟨j,rfl⟩:∃ j,k=j+1:=⟨k - 1,by omega⟩
  refine⟨?_,v,a',eD,d',?_⟩
  ·simp only[go_sem,uM,Hj (j+1),kT,show eU (j+1) ts en (a:Int) (d:Int) ns=_ from e1]
  ·simp only[go_sem,Cm (j+1),mm,show gC (j+1) ts (a:Int) en ns (d:Int) 0 0=_ from e2,gu,lZ (show c≠0 from hi)]
 |ok x a1 d1 nr=>
  obtain⟨q1,q2,rfl,q3,q4,q5,q6,q7,q8,q9⟩:=hi;obtain⟨r,gi,gr⟩:=W6 hs IH _ a1 nr x (axa _) (by omega) ⟨q2,p2,by omega,q5⟩ q6 q7 q8
  refine⟨r,gi.from (by omega) q3 q4 q9,Ev.succ ((hr.and gr.j9).mono fun k e=>?_)⟩
  obtain⟨⟨e1,e2⟩,e3,e4⟩:=e;cases r with
  |er c p=>
   obtain⟨v,a',eD,d',e4⟩:=e4;refine⟨?_,v,a',eD,d',?_⟩
   ·simp only[go_sem,uM,Hj,kT,show eU k ts en (a:Int) (d1:Int) ns=_ from e1]
    simp only[go_sem,show fB _ _ _ k k ts en (a1:Int) (d1:Int) nr x=_ from e3]
   ·simp only[go_sem,Cm,mm,show gC k ts (a:Int) en ns (d1:Int) 0 0=_ from e2,e4]
  |ok v a' d' eD=>
   refine⟨?_,?_⟩
   ·simp only[go_sem,uM,Hj,kT,show eU k ts en (a:Int) (d1:Int) ns=_ from e1]
    simp only[go_sem,show fB _ _ _ k k ts en (a1:Int) (d1:Int) nr x=_ from e3]
   ·simp only[go_sem,L1,Cm,mm,show gC k ts (a:Int) en ns (d1:Int) 0 0=_ from e2,show gu _ _ _ k k ts en (a1:Int) nr (d1:Int) 0 0 x=_ from e4]
theorem PS(hs:pu ts)(hp:yi ts a d ns)(IHl:∀ a' d' eD,a<a'→yi ts a' d' eD→LaB ts en a' d' eD)(IHc:∀ a' d' eD,a<a'→yi ts a' d' eD→CdB ts en a' d' eD):LaB ts en a d ns:=by
 have h7:=hs.len;have As:=hp;obtain⟨p1,p2,p3,p4⟩:=hp;have b0:a≤4000000000000000000:=by omega
 have b1:a+1≤4000000000000000000:=by omega
 have bn:ns.length≤4000000:=by omega
 cases wK:aN ts a [110,111,116] with
 |true=>
  have bf:=bB wK;by_cases hd:d<10
  ·obtain⟨r,hi,hr⟩:=IHl (a+1) (d+1) ns (by omega) ⟨by omega,by omega,by omega,p4⟩
   cases r with
   |er c p=>
    refine⟨.er c p,hi,Ev.succ (hr.mono fun k e=>?_)⟩;obtain⟨e1,v,a',eD,d',e2⟩:=e;refine⟨?_,0,a',eD,bC (d' - 1),?_⟩
    ·simp only[go_sem,uM,kc,cG,an,aR,reduceIte,aJ b0,gU p2,wK,hd,show dR k ts en ((a+1:Nat):Int) ((d+1:Nat):Int) ns=_ from e1]
    ·simp only[go_sem,kl,dF,bo,aQ,reduceIte,ae hs (w:=[110,111,116]) rfl b0,mf p2,wK,hd,show fC k ts ((a+1:Nat):Int) en ns ((d+1:Nat):Int) 0 0=_ from e2,co (show c≠0 from hi)]
   |ok v a' d' eD=>
    obtain⟨q1,q2,rfl,q3,q4,q5,q6,q7,q8,q9⟩:=hi;have Mt:eD.length≤4000000:=by omega
    refine⟨.ok _ a' d (eD++[(33,pl ts en a,0,[],[v])]),kV (by omega) (by omega) (by omega) q4 q5 ⟨by simp;omega,by simpa[cm] using q8,by simp⟩ rfl (by rw[ph];exact q9),Ev.succ (hr.mono fun k e=>⟨?_,?_⟩)⟩
    ·simp only[go_sem,uM,kc,cG,an,aR,reduceIte,aJ b0,gU p2,ip Mt,wK,hd,show dR k ts en ((a+1:Nat):Int) ((d+1:Nat):Int) ns=_ from e.1,kG (show d≤_ by omega)]
    ·simp only[go_sem,L1,kl,dF,bo,aQ,reduceIte,ae hs (w:=[110,111,116]) rfl b0,mf p2,dZ Mt,wK,hd,show fC k ts ((a+1:Nat):Int) en ns ((d+1:Nat):Int) 0 0=_ from e.2,kG (show d≤_ by omega)]
  ·refine⟨.er 7 (pl ts en (a+1)),(show(7:Int)≠0 by decide),Ev.succ (Ev.of fun k=>⟨?_,0,a+1,ns,((d+1:Nat):Int),?_⟩)⟩
   ·simp only[go_sem,uM,kc,cG,an,aR,reduceIte,aJ b0,gU p2,wK,hd]
   ·simp only[go_sem,kl,dF,bo,aQ,reduceIte,ae hs (w:=[110,111,116]) rfl b0,mf p2,wK,hd]
 |false=>
 cases qx:aN ts a [91] with
 |true=>
  have bf:=bB qx;by_cases hd:d<10
  ·obtain⟨r,hi,hr⟩:=IHc (a+1) (d+1) ns (by omega) ⟨by omega,by omega,by omega,p4⟩
   cases r with
   |er c p=>
    refine⟨.er c p,hi,Ev.succ (hr.mono fun k e=>?_)⟩;obtain⟨e1,v,a',eD,d',e2⟩:=e;refine⟨?_,v,a',eD,bC (d' - 1),?_⟩
    ·simp only[go_sem,uM,kc,cG,an,aR,reduceIte,aJ b0,gU p2,wK,qx,hd,show dQ k ts en ((a+1:Nat):Int) ((d+1:Nat):Int) ns=_ from e1]
    ·simp only[go_sem,kl,dF,bo,aQ,reduceIte,ae hs (w:=[110,111,116]) rfl b0,ae hs (w:=[91]) rfl b0,mf p2,wK,qx,hd,show ee k ts ((a+1:Nat):Int) en ns ((d+1:Nat):Int) 0 0=_ from e2,cX (show c≠0 from hi)]
   |ok v a' d' eD=>
    obtain⟨q1,q2,rfl,q3,q4,q5,q6,q7,q8,q9⟩:=hi;have b4:a'≤4000000000000000000:=by omega
    cases mH:aN ts a' [93] with
    |true=>
     have Hg:=bB mH;refine⟨.ok v (a' + 1) d eD,⟨by omega,by omega,rfl,by omega,q4,q5,q6,q7,q8,q9⟩,Ev.succ (hr.mono fun k e=>⟨?_,?_⟩)⟩
     ·simp only[go_sem,uM,kc,cG,an,aR,reduceIte,aJ b0,aM b4,gU p2,wK,qx,hd,mH,show dQ k ts en ((a+1:Nat):Int) ((d+1:Nat):Int) ns=_ from e.1,kG (show d≤_ by omega)]
     ·simp only[go_sem,L1,kl,dF,bo,aQ,reduceIte,ae hs (w:=[110,111,116]) rfl b0,ae hs (w:=[91]) rfl b0,mf p2,aj hs (w:=[93]) rfl b4,wK,qx,hd,mH,show ee k ts ((a+1:Nat):Int) en ns ((d+1:Nat):Int) 0 0=_ from e.2,kG (show d≤_ by omega)]
    |false=>
     refine⟨.er 6 (pl ts en a'),(show(6:Int)≠0 by decide),Ev.succ (hr.mono fun k e=>⟨?_,v,a',eD,d,?_⟩)⟩
     ·simp only[go_sem,uM,kc,cG,an,aR,reduceIte,aJ b0,aM b4,gU p2,wK,qx,hd,mH,show dQ k ts en ((a+1:Nat):Int) ((d+1:Nat):Int) ns=_ from e.1]
     ·simp only[go_sem,kl,dF,bo,aQ,reduceIte,ae hs (w:=[110,111,116]) rfl b0,ae hs (w:=[91]) rfl b0,mf p2,aj hs (w:=[93]) rfl b4,wK,qx,hd,mH,show ee k ts ((a+1:Nat):Int) en ns ((d+1:Nat):Int) 0 0=_ from e.2,kG (show d≤_ by omega)]
  ·refine⟨.er 7 (pl ts en (a+1)),(show(7:Int)≠0 by decide),Ev.succ (Ev.of fun k=>⟨?_,0,a+1,ns,((d+1:Nat):Int),?_⟩)⟩
   ·simp only[go_sem,uM,kc,cG,an,aR,reduceIte,aJ b0,gU p2,wK,qx,hd]
   ·simp only[go_sem,kl,dF,bo,aQ,reduceIte,ae hs (w:=[110,111,116]) rfl b0,ae hs (w:=[91]) rfl b0,mf p2,wK,qx,hd]
 |false=>
 cases hnu:aN ts a [110,117,108,108] with
 |true=>
  have bf:=bB hnu;cases hn:uq ts (a+1) 1 with
  |true=>
   have bf:=jT hn;refine⟨.ok _ (a+1+1) d (ns++[(34,pl ts en a,0,(tk ts (a+1)).2.2.1,[])]),kV (by omega) (by omega) (by omega) (aXa _) p4 (tg rfl (by decide)) rfl (by simp[jQ]),Ev.succ (Ev.of fun k=>⟨?_,?_⟩)⟩
   ·simp only[go_sem,uM,kc,cG,an,aR,reduceIte,bS b1,aJ b0,ip bn,wK,qx,hnu,hn]
   ·simp only[go_sem,L1,kl,dF,bo,aQ,reduceIte,ae hs (w:=[110,111,116]) rfl b0,ae hs (w:=[91]) rfl b0,ae hs (w:=[110,117,108,108]) rfl b0,df b1,dZ bn,wK,qx,hnu,hn]
  |false=>
   refine⟨.er 6 (pl ts en (a+1)),(show(6:Int)≠0 by decide),Ev.succ (Ev.of fun k=>⟨?_,0,a+1,ns,d,?_⟩)⟩
   ·simp only[go_sem,uM,kc,cG,an,aR,reduceIte,bS b1,aJ b0,wK,qx,hnu,hn]
   ·simp only[go_sem,kl,dF,bo,aQ,reduceIte,ae hs (w:=[110,111,116]) rfl b0,ae hs (w:=[91]) rfl b0,ae hs (w:=[110,117,108,108]) rfl b0,df b1,co (show(6:Int)≠0 by decide),wK,qx,hnu,hn]
 |false=>
 obtain⟨r,hi,hr⟩:=BJ (en:=en) hs As;cases r with
 |er c p=>
  have hc:c≠0:=hi;refine⟨.er c p,hi,Ev.succ (hr.mono fun k e=>?_)⟩;obtain⟨e1,v,a',eD,d',e2⟩:=e;refine⟨?_,0,a',eD,d',?_⟩
  ·simp only[go_sem,uM,kc,cG,an,aR,reduceIte,aJ b0,wK,qx,hnu,show ak k ts en (a:Int) (d:Int) ns 1=_ from e1]
  ·simp only[go_sem,kl,dF,bo,aQ,reduceIte,ae hs (w:=[110,111,116]) rfl b0,ae hs (w:=[91]) rfl b0,ae hs (w:=[110,117,108,108]) rfl b0,wK,qx,hnu,show ao k ts (a:Int) en ns (d:Int) 0 0 1=_ from e2,YJ hc,TX,show Ig []=0 from rfl,fj hc]
 |ok x a1 d1 nr=>
  obtain⟨q1,q2,rfl,q3,q4,q5,q6,q7,q8,q9⟩:=hi;by_cases hz:Ig (sg ts a1)=0
  ·refine⟨.er 6 (pl ts en a1),(show(6:Int)≠0 by decide),Ev.succ ((hr.and (Zf (tk ts a1).2.2.1)).mono fun k e=>⟨?_,0,a1,nr,d1,?_⟩)⟩
   ·by_cases bf:a1<ts.length
    ·simp only[go_sem,uM,kc,cG,aa,an,aR,reduceIte,aJ b0,wK,qx,hnu,show ak k ts en (a:Int) (d1:Int) ns 1=_ from e.1.1,Q5,bf,bq (iG bf),e.2,Uz hs bf,hz,py]
    ·simp only[go_sem,uM,kc,cG,aa,an,aR,reduceIte,aJ b0,wK,qx,hnu,show ak k ts en (a:Int) (d1:Int) ns 1=_ from e.1.1,Q5,bf,py]
   ·simp only[go_sem,kl,dF,bo,aQ,reduceIte,ae hs (w:=[110,111,116]) rfl b0,ae hs (w:=[91]) rfl b0,ae hs (w:=[110,117,108,108]) rfl b0,wK,qx,hnu,show ao k ts (a:Int) en ns (d1:Int) 0 0 1=_ from e.1.2,Hx,TX,hz,Kj]
  ·have bf:a1<ts.length:=by
    by_cases h:a1<ts.length
    ·exact h
    ·rw[Vh h] at hz;exact absurd rfl hz
   have hz':(Ig (sg ts a1)==0)=false:=Q6.2 hz;obtain⟨r,gi,gr⟩:=BJ (en:=en) hs (a:=a1+1) (d:=d1) (ns:=nr) ⟨by omega,p2,by omega,q5⟩
   cases r with
   |er c p=>
    have hc:c≠0:=gi;refine⟨.er c p,gi,Ev.succ (((hr.and (Zf (tk ts a1).2.2.1)).and gr).mono fun k e=>?_)⟩;obtain⟨⟨⟨e1,e2⟩,e3⟩,e4,v,a',eD,d',e5⟩:=e;refine⟨?_,0,a',eD,d',?_⟩
    ·simp only[go_sem,uM,kc,cG,aa,an,aR,reduceIte,aJ b0,wK,qx,hnu,show ak k ts en (a:Int) (d1:Int) ns 1=_ from e1,Q5,bf,bq (iG bf),e3,Uz hs bf,hz',ag (show a1<_ by omega),show ak k ts en ((a1+1:Nat):Int) (d1:Int) nr 1=_ from e4]
    ·simp only[go_sem,kl,dF,bo,aQ,reduceIte,ae hs (w:=[110,111,116]) rfl b0,ae hs (w:=[91]) rfl b0,ae hs (w:=[110,117,108,108]) rfl b0,wK,qx,hnu,show ao k ts (a:Int) en ns (d1:Int) 0 0 1=_ from e2,Hx,TX,hz',ag (show a1<_ by omega),show ao k ts ((a1+1:Nat):Int) en nr (d1:Int) 0 0 1=_ from e5,co hc]
   |ok y a2 d2 qy=>
    obtain⟨g1,g2,rfl,g3,g4,g5,g6,g7,g8,g9⟩:=gi;have Mt:qy.length≤4000000:=by omega
    have xk:kd qy x=kd nr x:=qH g4 q6 q7;have ql:=g4.length_le;refine⟨.ok _ a2 d2 (qy++[(30,pl ts en a1,Ig (sg ts a1),[],[x,y])]),kV (by omega) (by omega) (by omega) (q4.trans g4) g5 ⟨by simp;omega,by simp[cm,xk,q8,g8],by simp⟩ rfl (by rw[yC,rX g4 q6 q7];omega),Ev.succ (((hr.and (Zf (tk ts a1).2.2.1)).and gr).mono fun k e=>?_)⟩
    obtain⟨⟨⟨e1,e2⟩,e3⟩,e4,e5⟩:=e;refine⟨?_,?_⟩
    ·simp only[go_sem,uM,kc,cG,aa,an,aR,reduceIte,aJ b0,wK,qx,hnu,show ak k ts en (a:Int) (d2:Int) ns 1=_ from e1,Q5,bf,bq (iG bf),e3,Uz hs bf,hz',ag (show a1<_ by omega),show ak k ts en ((a1+1:Nat):Int) (d2:Int) nr 1=_ from e4,ip Mt]
    ·simp only[go_sem,L1,kl,dF,bo,aQ,reduceIte,ae hs (w:=[110,111,116]) rfl b0,ae hs (w:=[91]) rfl b0,ae hs (w:=[110,117,108,108]) rfl b0,wK,qx,hnu,show ao k ts (a:Int) en ns (d2:Int) 0 0 1=_ from e2,Hx,TX,hz',ag (show a1<_ by omega),show ao k ts ((a1+1:Nat):Int) en nr (d2:Int) 0 0 1=_ from e5,dZ Mt]
theorem aev(hs:pu ts):∀ m a,ts.length - a≤m→∀ a',a≤a'→∀ d ns,yi ts a' d ns→LaB ts en a' d ns∧CdB ts en a' d ns:=by
 intro m;induction m with
 |zero=>
  intro a hm a' ha d ns hp;have key:∀ a',a≤a'→∀ d ns,yi ts a' d ns→LaB ts en a' d ns:=fun a' ha d ns hp=>
   PS hs hp (fun a2 d2 qy h2 p2=>by have:=p2.hi;have:=hp.hi;omega) (fun a2 d2 qy h2 p2=>by have:=p2.hi;have:=hp.hi;omega)
  exact⟨key a' ha d ns hp,Pj hs hp fun a2 qy h2 p2=>Pg hs p2 fun a3 L5 h3 p3=>key a3 (by omega) d L5 p3⟩
 |succ m ih=>
  intro a hm a' ha d ns hp;have key:∀ a',a≤a'→∀ d ns,yi ts a' d ns→LaB ts en a' d ns:=fun a' ha d ns hp=>
   PS hs hp (fun a2 d2 qy h2 p2=>(ih (a+1) (by omega) a2 (by omega) d2 qy p2).1) (fun a2 d2 qy h2 p2=>(ih (a+1) (by omega) a2 (by omega) d2 qy p2).2)
  exact⟨key a' ha d ns hp,Pj hs hp fun a2 qy h2 p2=>Pg hs p2 fun a3 L5 h3 p3=>key a3 (by omega) d L5 p3⟩
theorem Yv(hs:pu ts)(hp:yi ts a d ns):CdB ts en a d ns:=(aev hs _ a (axa _) a (axa _) d ns hp).2
end
end Go.Fx.R5
namespace Go.Fx.R5
open Go Go.Fx
def QR(P:Int→Nat→Nat→List eu→Prop):Res→Prop | .ok v a d ns=>P v a d ns | .er c _=>c≠0
def BS(P:Int→Nat→Nat→List eu→Prop)(i:Nat→IT)(s:Nat→ST):Prop:=∃ r,QR P r∧Ev fun k=>uM r (i k)∧L1 r (s k)
def fM(c p:Int)(o:ST):Prop:=match o with|some (_,a,_,_,c',p',_)=>c' = c∧p' = p∧0≤a|none=>False
theorem fM.vJ{c p:Int}{o:ST}(h:fM c p o):∃(v:Int) (a:Nat) (ns:List eu) (d:Int),o=some (v,(a:Int),ns,d,c,p,()):=by
 match o,h with
 |some (v,a,ns,d,c',p',u),h'=>obtain⟨rfl,rfl,h0⟩:=h';exact⟨v,a.toNat,ns,d,by rw[aRa h0]⟩
section
variable {P P1:Int→Nat→Nat→List eu→Prop} {i:Nat→IT} {s:Nat→ST} {c p:Int}
theorem BS.of{ts:List zD}{C:Int→Bool}{s0 a d:Nat}{ns:List eu}(h:Se ts C s0 a d ns i s):BS (yh ts C s0 a d ns) i s:=by obtain⟨r,hi,hr⟩:=h;exact⟨r,by cases r<;>exact hi,hr⟩
theorem BS.to{ts:List zD}{C:Int→Bool}{s0 a d:Nat}{ns:List eu}(h:BS (yh ts C s0 a d ns) i s):Se ts C s0 a d ns i s:=by obtain⟨r,hi,hr⟩:=h;exact⟨r,by cases r<;>exact hi,hr⟩
theorem BS.mono(h:BS P1 i s)(g:∀ v a d ns,P1 v a d ns→P v a d ns):BS P i s:=by
 obtain⟨r,hi,hr⟩:=h;refine⟨r,?_,hr⟩;cases r with
 |ok v a d ns=>exact g _ _ _ _ hi
 |er c p=>exact hi
theorem BS.succ(h:BS P (fun k=>i (k+1)) (fun k=>s (k+1))):BS P i s:=by obtain⟨r,hi,hr⟩:=h;exact⟨r,hi,Ev.succ hr⟩
theorem BS.ok{v:Int}{a d:Nat}{ns:List eu}(h:P v a d ns):BS P (fun _=>some (.inl (v,(a:Int),(d:Int),ns,()))) (fun _=>some (v,(a:Int),ns,(d:Int),0,0,())):=
 ⟨.ok v a d ns,h,Ev.of fun k=>⟨rfl,rfl⟩⟩
theorem BS.er(hc:c≠0)(h:Ev fun k=>i k=some (.inr (c,p,()))∧fM c p (s k)):BS P i s:=
 ⟨.er c p,hc,h.mono fun _ e=>⟨e.1,e.2.vJ⟩⟩
theorem BS.bind{f:Nat→(Int×Int×Int×List eu×Unit)⊕(Int×Int×Unit)→IT}{g:Nat→Int×Int×List eu×Int×Int×Int×Unit→ST}(h:BS P1 i s)
  (hok:∀(v:Int) (a d:Nat) (ns:List eu),P1 v a d ns→BS P (fun k=>f k (.inl (v,(a:Int),(d:Int),ns,()))) (fun k=>g k (v,(a:Int),ns,(d:Int),0,0,())))
  (her:∀ c p:Int,c≠0→Ev fun k=>∀(v:Int) (a:Nat) (ns:List eu) (d:Int),f k (.inr (c,p,()))=some (.inr (c,p,()))∧fM c p (g k (v,(a:Int),ns,d,c,p,()))):
  BS P (fun k=>(i k).bind (f k)) (fun k=>(s k).bind (g k)):=by
 obtain⟨r,hi,hr⟩:=h;cases r with
 |ok v a d ns=>obtain⟨r2,hi2,hr2⟩:=hok v a d ns hi;refine⟨r2,hi2,(hr.and hr2).mono fun k e=>?_⟩;obtain⟨⟨e1,e2⟩,e3⟩:=e;have e1:i k=_:=e1;have e2:s k=_:=e2;simpa only[e1,e2,bFa] using e3
 |er c p=>refine BS.er (p:=p) hi ((hr.and (her c p hi)).mono fun k e=>?_);obtain⟨⟨e1,v,a,ns,d,e2⟩,e3⟩:=e;have e1:i k=_:=e1;simp only[go_sem,e1,e2];exact e3 v a ns d
end
section
variable {ts:List zD} {en:Int} {c p:Int} {a d:Nat} {ns:List eu}
theorem tW(h:a<ts.length):pl ts en a=(tk ts a).2.1:=by simp only[pl,iG h]
def stp(ts:List zD)(C:Int→Bool)(s a d:Nat)(ns:List eu):=yh ts C s a d ns
theorem ff(hc:c≠0):Ev fun k=>(∀(a:Nat) (ns:List eu) (d:Int),ao k ts (a:Int) en ns d c p 1=some (0,(a:Int),ns,d,c,p,()))∧
  (∀(a:Nat) (ns:List eu) (d:Int),ee k ts (a:Int) en ns d c p=some (0,(a:Int),ns,d,c,p,())):=
 (fl1 hc).and (YI hc)
theorem ff1(hc:c≠0):Ev fun k=>∃ j,k=j+1∧(∀(a:Nat) (ns:List eu) (d:Int),ao (j+1) ts (a:Int) en ns d c p 1=some (0,(a:Int),ns,d,c,p,()))∧
  (∀(a:Nat) (ns:List eu) (d:Int),ee (j+1) ts (a:Int) en ns d c p=some (0,(a:Int),ns,d,c,p,())):=
 ((ff hc).and ⟨1,fun k hk=>hk⟩).mono fun k e=>⟨k - 1,by omega,by rw[show k - 1+1=k by omega];exact e.1⟩
theorem FW(hs:pu ts)(hp:yi ts a d ns):BS (yh ts Bk 1 a d ns) (fun k=>ak k ts en (a:Int) (d:Int) ns 1) (fun k=>ao k ts (a:Int) en ns (d:Int) 0 0 1):=BS.of (BJ hs hp)
theorem X9(hs:pu ts)(hp:yi ts a d ns):BS (yh ts t7 1 a d ns) (fun k=>dQ k ts en (a:Int) (d:Int) ns) (fun k=>ee k ts (a:Int) en ns (d:Int) 0 0):=BS.of (Yv hs hp)
inductive Ot|ok (l:XI) (a:Nat) (ns:List eu)|er (c p:Int)
structure jc(C:Int→Bool)(ns:List eu)(l:XI):Prop where
 v:∀ j∈l,0≤j∧j<(ns.length:Int)
 c:∀ j∈l,C (kd ns j)=true
theorem jc.up{C:Int→Bool}{ns eD:List eu}{l:XI}(h:jc C ns l)(hp:ns <+: eD):jc C eD l:=by
 have:=hp.length_le;refine⟨fun j hj=>?_,fun j hj=>?_⟩
 ·have:=h.v j hj;omega
 ·have:=h.v j hj
  rw[qH hp this.1 this.2];exact h.c j hj
theorem jc.add{C:Int→Bool}{ns:List eu}{l:XI}{v:Int}(h:jc C ns l)(h0:0≤v)(h1:v<ns.length)(hc:C (kd ns v)=true):jc C ns (l++[v]):=by
 refine⟨fun j hj=>?_,fun j hj=>?_⟩
 ·rcases ana.1 hj with hj|hj
  ·exact h.v j hj
  ·rw[Q7.1 hj];exact⟨h0,h1⟩
 ·rcases ana.1 hj with hj|hj
  ·exact h.c j hj
  ·rw[Q7.1 hj];exact hc
theorem jc.nil{C:Int→Bool}{ns:List eu}:jc C ns []:=⟨by simp,by simp⟩
theorem cB{l:XI}{v:Int}(h:l.length≤4000000):bE l [v]=some (l++[v]):=oO (by simp;omega)
def Zj(u:XI)(r:Ot)(d:Int)(o:Option ((XI×Int×Int×List eu×Unit)⊕(Int×Int×Unit))):Prop:=match r with
 |.ok l a ns=>o=some (.inl (u++l,(a:Int),d,ns,()))
 |.er c p=>o=some (.inr (c,p,()))
def OL(u:XI)(r:Ot)(d:Int)(o:Option (Int×List eu×Int×Int×Int×XI×Unit)):Prop:=match r with
 |.ok l a ns=>o=some ((a:Int),ns,d,0,0,u++l,())
 |.er c p=>∃(l:XI) (a:Nat) (ns:List eu) (d:Int),o=some ((a:Int),ns,d,c,p,l,())
def qB(ts:List zD)(en:Int)(w:ab):Ot→Ot
 |.ok l a ns=>if aN ts a w=true then .ok l a ns else .er 6 (pl ts en a)
 |.er c p=>.er c p
structure LOk(ts:List zD)(C:Int→Bool)(a:Nat)(ns:List eu)(n w0:Nat)(l':XI)(a':Nat)(eD:List eu):Prop where
 lo:a≤a'
 hi:a'≤ts.length
 ln:eD.length+2 * a≤ns.length+2 * a'
 pre:ns <+: eD
 all:jC eD
 cL:jc C eD l'
 len:l'.length+a≤n+a'
 w:jQ eD l' + ns.length≤eD.length+w0
def Oq(ts:List zD)(C:Int→Bool)(a:Nat)(ns:List eu)(n w0:Nat):Ot→Prop
 |.ok l' a' eD=>LOk ts C a ns n w0 l' a' eD
 |.er c _=>c≠0
theorem Oq.from{C:Int→Bool}{a a1 n n1 w0 w1:Nat}{ns nr:List eu}{r:Ot}(h:Oq ts C a1 nr n1 w1 r)(lo:a≤a1)(ln:nr.length+2 * a≤ns.length+2 * a1)(pre:ns <+: nr)(hn:n1+a≤n+a1)(hw:w1+ns.length≤nr.length+w0):Oq ts C a ns n w0 r:=by
 cases r with
 |er c p=>exact h
 |ok l' a' eD=>obtain⟨h1,h2,h3,h4,h5,h6,h7,h8⟩:=h;exact⟨by omega,h2,by omega,pre.trans h4,h5,h6,by omega,by omega⟩
theorem WX(hs:pu ts){u:Int}(hd:d≤10):∀ m a (ns:List eu) (l:XI),ts.length - a≤m→yi ts a d ns→jc Bk ns l→1≤l.length→l.length≤1+a→
  ∃ r,Oq ts Bk a ns l.length (jQ ns l) r∧cz fun q k=>Zj [u] r d (de q k ts en (u::l) (a:Int) (d:Int) ns)∧
   OL [u] (qB ts en [41] r) d (bz q k ts en (a:Int) ns (d:Int) 0 0 (u::l)):=by
 have h7:=hs.len;intro m;induction m with
 |zero=>
  intro a ns l hm hp hk hl PJ;have F5:aN ts a [44]=false:=by
   cases h:aN ts a [44] with
   |false=>rfl
   |true=>have:=bB h;omega
  have mH:aN ts a [41]=false:=by
   cases h:aN ts a [41] with
   |false=>rfl
   |true=>have:=bB h;omega
  have b0:a≤4000000000000000000:=by have:=hp.hi;omega
  have bl:((u::l).length:Int) > 1:=by simp;omega
  have bk:(u::l).length≤4000000:=by have:=hp.hi;simp;omega
  refine⟨.ok l a ns,⟨by omega,hp.hi,by omega,aXa _,hp.all,hk,by omega,by omega⟩,cz.succ (cz.succ ((fl1 (ts:=ts) (en:=en) (c:=6) (p:=pl ts en a) (by decide)).tn.mono fun q k e=>⟨?_,?_⟩))⟩
  ·simp only[go_sem,Zj,a4a,aVa,de,aJ b0,F5,reduceIte]
  ·simp only[go_sem,qB,mH,reduceIte]
   refine⟨u::(l++[0]),a,ns,d,?_⟩;rw[bz];simp only[go_sem,aa,cg hs (w:=[41]) rfl,mH,bl,aj hs (w:=[44]) rfl b0,F5,reduceIte,e,cB bk];rw[bz];simp only[go_sem,aa,show((6:Int)==0)=false from rfl,a4a]
 |succ m ih=>
  intro a ns l hm hp hk hl PJ;obtain⟨p1,p2,p3,p4⟩:=hp;have b0:a≤4000000000000000000:=by omega
  have bl:((u::l).length:Int) > 1:=by simp;omega
  have bk:(u::l).length≤4000000:=by simp;omega
  have bk1:l.length≤4000000:=by omega
  cases F5:aN ts a [44] with
  |true=>
   have mH:aN ts a [41]=false:=aC F5 rfl;have bf:=bB F5;obtain⟨r,hi,hr⟩:=BJ (en:=en) hs (a:=a+1) (d:=d) (ns:=ns) ⟨by omega,p2,by omega,p4⟩
   cases r with
   |er c p=>
    have hc:c≠0:=hi;refine⟨.er c p,hi,cz.succ (cz.succ (hr.tn.mono fun q k e=>?_))⟩;obtain⟨e1,v,a',eD,d',e2⟩:=e;refine⟨?_,u::(l++[v]),a',eD,d',?_⟩
    ·simp only[go_sem,Zj,a4a,aVa,de,aJ b0,F5,reduceIte,show ak q ts en ((a+1:Nat):Int) (d:Int) ns 1=_ from e1]
    ·rw[bz]
     simp only[go_sem,aa,cg hs (w:=[41]) rfl,mH,bl,aj hs (w:=[44]) rfl b0,F5,reduceIte,show ao q ts ((a+1:Nat):Int) en ns (d:Int) 0 0 1=_ from e2,cB bk]
     rw[bz];simp only[go_sem,aa,Q6.2 hc,a4a]
   |ok v a1 d1 nr=>
    obtain⟨q1,q2,rfl,q3,q4,q5,q6,q7,q8,q9⟩:=hi;obtain⟨r,gi,gr⟩:=ih a1 nr (l++[v]) (by omega) ⟨q2,p2,by omega,q5⟩ ((hk.up q4).add q6 q7 q8) (by simp) (by simp;omega)
    refine⟨r,gi.from (by omega) (by omega) q4 (by simp;omega) (by rw[qI,ph,pW q4 hk.v];omega),cz.succ ((hr.tn.and gr).mono fun q k e=>?_)⟩
    obtain⟨⟨e1,e2⟩,e3,e4⟩:=e;refine⟨?_,?_⟩
    ·simp only[go_sem,de,aJ b0,F5,reduceIte,show ak q ts en ((a+1:Nat):Int) (d1:Int) ns 1=_ from e1,cB bk,a4a]
     exact e3
    ·simp only[go_sem,bz,aa,cg hs (w:=[41]) rfl,mH,bl,aj hs (w:=[44]) rfl b0,F5,reduceIte,show ao q ts ((a+1:Nat):Int) en ns (d1:Int) 0 0 1=_ from e2,cB bk,a4a]
     exact e4
  |false=>
   cases mH:aN ts a [41] with
   |true=>
    refine⟨.ok l a ns,⟨by omega,p1,by omega,aXa _,p4,hk,by omega,by omega⟩,cz.succ (cz.of fun q k=>⟨?_,?_⟩)⟩
    ·simp only[go_sem,Zj,a4a,aVa,de,aJ b0,F5,reduceIte]
    ·simp only[go_sem,qB,mH,reduceIte,OL,a4a,aVa,bz,aa,cg hs (w:=[41]) rfl]
   |false=>
    refine⟨.ok l a ns,⟨by omega,p1,by omega,aXa _,p4,hk,by omega,by omega⟩,cz.succ (cz.succ ((fl1 (ts:=ts) (en:=en) (c:=6) (p:=pl ts en a) (by decide)).tn.mono fun q k e=>⟨?_,?_⟩))⟩
    ·simp only[go_sem,Zj,a4a,aVa,de,aJ b0,F5,reduceIte]
    ·simp only[go_sem,qB,mH,reduceIte]
     refine⟨u::(l++[0]),a,ns,d,?_⟩;rw[bz];simp only[go_sem,aa,cg hs (w:=[41]) rfl,mH,bl,aj hs (w:=[44]) rfl b0,F5,reduceIte,e,cB bk];rw[bz];simp only[go_sem,aa,show((6:Int)==0)=false from rfl,a4a]
end
end Go.Fx.R5
namespace Go.Fx.R5
open Go Go.Fx
section
variable {ts:List zD} {en:Int} {a d:Nat} {ns:List eu}
theorem ag7{k:Int}(h1:9≤k)(h2:k≤22):OM k=true:=by simp[OM,h1,h2]
theorem aai(hs:pu ts)(hp:yi ts a d ns)(hn:uq ts a 1=true):BS (yh ts OM 1 a d ns) (fun k=>cw k ts en (a:Int) (d:Int) ns) (fun k=>eq k ts (a:Int) en ns (d:Int) 0 0):=by
 have h7:=hs.len;obtain⟨p1,p2,p3,p4⟩:=hp;have bf:=jT hn;have vj:pl ts en a=(tk ts a).2.1:=tW bf;have b0:a≤4000000000000000000:=by omega
 have b1:a+1≤4000000000000000000:=by omega
 have b2:a+1+1≤4000000000000000000:=by omega
 have b3:a+1+1+1≤4000000000000000000:=by omega
 have b4:a+1+1+1+1≤4000000000000000000:=by omega
 have bn:ns.length≤4000000:=by omega
 cases qx:aN ts (a+1) [91] with
 |true=>
  have hl0:=bB qx;simp only[go_sem,cw,eq,aa,an,aR,bo,aQ,Q9,reduceIte,bS b0,hn,aJ b1,df b0,vj,ae hs (w:=[91]) rfl b1,ae hs (w:=[43,61]) rfl b1,aj hs (w:=[61]) rfl b1,qx,show aN ts (a+1) [61]=false from aC qx rfl,show aN ts (a+1) [43,61]=false from aC qx rfl]
  refine BS.bind (FW hs (a:=a+1+1) ⟨by omega,p2,by omega,p4⟩) (fun x1 a1 d1 nr g1=>?_) (fun c p hc=>(ff (ts:=ts) (en:=en) (p:=p) hc).mono fun k e v a' eD d'=>⟨rfl,by simp only[go_sem,fM,cX hc,dN hc,lZ hc,fE hc,eo hc,co hc,eS hc,fj hc,jI hc,bo,aa,e.1,e.2,aYa,aPa,apa]⟩)
  obtain⟨q11,q12,rfl,q13,LI,O7,Qe,Qf,Om,q19⟩:=g1;have c1:a1≤4000000000000000000:=by omega
  have Mu:a1+1≤4000000000000000000:=by omega
  have m1:nr.length≤4000000:=by omega
  cases h1:aN ts (a1) [93] with
  |false=>simp only[go_sem,aM c1,aj hs (w:=[93]) rfl c1,h1,aa,an,aR,bo,aQ,Q9,reduceIte];exact BS.er (c:=6) (p:=pl ts en (a1)) (by decide) ((ff (ts:=ts) (en:=en) (c:=6) (p:=pl ts en (a1)) (by decide)).mono fun k e=>⟨rfl,by have hc:(6:Int)≠0:=(by decide);simp only[go_sem,fM,cX hc,dN hc,lZ hc,fE hc,eo hc,co hc,eS hc,fj hc,jI hc,bo,aa,e.1,e.2,aYa,aPa,apa]⟩)
  |true=>
  have Xj:=bB h1;simp only[go_sem,aM c1,aj hs (w:=[93]) rfl c1,h1,aa,an,aR,bo,aQ,Q9,reduceIte];cases h2:aN ts (a1+1) [61] with
  |false=>simp only[go_sem,aM Mu,aj hs (w:=[61]) rfl Mu,h2,aa,an,aR,bo,aQ,Q9,reduceIte];exact BS.er (c:=6) (p:=pl ts en (a1+1)) (by decide) ((ff (ts:=ts) (en:=en) (c:=6) (p:=pl ts en (a1+1)) (by decide)).mono fun k e=>⟨rfl,by have hc:(6:Int)≠0:=(by decide);simp only[go_sem,fM,cX hc,dN hc,lZ hc,fE hc,eo hc,co hc,eS hc,fj hc,jI hc,bo,aa,e.1,e.2,aYa,aPa,apa]⟩)
  |true=>
  have SZ:=bB h2;simp only[go_sem,aM Mu,aj hs (w:=[61]) rfl Mu,h2,aa,an,aR,bo,aQ,Q9,reduceIte];refine BS.bind (FW hs (a:=a1+1+1) ⟨by omega,p2,by omega,O7⟩) (fun x2 a2 d2 qy g2=>?_) (fun c p hc=>(ff (ts:=ts) (en:=en) (p:=p) hc).mono fun k e v a' eD d'=>⟨rfl,by simp only[go_sem,fM,cX hc,dN hc,lZ hc,fE hc,eo hc,co hc,eS hc,fj hc,jI hc,bo,aa,e.1,e.2,aYa,aPa,apa]⟩)
  obtain⟨q21,q22,rfl,q23,NU,q25,q26,q27,q28,q29⟩:=g2;have c2:a2≤4000000000000000000:=by omega
  have c21:a2+1≤4000000000000000000:=by omega
  have m2:qy.length≤4000000:=by omega
  cases h3:aN ts (a2) [59] with
  |false=>simp only[go_sem,aM c2,aj hs (w:=[59]) rfl c2,h3,aa,an,aR,bo,aQ,Q9,reduceIte];exact BS.er (c:=6) (p:=pl ts en (a2)) (by decide) ((ff (ts:=ts) (en:=en) (c:=6) (p:=pl ts en (a2)) (by decide)).mono fun k e=>⟨rfl,by have hc:(6:Int)≠0:=(by decide);simp only[go_sem,fM,cX hc,dN hc,lZ hc,fE hc,eo hc,co hc,eS hc,fj hc,jI hc,bo,aa,e.1,e.2,aYa,aPa,apa]⟩)
  |true=>
  have agu:=bB h3;simp only[go_sem,aM c2,aj hs (w:=[59]) rfl c2,h3,aa,an,aR,bo,aQ,Q9,reduceIte];simp only[go_sem,ip m2,dZ m2];exact BS.ok (kV (by omega) (by omega) (by omega) (LI.trans NU) q25 ⟨by simp;have:=NU.length_le;omega,by simp[cm,Om,q28,qH NU Qe Qf],by simp⟩ rfl (by rw[yC,rX NU Qe Qf];omega))
 |false=>
 cases wC:aN ts (a+1) [43,61] with
 |true=>
  have hl0:=bB wC;simp only[go_sem,cw,eq,aa,an,aR,bo,aQ,Q9,reduceIte,bS b0,hn,aJ b1,df b0,vj,ae hs (w:=[91]) rfl b1,ae hs (w:=[43,61]) rfl b1,aj hs (w:=[61]) rfl b1,qx,wC,show aN ts (a+1) [61]=false from aC wC rfl]
  refine BS.bind (FW hs (a:=a+1+1) ⟨by omega,p2,by omega,p4⟩) (fun x1 a1 d1 nr g1=>?_) (fun c p hc=>(ff (ts:=ts) (en:=en) (p:=p) hc).mono fun k e v a' eD d'=>⟨rfl,by simp only[go_sem,fM,cX hc,dN hc,lZ hc,fE hc,eo hc,co hc,eS hc,fj hc,jI hc,bo,aa,e.1,e.2,aYa,aPa,apa]⟩)
  obtain⟨q11,q12,rfl,q13,LI,O7,Qe,Qf,Om,q19⟩:=g1;have c1:a1≤4000000000000000000:=by omega
  have Mu:a1+1≤4000000000000000000:=by omega
  have m1:nr.length≤4000000:=by omega
  cases h1:aN ts (a1) [59] with
  |false=>simp only[go_sem,aM c1,aj hs (w:=[59]) rfl c1,h1,aa,an,aR,bo,aQ,Q9,reduceIte];exact BS.er (c:=6) (p:=pl ts en (a1)) (by decide) ((ff (ts:=ts) (en:=en) (c:=6) (p:=pl ts en (a1)) (by decide)).mono fun k e=>⟨rfl,by have hc:(6:Int)≠0:=(by decide);simp only[go_sem,fM,cX hc,dN hc,lZ hc,fE hc,eo hc,co hc,eS hc,fj hc,jI hc,bo,aa,e.1,e.2,aYa,aPa,apa]⟩)
  |true=>
  have Xj:=bB h1;simp only[go_sem,aM c1,aj hs (w:=[59]) rfl c1,h1,aa,an,aR,bo,aQ,Q9,reduceIte];simp only[go_sem,ip m1,dZ m1];exact BS.ok (kV (by omega) (by omega) (by omega) LI O7 ⟨by simp;omega,by simpa[cm] using Om,by simp⟩ rfl (by rw[ph];exact q19))
 |false=>
 cases PH:aN ts (a+1) [61] with
 |false=>simp only[go_sem,cw,eq,aa,an,aR,bo,aQ,Q9,reduceIte,bS b0,hn,aJ b1,df b0,vj,ae hs (w:=[91]) rfl b1,ae hs (w:=[43,61]) rfl b1,aj hs (w:=[61]) rfl b1,qx,wC,PH,py];exact BS.er (c:=6) (p:=pl ts en (a+1)) (by decide) ((ff (ts:=ts) (en:=en) (c:=6) (p:=pl ts en (a+1)) (by decide)).mono fun k e=>⟨rfl,by have hc:(6:Int)≠0:=(by decide);simp only[go_sem,fM,cX hc,dN hc,lZ hc,fE hc,eo hc,co hc,eS hc,fj hc,jI hc,bo,aa,e.1,e.2,aYa,aPa,apa,Q6.2 hc]⟩)
 |true=>
 have hl0:=bB PH;cases ham:aN ts (a+1+1) [38] with
 |true=>
  have hl1:=bB ham;cases hu:uq ts (a+1+1+1) 1 with
  |false=>simp only[go_sem,cw,ez,eq,aa,an,aR,bo,aQ,Q9,reduceIte,bS b0,hn,aJ b1,aJ b2,df b0,vj,ae hs (w:=[91]) rfl b1,ae hs (w:=[43,61]) rfl b1,aj hs (w:=[61]) rfl b1,ae hs (w:=[38]) rfl b2,qx,wC,PH,ham,gh b3 bn,hu,oi,df b3];exact BS.er (c:=6) (p:=pl ts en (a+1+1+1)) (by decide) ((ff (ts:=ts) (en:=en) (c:=6) (p:=pl ts en (a+1+1+1)) (by decide)).mono fun k e=>⟨rfl,by have hc:(6:Int)≠0:=(by decide);simp only[go_sem,fM,cX hc,dN hc,lZ hc,fE hc,eo hc,co hc,eS hc,fj hc,jI hc,bo,aa,e.1,e.2,aYa,aPa,apa]⟩)
  |true=>
  have PJ:=jT hu;simp only[go_sem,cw,ez,eq,aa,an,aR,bo,aQ,Q9,reduceIte,bS b0,hn,aJ b1,aJ b2,df b0,vj,ae hs (w:=[91]) rfl b1,ae hs (w:=[43,61]) rfl b1,aj hs (w:=[61]) rfl b1,ae hs (w:=[38]) rfl b2,qx,wC,PH,ham,gh b3 bn,hu,KJ b3 bn hu,tW PJ];cases h1:aN ts (a+1+1+1+1) [91] with
  |false=>simp only[go_sem,aM b4,aj hs (w:=[91]) rfl b4,h1,aa,an,aR,bo,aQ,Q9,reduceIte];exact BS.er (c:=6) (p:=pl ts en (a+1+1+1+1)) (by decide) ((ff (ts:=ts) (en:=en) (c:=6) (p:=pl ts en (a+1+1+1+1)) (by decide)).mono fun k e=>⟨rfl,by have hc:(6:Int)≠0:=(by decide);simp only[go_sem,fM,cX hc,dN hc,lZ hc,fE hc,eo hc,co hc,eS hc,fj hc,jI hc,bo,aa,e.1,e.2,aYa,aPa,apa]⟩)
  |true=>
  have Xj:=bB h1;simp only[go_sem,aM b4,aj hs (w:=[91]) rfl b4,h1,aa,an,aR,bo,aQ,Q9,reduceIte];have hx:jC (ns++[(23,(tk ts (a+1+1+1)).2.1,0,(tk ts (a+1+1+1)).2.2.1,[])]):=p4.add (tg rfl (by decide))
  refine BS.bind (FW hs (a:=a+1+1+1+1+1) ⟨by omega,p2,by simp;omega,hx⟩) (fun x1 a1 d1 nr g1=>?_) (fun c p hc=>(ff (ts:=ts) (en:=en) (p:=p) hc).mono fun k e v a' eD d'=>⟨rfl,by simp only[go_sem,fM,cX hc,dN hc,lZ hc,fE hc,eo hc,co hc,eS hc,fj hc,jI hc,bo,aa,e.1,e.2,aYa,aPa,apa]⟩)
  obtain⟨q11,q12,rfl,q13,LI,O7,Qe,Qf,Om,q19⟩:=g1;simp only[aua,aAa,aza] at q13 q19;have c1:a1≤4000000000000000000:=by omega
  have Mu:a1+1≤4000000000000000000:=by omega
  have m1:nr.length≤4000000:=by omega
  cases h2:aN ts (a1) [93] with
  |false=>simp only[go_sem,aM c1,aj hs (w:=[93]) rfl c1,h2,aa,an,aR,bo,aQ,Q9,reduceIte];exact BS.er (c:=6) (p:=pl ts en (a1)) (by decide) ((ff (ts:=ts) (en:=en) (c:=6) (p:=pl ts en (a1)) (by decide)).mono fun k e=>⟨rfl,by have hc:(6:Int)≠0:=(by decide);simp only[go_sem,fM,cX hc,dN hc,lZ hc,fE hc,eo hc,co hc,eS hc,fj hc,jI hc,bo,aa,e.1,e.2,aYa,aPa,apa]⟩)
  |true=>
  have SZ:=bB h2;simp only[go_sem,aM c1,aj hs (w:=[93]) rfl c1,h2,aa,an,aR,bo,aQ,Q9,reduceIte];cases h3:aN ts (a1+1) [59] with
  |false=>simp only[go_sem,aM Mu,aj hs (w:=[59]) rfl Mu,h3,aa,an,aR,bo,aQ,Q9,reduceIte];exact BS.er (c:=6) (p:=pl ts en (a1+1)) (by decide) ((ff (ts:=ts) (en:=en) (c:=6) (p:=pl ts en (a1+1)) (by decide)).mono fun k e=>⟨rfl,by have hc:(6:Int)≠0:=(by decide);simp only[go_sem,fM,cX hc,dN hc,lZ hc,fE hc,eo hc,co hc,eS hc,fj hc,jI hc,bo,aa,e.1,e.2,aYa,aPa,apa]⟩)
  |true=>
  have agu:=bB h3;simp only[go_sem,aM Mu,aj hs (w:=[59]) rfl Mu,h3,aa,an,aR,bo,aQ,Q9,reduceIte];simp only[go_sem,ip m1,dZ m1];have jB:=LI.length_le;simp only[aua,aAa,aza] at jB;exact BS.ok (kV (by omega) (by omega) (by omega) ((aMa _ _).trans LI) O7 ⟨by simp;omega,by simp[cm,Om,qH LI (show(0:Int)≤(ns.length:Int) by omega) (by simp;omega),ru],by simp⟩ rfl (by rw[yC,rX LI (show(0:Int)≤(ns.length:Int) by omega) (by simp;omega),om,zO];omega))
 |false=>
 cases mH:(uq ts (a+1+1) 1&&aN ts (a+1+1+1) [40]) with
 |true=>
  obtain⟨hu,mL⟩:=Bool.and_eq_true_iff.1 mH;have hl1:=bB mL;have hx:jC (ns++[(23,(tk ts (a+1+1)).2.1,0,(tk ts (a+1+1)).2.2.1,[])]):=p4.add (tg rfl (by decide))
  have b5:a+1+1+1+1+1≤4000000000000000000:=by omega
  have nu:(ns++[(23,(tk ts (a+1+1)).2.1,0,(tk ts (a+1+1)).2.2.1,[])]).length≤4000000:=by simp;omega
  have ku:kd (ns++[(23,(tk ts (a+1+1)).2.1,0,(tk ts (a+1+1)).2.2.1,[])]) (ns.length:Int)=23:=ru;cases h1:aN ts (a+1+1+1+1) [41] with
  |true=>
   have PJ:=bB h1;have hL:Ev fun k=>bz k k ts en ((a+1+1+1+1:Nat):Int) (ns++[(23,(tk ts (a+1+1)).2.1,0,(tk ts (a+1+1)).2.2.1,[])]) (d:Int) 0 0 [(ns.length:Int)]=some (((a+1+1+1+1:Nat):Int),(ns++[(23,(tk ts (a+1+1)).2.1,0,(tk ts (a+1+1)).2.2.1,[])]),(d:Int),0,0,[(ns.length:Int)],()):=
    cz.j9 (p2:=fun q k=>bz q k ts en ((a+1+1+1+1:Nat):Int) (ns++[(23,(tk ts (a+1+1)).2.1,0,(tk ts (a+1+1)).2.2.1,[])]) (d:Int) 0 0 [(ns.length:Int)]=_) (cz.succ (cz.of fun q k=>by
     simp only[go_sem,bz,aa,cg hs (w:=[41]) rfl,h1]))
   cases h2:aN ts (a+1+1+1+1+1) [59] with
   |true=>
    have hl3:=bB h2;refine⟨.ok _ (a+1+1+1+1+1+1) d ((ns++[(23,(tk ts (a+1+1)).2.1,0,(tk ts (a+1+1)).2.2.1,[])])++[(22,(tk ts a).2.1,0,(tk ts a).2.2.1,[(ns.length:Int)])]),kV (by omega) (by omega) (by simp;omega) (aMa _ _) hx ⟨by simp;omega,by simp[cm,ru],by simp⟩ rfl (by rw[ph,om,zO];simp;omega),hL.mono fun k e=>⟨?_,?_⟩⟩
    ·simp only[go_sem,uM,cw,ez,aa,an,aR,reduceIte,bS b0,hn,aJ b1,aJ b2,qx,wC,PH,ham,hu,mL,zL b2,gh b2 bn,aM b3,aJ b4,h1,aM b5,h2,ip nu]
    ·simp only[go_sem,L1,eq,aa,bo,aQ,reduceIte,df b0,hn,vj,ae hs (w:=[91]) rfl b1,ae hs (w:=[43,61]) rfl b1,aj hs (w:=[61]) rfl b1,ae hs (w:=[38]) rfl b2,qx,wC,PH,ham,hu,mL,EE hs (w:=[40]) rfl b2,KJ b2 bn hu,tW (jT hu),aj hs (w:=[40]) rfl b3,e,aj hs (w:=[41]) rfl b4,aj hs (w:=[59]) rfl b5,h1,h2,dZ nu]
   |false=>
    refine⟨.er 6 (pl ts en (a+1+1+1+1+1)),show(6:Int)≠0 by decide,hL.mono fun k e=>⟨?_,0,a+1+1+1+1+1,(ns++[(23,(tk ts (a+1+1)).2.1,0,(tk ts (a+1+1)).2.2.1,[])]),d,?_⟩⟩
    ·simp only[go_sem,uM,cw,ez,aa,an,aR,reduceIte,bS b0,hn,aJ b1,aJ b2,qx,wC,PH,ham,hu,mL,zL b2,gh b2 bn,aM b3,aJ b4,h1,aM b5,h2]
    ·simp only[go_sem,L1,eq,aa,bo,aQ,reduceIte,df b0,hn,vj,ae hs (w:=[91]) rfl b1,ae hs (w:=[43,61]) rfl b1,aj hs (w:=[61]) rfl b1,ae hs (w:=[38]) rfl b2,qx,wC,PH,ham,hu,mL,EE hs (w:=[40]) rfl b2,KJ b2 bn hu,tW (jT hu),aj hs (w:=[40]) rfl b3,e,aj hs (w:=[41]) rfl b4,aj hs (w:=[59]) rfl b5,h1,h2,co (show(6:Int)≠0 by decide)]
  |false=>
  obtain⟨r,hi,hr⟩:=BJ (en:=en) hs (a:=a+1+1+1+1) (d:=d) (ns:=(ns++[(23,(tk ts (a+1+1)).2.1,0,(tk ts (a+1+1)).2.2.1,[])])) ⟨by omega,p2,by simp;omega,hx⟩
  cases r with
  |er c p=>
   have hc:c≠0:=hi;have hL:Ev fun k=>∃(a':Nat) (eD:List eu) (d':Int) (v:Int),bz k k ts en ((a+1+1+1+1:Nat):Int) (ns++[(23,(tk ts (a+1+1)).2.1,0,(tk ts (a+1+1)).2.2.1,[])]) (d:Int) 0 0 [(ns.length:Int)]=some ((a':Int),eD,d',c,p,[(ns.length:Int),v],()):=
    cz.j9 (p2:=fun q k=>∃(a':Nat) (eD:List eu) (d':Int) (v:Int),bz q k ts en ((a+1+1+1+1:Nat):Int) (ns++[(23,(tk ts (a+1+1)).2.1,0,(tk ts (a+1+1)).2.2.1,[])]) (d:Int) 0 0 [(ns.length:Int)]=some ((a':Int),eD,d',c,p,[(ns.length:Int),v],())) (cz.succ (cz.succ (hr.tn.mono fun q k e=>by
     obtain⟨_,v,a',eD,d',e2⟩:=e;refine⟨a',eD,d',v,?_⟩;rw[bz];simp only[go_sem,aa,cg hs (w:=[41]) rfl,h1,aAa,aza,show((((0+1:Nat):Int)) > 1)=False from by simp,show ao q ts ((a+1+1+1+1:Nat):Int) en (ns++[(23,(tk ts (a+1+1)).2.1,0,(tk ts (a+1+1)).2.2.1,[])]) (d:Int) 0 0 1=_ from e2,cB (l:=[(ns.length:Int)]) (v:=v) (by simp),a4a,aVa]
     rw[bz];simp only[go_sem,aa,Q6.2 hc])))
   refine⟨.er c p,hi,(hr.and hL).mono fun k e=>?_⟩;obtain⟨⟨e1,_⟩,a',eD,d',v,e2⟩:=e;refine⟨?_,0,a',eD,d',?_⟩
   ·simp only[go_sem,uM,cw,ez,aa,an,aR,reduceIte,bS b0,hn,aJ b1,aJ b2,qx,wC,PH,ham,hu,mL,zL b2,gh b2 bn,aM b3,aJ b4,h1,show ak k ts en ((a+1+1+1+1:Nat):Int) (d:Int) (ns++[(23,(tk ts (a+1+1)).2.1,0,(tk ts (a+1+1)).2.2.1,[])]) 1=_ from e1]
   ·simp only[go_sem,eq,aa,bo,aQ,reduceIte,df b0,hn,vj,ae hs (w:=[91]) rfl b1,ae hs (w:=[43,61]) rfl b1,aj hs (w:=[61]) rfl b1,ae hs (w:=[38]) rfl b2,qx,wC,PH,ham,hu,mL,EE hs (w:=[40]) rfl b2,KJ b2 bn hu,tW (jT hu),aj hs (w:=[40]) rfl b3,e2,cX hc,co hc]
  |ok v a1 d1 nr=>
   obtain⟨q1,q2,rfl,q3,q4,q5,q6,q7,q8,q9⟩:=hi;simp only[aua,aAa,aza] at q3 q9;have jB:=q4.length_le;simp only[aua,aAa,aza] at jB;have ku1:kd nr (ns.length:Int)=23:=by rw[qH q4 (by omega) (by simp;omega),ru]
   obtain⟨r,gi,gr⟩:=WX (en:=en) hs (u:=(ns.length:Int)) p2 _ a1 nr [v] (axa _) ⟨q2,p2,by omega,q5⟩ ⟨by simp<;>omega,by simpa using q8⟩ (by simp) (by simp<;>omega)
   have hL:Ev fun k=>OL [(ns.length:Int)] (qB ts en [41] r) d1 (bz k k ts en ((a+1+1+1+1:Nat):Int) (ns++[(23,(tk ts (a+1+1)).2.1,0,(tk ts (a+1+1)).2.2.1,[])]) (d1:Int) 0 0 [(ns.length:Int)]):=
    cz.j9 (p2:=fun q k=>OL [(ns.length:Int)] (qB ts en [41] r) d1 (bz q k ts en ((a+1+1+1+1:Nat):Int) (ns++[(23,(tk ts (a+1+1)).2.1,0,(tk ts (a+1+1)).2.2.1,[])]) (d1:Int) 0 0 [(ns.length:Int)])) (cz.succ ((hr.tn.and gr).mono fun q k e=>by
     obtain⟨⟨_,e2⟩,_,e4⟩:=e;simp only[go_sem,bz,aa,cg hs (w:=[41]) rfl,h1,aAa,aza,show((((0+1:Nat):Int)) > 1)=False from by simp,show ao q ts ((a+1+1+1+1:Nat):Int) en (ns++[(23,(tk ts (a+1+1)).2.1,0,(tk ts (a+1+1)).2.2.1,[])]) (d1:Int) 0 0 1=_ from e2,cB (l:=[(ns.length:Int)]) (v:=v) (by simp),a4a,aVa]
     exact e4))
   have hE:=(hr.and gr.j9).and hL;cases r with
   |er c p=>
    have hc:c≠0:=gi;refine⟨.er c p,gi,hE.mono fun k e=>?_⟩;obtain⟨⟨⟨e1,_⟩,e3,_⟩,l,a',eD,d',e4⟩:=e;refine⟨?_,0,a',eD,d',?_⟩
    ·simp only[go_sem,uM,cw,ez,aa,an,aR,reduceIte,bS b0,hn,aJ b1,aJ b2,qx,wC,PH,ham,hu,mL,zL b2,gh b2 bn,aM b3,aJ b4,h1,show ak k ts en ((a+1+1+1+1:Nat):Int) (d1:Int) (ns++[(23,(tk ts (a+1+1)).2.1,0,(tk ts (a+1+1)).2.2.1,[])]) 1=_ from e1,cB (l:=[(ns.length:Int)]) (v:=v) (by simp),a4a,aVa]
     simp only[go_sem,show de k k ts en _ (a1:Int) (d1:Int) nr=_ from e3]
    ·simp only[go_sem,eq,aa,bo,aQ,reduceIte,df b0,hn,vj,ae hs (w:=[91]) rfl b1,ae hs (w:=[43,61]) rfl b1,aj hs (w:=[61]) rfl b1,ae hs (w:=[38]) rfl b2,qx,wC,PH,ham,hu,mL,EE hs (w:=[40]) rfl b2,KJ b2 bn hu,tW (jT hu),aj hs (w:=[40]) rfl b3,e4,cX hc,co hc]
   |ok l a2 qy=>
    obtain⟨g1,g2,g3,g4,g5,g6,g7,g8⟩:=gi;rw[ph] at g8;have wu2:wt qy (ns.length:Int)=1:=by rw[rX (q4.trans g4) (by omega) (by simp;omega),om];rfl
    have c2:a2≤4000000000000000000:=by omega
    have c21:a2+1≤4000000000000000000:=by omega
    have m2:qy.length≤4000000:=by omega
    have ku2:kd qy (ns.length:Int)=23:=by rw[qH g4 (by omega) (by omega),ku1]
    have aha:=g4.length_le;cases h3:aN ts a2 [41] with
    |false=>
     refine⟨.er 6 (pl ts en a2),show(6:Int)≠0 by decide,hE.mono fun k e=>?_⟩
     obtain⟨⟨⟨e1,_⟩,e3,_⟩,e4⟩:=e;simp only[go_sem,qB,h3,reduceIte] at e4;obtain⟨l',a',eD,d',e4⟩:=e4;refine⟨?_,0,a',eD,d',?_⟩
     ·simp only[go_sem,uM,cw,ez,aa,an,aR,reduceIte,bS b0,hn,aJ b1,aJ b2,qx,wC,PH,ham,hu,mL,zL b2,gh b2 bn,aM b3,aJ b4,h1,show ak k ts en ((a+1+1+1+1:Nat):Int) (d1:Int) (ns++[(23,(tk ts (a+1+1)).2.1,0,(tk ts (a+1+1)).2.2.1,[])]) 1=_ from e1,cB (l:=[(ns.length:Int)]) (v:=v) (by simp),a4a,aVa]
      simp only[go_sem,show de k k ts en _ (a1:Int) (d1:Int) nr=_ from e3,aM c2,h3,reduceIte]
     ·simp only[go_sem,eq,aa,bo,aQ,reduceIte,df b0,hn,vj,ae hs (w:=[91]) rfl b1,ae hs (w:=[43,61]) rfl b1,aj hs (w:=[61]) rfl b1,ae hs (w:=[38]) rfl b2,qx,wC,PH,ham,hu,mL,EE hs (w:=[40]) rfl b2,KJ b2 bn hu,tW (jT hu),aj hs (w:=[40]) rfl b3,e4,cX (show(6:Int)≠0 by decide),co (show(6:Int)≠0 by decide)]
    |true=>
    have hl3:=bB h3;cases h4:aN ts (a2+1) [59] with
    |false=>
     refine⟨.er 6 (pl ts en (a2+1)),show(6:Int)≠0 by decide,hE.mono fun k e=>?_⟩
     obtain⟨⟨⟨e1,_⟩,e3,_⟩,e4⟩:=e;simp only[qB,h3,reduceIte] at e4;refine⟨?_,0,a2+1,qy,d1,?_⟩
     ·simp only[go_sem,uM,cw,ez,aa,an,aR,reduceIte,bS b0,hn,aJ b1,aJ b2,qx,wC,PH,ham,hu,mL,zL b2,gh b2 bn,aM b3,aJ b4,h1,show ak k ts en ((a+1+1+1+1:Nat):Int) (d1:Int) (ns++[(23,(tk ts (a+1+1)).2.1,0,(tk ts (a+1+1)).2.2.1,[])]) 1=_ from e1,cB (l:=[(ns.length:Int)]) (v:=v) (by simp),a4a,aVa]
      simp only[go_sem,show de k k ts en _ (a1:Int) (d1:Int) nr=_ from e3,aM c2,aM c21,h3,h4,reduceIte]
     ·simp only[go_sem,eq,aa,bo,aQ,reduceIte,df b0,hn,vj,ae hs (w:=[91]) rfl b1,ae hs (w:=[43,61]) rfl b1,aj hs (w:=[61]) rfl b1,ae hs (w:=[38]) rfl b2,qx,wC,PH,ham,hu,mL,EE hs (w:=[40]) rfl b2,KJ b2 bn hu,tW (jT hu),aj hs (w:=[40]) rfl b3,show bz k k ts en ((a+1+1+1+1:Nat):Int) (ns++[(23,(tk ts (a+1+1)).2.1,0,(tk ts (a+1+1)).2.2.1,[])]) (d1:Int) 0 0 [(ns.length:Int)]=_ from e4,aj hs (w:=[41]) rfl c2,aj hs (w:=[59]) rfl c21,h3,h4,co (show(6:Int)≠0 by decide)]
    |true=>
     have hl4:=bB h4;refine⟨.ok _ (a2+1+1) d1 (qy++[(22,(tk ts a).2.1,0,(tk ts a).2.2.1,[(ns.length:Int)]++l)]),kV (by omega) (by omega) (by omega) ((aMa _ _).trans (q4.trans g4)) g5 ⟨?_,?_,by simp,by simp at g7 ⊢;omega⟩ rfl (by rw[qI,ph,wu2];omega),hE.mono fun k e=>?_⟩
     ·intro j hj
      rcases ana.1 hj with hj|hj
      ·rw[Q7.1 hj];omega
      ·exact g6.v j hj
     ·have:l.all (fun j=>Bk (kd qy j))=true:=aqa.2 g6.c
      simp[cm,ku2];simpa using this
     ·obtain⟨⟨⟨e1,_⟩,e3,_⟩,e4⟩:=e
      simp only[qB,h3,reduceIte] at e4;refine⟨?_,?_⟩
      ·simp only[go_sem,uM,cw,ez,aa,an,aR,reduceIte,bS b0,hn,aJ b1,aJ b2,qx,wC,PH,ham,hu,mL,zL b2,gh b2 bn,aM b3,aJ b4,h1,show ak k ts en ((a+1+1+1+1:Nat):Int) (d1:Int) (ns++[(23,(tk ts (a+1+1)).2.1,0,(tk ts (a+1+1)).2.2.1,[])]) 1=_ from e1,cB (l:=[(ns.length:Int)]) (v:=v) (by simp),a4a,aVa]
       simp only[go_sem,show de k k ts en _ (a1:Int) (d1:Int) nr=_ from e3,aM c2,aM c21,h3,h4,reduceIte,ip m2,a4a,aVa]
      ·simp only[go_sem,L1,eq,aa,bo,aQ,reduceIte,df b0,hn,vj,ae hs (w:=[91]) rfl b1,ae hs (w:=[43,61]) rfl b1,aj hs (w:=[61]) rfl b1,ae hs (w:=[38]) rfl b2,qx,wC,PH,ham,hu,mL,EE hs (w:=[40]) rfl b2,KJ b2 bn hu,tW (jT hu),aj hs (w:=[40]) rfl b3,show bz k k ts en ((a+1+1+1+1:Nat):Int) (ns++[(23,(tk ts (a+1+1)).2.1,0,(tk ts (a+1+1)).2.2.1,[])]) (d1:Int) 0 0 [(ns.length:Int)]=_ from e4,aj hs (w:=[41]) rfl c2,aj hs (w:=[59]) rfl c21,h3,h4,dZ m2]
 |false=>
 cases hnu:aN ts (a+1+1) [110,117,108,108] with
 |true=>
  have hl1:=bB hnu;have hk0:uq ts (a+1+1) 1=false:=T0 hs rfl (.inl rfl) hnu;simp only[go_sem,cw,ez,eq,aa,an,aR,bo,aQ,Q9,reduceIte,bS b0,hn,aJ b1,aJ b2,df b0,vj,ae hs (w:=[91]) rfl b1,ae hs (w:=[43,61]) rfl b1,aj hs (w:=[61]) rfl b1,ae hs (w:=[38]) rfl b2,qx,wC,PH,ham,hk0,tx b2,cg hs (w:=[110,117,108,108]) rfl,hnu,ip bn,dZ bn,ag (show a+1+1<_ by omega)]
  have hx:jC (ns++[(29,pl ts en (a+1+1),0,[],[])]):=p4.add (tg rfl (by decide))
  have nu:(ns++[(29,pl ts en (a+1+1),0,[],[])]:List eu).length≤4000000:=by simp;omega
  cases h1:aN ts (a+1+1+1) [59] with
  |false=>simp only[go_sem,aM b3,aj hs (w:=[59]) rfl b3,h1,aa,an,aR,bo,aQ,Q9,reduceIte];exact BS.er (c:=6) (p:=pl ts en (a+1+1+1)) (by decide) ((ff (ts:=ts) (en:=en) (c:=6) (p:=pl ts en (a+1+1+1)) (by decide)).mono fun k e=>⟨rfl,by have hc:(6:Int)≠0:=(by decide);simp only[go_sem,fM,cX hc,dN hc,lZ hc,fE hc,eo hc,co hc,eS hc,fj hc,jI hc,bo,aa,e.1,e.2,aYa,aPa,apa]⟩)
  |true=>
  have Xj:=bB h1;simp only[go_sem,aM b3,aj hs (w:=[59]) rfl b3,h1,aa,an,aR,bo,aQ,Q9,reduceIte];simp only[go_sem,ip nu,dZ nu];exact BS.ok (kV (by omega) (by omega) (by simp;omega) (aMa _ _) hx ⟨by simp;omega,by simp[cm,ru],by simp⟩ rfl (by rw[ph,om,zO];simp;omega))
 |false=>
 have agE:(bif uq ts (a+1+1) 1 then aN ts (a+1+1+1) [40] else false)=false:=by rw[←mH];cases uq ts (a+1+1) 1<;>rfl
 have pick:∀{α:Type} (f g:α),(bif uq ts (a+1+1) 1 then(bif aN ts (a+1+1+1) [40] then f else g) else g)=g:=fun f g=>by revert agE;cases uq ts (a+1+1) 1<;>cases aN ts (a+1+1+1) [40]<;>simp
 simp only[go_sem,cw,ez,eq,aa,an,aR,bo,aQ,Q9,reduceIte,bS b0,hn,aJ b1,aJ b2,df b0,vj,ae hs (w:=[91]) rfl b1,ae hs (w:=[43,61]) rfl b1,aj hs (w:=[61]) rfl b1,ae hs (w:=[38]) rfl b2,qx,wC,PH,ham,zL b2,EE hs (w:=[40]) rfl b2,pick,tx b2,cg hs (w:=[110,117,108,108]) rfl,hnu];refine BS.bind (FW hs (a:=a+1+1) ⟨by omega,p2,by omega,p4⟩) (fun x1 a1 d1 nr g1=>?_) (fun c p hc=>(ff (ts:=ts) (en:=en) (p:=p) hc).mono fun k e v a' eD d'=>⟨rfl,by simp only[go_sem,fM,cX hc,dN hc,lZ hc,fE hc,eo hc,co hc,eS hc,fj hc,jI hc,bo,aa,e.1,e.2,aYa,aPa,apa]⟩)
 obtain⟨q11,q12,rfl,q13,LI,O7,Qe,Qf,Om,q19⟩:=g1;have c1:a1≤4000000000000000000:=by omega
 have Mu:a1+1≤4000000000000000000:=by omega
 have m1:nr.length≤4000000:=by omega
 cases h1:aN ts (a1) [59] with
 |false=>simp only[go_sem,aM c1,aj hs (w:=[59]) rfl c1,h1,aa,an,aR,bo,aQ,Q9,reduceIte];exact BS.er (c:=6) (p:=pl ts en (a1)) (by decide) ((ff (ts:=ts) (en:=en) (c:=6) (p:=pl ts en (a1)) (by decide)).mono fun k e=>⟨rfl,by have hc:(6:Int)≠0:=(by decide);simp only[go_sem,fM,cX hc,dN hc,lZ hc,fE hc,eo hc,co hc,eS hc,fj hc,jI hc,bo,aa,e.1,e.2,aYa,aPa,apa]⟩)
 |true=>
 have Xj:=bB h1;simp only[go_sem,aM c1,aj hs (w:=[59]) rfl c1,h1,aa,an,aR,bo,aQ,Q9,reduceIte];simp only[go_sem,ip m1,dZ m1];exact BS.ok (kV (by omega) (by omega) (by omega) LI O7 ⟨by simp;omega,by simp[cm,Om],by simp⟩ rfl (by rw[ph];exact q19))
end
end Go.Fx.R5
namespace Go.Fx.R5
open Go Go.Fx
section
theorem BS.up{P:Int→Nat→Nat→List eu→Prop}{i:Nat→IT}{s:Nat→ST}(h:BS P i s):BS P (fun k=>i (k+1)) s:=by obtain⟨r,hi,hr⟩:=h;have h1:Ev fun k=>uM r (i k):=hr.mono fun _ e=>e.1;have h2:Ev fun k=>L1 r (s k):=hr.mono fun _ e=>e.2;exact⟨r,hi,h1.abt.and h2⟩
theorem BS.upS{P:Int→Nat→Nat→List eu→Prop}{i:Nat→IT}{s:Nat→ST}(h:BS P i s):BS P i (fun k=>s (k+1)):=by obtain⟨r,hi,hr⟩:=h;have h1:Ev fun k=>uM r (i k):=hr.mono fun _ e=>e.1;have h2:Ev fun k=>L1 r (s k):=hr.mono fun _ e=>e.2;exact⟨r,hi,h1.and h2.abt⟩
theorem ol(k:Nat):eJ (k+1)=bU (eJ k) (ml k) (jh k) k:=rfl
theorem I8(k:Nat):ml (k+1)=ko (eJ k) (ml k) (jh k) k:=rfl
theorem EG(k:Nat):jh (k+1)=jR (eJ k) (ml k) (jh k) k:=rfl
theorem IE(k:Nat):dq (k+1)=fT (dq k) (dh k) (iq k) (gI k) k:=rfl
theorem nY(k:Nat):dh (k+1)=bx (dq k) (dh k) (iq k) (gI k) k:=rfl
theorem Iz(k:Nat):iq (k+1)=iU (dq k) (dh k) (iq k) (gI k) k:=rfl
theorem S5(k:Nat):gI (k+1)=kf (dq k) (dh k) (iq k) (gI k) k:=rfl
variable {ts:List zD} {en:Int} {c p:Int} {a d:Nat} {ns:List eu}
theorem aaV(hc:c≠0):Ev fun k=>∀(a:Nat) (ns:List eu) (d:Int),jh k ts (a:Int) en ns d c p=some (0,(a:Int),ns,bC (d+1),c,p,()):=
 Ev.succ (Ev.of fun k a ns d=>by rw[EG];simp only[go_sem,jR,bo,cX hc,eS hc])
theorem fb(hc:c≠0):Ev fun k=>(∀(a:Nat) (ns:List eu) (d:Int),ao k ts (a:Int) en ns d c p 1=some (0,(a:Int),ns,d,c,p,()))∧
  (∀(a:Nat) (ns:List eu) (d:Int),ee k ts (a:Int) en ns d c p=some (0,(a:Int),ns,d,c,p,()))∧(∀(a:Nat) (ns:List eu) (d:Int),jh k ts (a:Int) en ns d c p=some (0,(a:Int),ns,bC (d+1),c,p,())):=
 (fl1 hc).and ((YI hc).and (aaV hc))
abbrev StB(ts:List zD)(en:Int)(a d:Nat)(ns:List eu):Prop:=BS (yh ts OM 1 a d ns) (fun k=>dh k ts en (a:Int) (d:Int) ns) (fun k=>eJ k ts (a:Int) en ns (d:Int) 0 0)
abbrev BlB(ts:List zD)(en:Int)(a d:Nat)(ns:List eu):Prop:=BS (yh ts (·==8) 1 a d ns) (fun k=>iq k ts en (a:Int) (d:Int) ns) (fun k=>jh k ts (a:Int) en ns (d:Int) 0 0)
def Zk(r:Ot)(d:Int)(o:Option ((Int×Int×List eu×XI×Unit)⊕(Int×Int×Unit))):Prop:=match r with
 |.ok l a ns=>o=some (.inl (((a+1:Nat):Int),d,ns,l,()))
 |.er c p=>o=some (.inr (c,p,()))
theorem Ju(x y:Int):bE [x] [y]=some [x,y]:=by simp[bE]
theorem Jv(x y z:Int):bE [x,y] [z]=some [x,y,z]:=by simp[bE]
theorem N5(hs:pu ts)(hd:d≤10){a0:Nat}(IH:∀ a' eD,a0≤a'→yi ts a' d eD→StB ts en a' d eD):∀ m a (ns:List eu) (l:XI),ts.length - a≤m→a0≤a→yi ts a d ns→jc OM ns l→l.length≤a→
  ∃ r,Oq ts OM a ns l.length (jQ ns l) r∧(∀ l' a' eD,r=.ok l' a' eD→aN ts a' [125]=true)∧cz fun q k=>
   Zk r d (bW (dq q) (dh q) (iq q) (gI q) q k ts en (a:Int) (d:Int) ns l)∧
   OL [] r d (eB (eJ q) (ml q) (jh q) q k ts en (a:Int) ns (d:Int) 0 0 l):=by
 have h7:=hs.len;intro m;induction m with
 |zero=>
  intro a ns l hm h0 hp hk hl;have b0:a≤4000000000000000000:=by have:=hp.hi;omega
  have bk:l.length≤4000000:=by have:=hp.hi;omega
  have mH:aN ts a [125]=false:=by
   cases h:aN ts a [125] with
   |false=>rfl
   |true=>have:=bB h;omega
  obtain⟨r,hi,hr⟩:=IH a ns h0 hp;cases r with
  |er c p=>
   have hc:c≠0:=hi;refine⟨.er c p,hi,(fun _ _ _ h=>by cases h),cz.succ (cz.succ (hr.tn.mono fun q k e=>?_))⟩
   obtain⟨e1,v,a',eD,d',e2⟩:=e;refine⟨?_,l++[v],a',eD,d',?_⟩
   ·simp only[go_sem,Zk,bW,aJ b0,mH,reduceIte,show dh q ts en (a:Int) (d:Int) ns=_ from e1]
   ·rw[eB]
    simp only[go_sem,aa,cg hs (w:=[125]) rfl,mH,show eJ q ts (a:Int) en ns (d:Int) 0 0=_ from e2,cB bk]
    rw[eB];simp only[go_sem,aa,Q6.2 hc]
  |ok v a1 d1 nr=>have:=hi.lo;have:=hi.hi;have:=hp.hi;omega
 |succ m ih=>
  intro a ns l hm h0 hp hk hl;have b0:a≤4000000000000000000:=by have:=hp.hi;omega
  have bk:l.length≤4000000:=by have:=hp.hi;omega
  cases mH:aN ts a [125] with
  |true=>
   refine⟨.ok l a ns,⟨by omega,hp.hi,by omega,aXa _,hp.all,hk,by omega,by omega⟩,(fun _ _ _ h=>by cases h;exact mH),cz.succ (cz.of fun q k=>⟨?_,?_⟩)⟩
   ·simp only[go_sem,Zk,bW,aJ b0,mH,reduceIte]
   ·simp only[go_sem,OL,aVa,eB,aa,cg hs (w:=[125]) rfl,mH]
  |false=>
  obtain⟨r,hi,hr⟩:=IH a ns h0 hp;cases r with
  |er c p=>
   have hc:c≠0:=hi;refine⟨.er c p,hi,(fun _ _ _ h=>by cases h),cz.succ (cz.succ (hr.tn.mono fun q k e=>?_))⟩
   obtain⟨e1,v,a',eD,d',e2⟩:=e;refine⟨?_,l++[v],a',eD,d',?_⟩
   ·simp only[go_sem,Zk,bW,aJ b0,mH,reduceIte,show dh q ts en (a:Int) (d:Int) ns=_ from e1]
   ·rw[eB]
    simp only[go_sem,aa,cg hs (w:=[125]) rfl,mH,show eJ q ts (a:Int) en ns (d:Int) 0 0=_ from e2,cB bk]
    rw[eB];simp only[go_sem,aa,Q6.2 hc]
  |ok v a1 d1 nr=>
   obtain⟨q1,q2,rfl,q3,q4,q5,q6,q7,q8,q9⟩:=hi;obtain⟨r,gi,gx,gr⟩:=ih a1 nr (l++[v]) (by omega) (by omega) ⟨q2,hd,by have:=hp.ln;omega,q5⟩ ((hk.up q4).add q6 q7 q8) (by simp;omega)
   refine⟨r,gi.from (by omega) (by omega) q4 (by simp;omega) (by rw[qI,ph,pW q4 hk.v];omega),gx,cz.succ ((hr.tn.and gr).mono fun q k e=>?_)⟩
   obtain⟨⟨e1,e2⟩,e3,e4⟩:=e;refine⟨?_,?_⟩
   ·simp only[go_sem,bW,aJ b0,mH,reduceIte,show dh q ts en (a:Int) (d1:Int) ns=_ from e1,cB bk]
    exact e3
   ·simp only[go_sem,eB,aa,cg hs (w:=[125]) rfl,mH,show eJ q ts (a:Int) en ns (d1:Int) 0 0=_ from e2,cB bk]
    exact e4
theorem cz.split{p r:Nat→Nat→Prop}(h:cz fun q k=>p q k∧r q k):Ev fun k=>p k k∧r (k+1) (k+1):=by have h1:Ev fun k=>p k k:=(h.mono fun _ _ e=>e.1).j9;have h2:Ev fun k=>r k k:=(h.mono fun _ _ e=>e.2).j9;exact h1.and h2.abt
theorem aak{ns:List eu}{l:XI}(h:jc OM ns l):cm 8 (l.map (kd ns))=true:=by have:l.all (fun j=>OM (kd ns j))=true:=aqa.2 h.c;simp[cm];simpa using this
theorem Ms(hs:pu ts)(hp:yi ts a d ns)(IH:∀ a' d' eD,a<a'→yi ts a' d' eD→StB ts en a' d' eD):BlB ts en a d ns:=by
 have h7:=hs.len;obtain⟨p1,p2,p3,p4⟩:=hp;have b0:a≤4000000000000000000:=by omega
 cases mL:aN ts a [123] with
 |false=>refine BS.succ ?_;simp only[go_sem,Iz,EG,iU,jR,aa,an,aR,bo,aQ,Q9,reduceIte,aM b0,aj hs (w:=[123]) rfl b0,mL];exact BS.er (c:=6) (p:=pl ts en a) (by decide) (Ev.of fun k=>⟨rfl,by simp only[go_sem,eS (show(6:Int)≠0 by decide),fM,apa,aPa]⟩)
 |true=>
 have bf:=bB mL;by_cases hd:d<10
 ·obtain⟨r,hi,hx,hr⟩:=N5 (en:=en) hs (d:=d+1) (by omega) (a0:=a+1) (fun a' eD h p=>IH a' (d+1) eD (by omega) p) _ (a+1) ns [] (axa _) (axa _) ⟨by omega,by omega,by omega,p4⟩ jc.nil (by simp)
  have hr:=hr.split;cases r with
  |er c p=>
   have hc:c≠0:=hi;refine⟨.er c p,hi,Ev.succ (Ev.succ (hr.mono fun k e=>?_))⟩;obtain⟨e1,l',a',eD,d',e2⟩:=e;refine⟨?_,0,a',eD,bC (d' - 1),?_⟩
   ·simp only[go_sem,uM,Iz (k+1),iU,aa,an,aR,bo,aQ,Q9,reduceIte,aM b0,gU p2,mL,hd,IE,fT]
    simp only[go_sem,show bW _ _ _ _ k k ts en ((a+1:Nat):Int) ((d+1:Nat):Int) ns []=_ from e1]
   ·simp only[go_sem,EG (k+1),jR,aa,an,aR,bo,aQ,Q9,reduceIte,aj hs (w:=[123]) rfl b0,mf p2,mL,hd,e2,cX hc,co hc]
  |ok l' a' eD=>
   obtain⟨g1,g2,g3,g4,g5,g6,g7,g8⟩:=hi;rw[zO] at g8;have mH:=hx _ _ _ rfl;have hl:=bB mH;have b4:a'≤4000000000000000000:=by omega
   have Mt:eD.length≤4000000:=by omega
   refine⟨.ok _ (a' + 1) d (eD++[(8,pl ts en a,0,[],l')]),kV (by omega) (by omega) (by omega) g4 g5 ⟨g6.v,aak g6,by simp,by simp at g7 ⊢;omega⟩ rfl g8,Ev.succ (Ev.succ (hr.mono fun k e=>?_))⟩
   obtain⟨e1,e2⟩:=e;refine⟨?_,?_⟩
   ·simp only[go_sem,uM,Iz (k+1),iU,aa,an,aR,bo,aQ,Q9,reduceIte,aM b0,gU p2,mL,hd,IE,fT]
    simp only[go_sem,show bW _ _ _ _ k k ts en ((a+1:Nat):Int) ((d+1:Nat):Int) ns []=_ from e1,ip Mt,kG (show d≤_ by omega)]
   ·simp only[go_sem,L1,EG (k+1),jR,aa,an,aR,bo,aQ,Q9,reduceIte,aj hs (w:=[123]) rfl b0,mf p2,mL,hd]
    simp only[go_sem,show eB _ _ _ (k+1) (k+1) ts en ((a+1:Nat):Int) ns ((d+1:Nat):Int) 0 0 []=_ from e2,aj hs (w:=[125]) rfl b4,mH,reduceIte,dZ Mt,aVa,kG (show d≤_ by omega)]
 ·refine BS.succ ?_
  simp only[go_sem,Iz,EG,iU,jR,aa,an,aR,bo,aQ,Q9,reduceIte,aM b0,aj hs (w:=[123]) rfl b0,gU p2,mf p2,mL,hd];exact BS.er (c:=7) (p:=pl ts en (a+1)) (by decide) (Ev.of fun k=>⟨rfl,by simp only[fM,apa,aPa]⟩)
theorem Qt(hs:pu ts)(hp:yi ts a d ns)(IH:∀ a' d' eD,a<a'→yi ts a' d' eD→BlB ts en a' d' eD):StB ts en a d ns:=by
 have h7:=hs.len;have As:=hp;obtain⟨p1,p2,p3,p4⟩:=hp;have b0:a≤4000000000000000000:=by omega
 have b1:a+1≤4000000000000000000:=by omega
 have b2:a+1+1≤4000000000000000000:=by omega
 have b3:a+1+1+1≤4000000000000000000:=by omega
 have bn:ns.length≤4000000:=by omega
 cases hn:uq ts a 1 with
 |true=>refine BS.succ ?_;simp only[go_sem,nY,ol,bx,bU,aa,an,aR,bo,aQ,Q9,reduceIte,hn];exact BS.bind (aai hs As hn) (fun v a1 d1 nr g=>BS.ok g) (fun c p hc=>Ev.of fun k v a' eD d'=>⟨rfl,by simp only[fM,apa,aPa]⟩)
 |false=>
 cases oT:aN ts a [42] with
 |true=>
  have hl0:=bB oT;refine BS.succ ?_;cases hm:uq ts (a+1) 1 with
  |false=>
   simp only[go_sem,nY,ol,bx,bU,aa,an,aR,bo,aQ,Q9,reduceIte,hn,aJ b0,cg hs (w:=[42]) rfl,ae hs (w:=[42]) rfl b0,cg hs (w:=[105,102]) rfl,ae hs (w:=[105,102]) rfl b0,cg hs (w:=[119,104,105,108,101]) rfl,ae hs (w:=[119,104,105,108,101]) rfl b0,cg hs (w:=[102,111,114]) rfl,ae hs (w:=[102,111,114]) rfl b0,cg hs (w:=[114,101,97,100]) rfl,ae hs (w:=[114,101,97,100]) rfl b0,cg hs (w:=[112,114,105,110,116]) rfl,ae hs (w:=[112,114,105,110,116]) rfl b0,cg hs (w:=[97,115,115,101,114,116]) rfl,ae hs (w:=[97,115,115,101,114,116]) rfl b0,cg hs (w:=[115,116,111,112]) rfl,ae hs (w:=[115,116,111,112]) rfl b0,cg hs (w:=[114,101,116,117,114,110]) rfl,ae hs (w:=[114,101,116,117,114,110]) rfl b0,show aN ts a [105,102]=false from aC oT rfl,show aN ts a [119,104,105,108,101]=false from aC oT rfl,show aN ts a [102,111,114]=false from aC oT rfl,show aN ts a [114,101,97,100]=false from aC oT rfl,show aN ts a [112,114,105,110,116]=false from aC oT rfl,show aN ts a [97,115,115,101,114,116]=false from aC oT rfl,show aN ts a [115,116,111,112]=false from aC oT rfl,show aN ts a [114,101,116,117,114,110]=false from aC oT rfl,oT,bS b1,df b1,hm]
   exact BS.er (c:=6) (p:=pl ts en (a+1)) (by decide) ((fb (ts:=ts) (en:=en) (c:=6) (p:=pl ts en (a+1)) (by decide)).mono fun k e=>⟨rfl,by have hc:(6:Int)≠0:=(by decide);simp only[go_sem,fM,cX hc,dN hc,lZ hc,fE hc,eo hc,co hc,eS hc,fj hc,jI hc,bo,aa,e.1,e.2.1,e.2.2,aYa,aPa,apa]⟩)
  |true=>
  have hl1:=jT hm;simp only[go_sem,nY,ol,bx,bU,aa,an,aR,bo,aQ,Q9,reduceIte,hn,aJ b0,cg hs (w:=[42]) rfl,ae hs (w:=[42]) rfl b0,cg hs (w:=[105,102]) rfl,ae hs (w:=[105,102]) rfl b0,cg hs (w:=[119,104,105,108,101]) rfl,ae hs (w:=[119,104,105,108,101]) rfl b0,cg hs (w:=[102,111,114]) rfl,ae hs (w:=[102,111,114]) rfl b0,cg hs (w:=[114,101,97,100]) rfl,ae hs (w:=[114,101,97,100]) rfl b0,cg hs (w:=[112,114,105,110,116]) rfl,ae hs (w:=[112,114,105,110,116]) rfl b0,cg hs (w:=[97,115,115,101,114,116]) rfl,ae hs (w:=[97,115,115,101,114,116]) rfl b0,cg hs (w:=[115,116,111,112]) rfl,ae hs (w:=[115,116,111,112]) rfl b0,cg hs (w:=[114,101,116,117,114,110]) rfl,ae hs (w:=[114,101,116,117,114,110]) rfl b0,show aN ts a [105,102]=false from aC oT rfl,show aN ts a [119,104,105,108,101]=false from aC oT rfl,show aN ts a [102,111,114]=false from aC oT rfl,show aN ts a [114,101,97,100]=false from aC oT rfl,show aN ts a [112,114,105,110,116]=false from aC oT rfl,show aN ts a [97,115,115,101,114,116]=false from aC oT rfl,show aN ts a [115,116,111,112]=false from aC oT rfl,show aN ts a [114,101,116,117,114,110]=false from aC oT rfl,oT,bS b1,df b1,hm]
  cases h1:aN ts (a+1+1) [61] with
  |false=>simp only[go_sem,aM b2,aj hs (w:=[61]) rfl b2,h1,aa,an,aR,bo,aQ,Q9,reduceIte];exact BS.er (c:=6) (p:=pl ts en (a+1+1)) (by decide) ((fb (ts:=ts) (en:=en) (c:=6) (p:=pl ts en (a+1+1)) (by decide)).mono fun k e=>⟨rfl,by have hc:(6:Int)≠0:=(by decide);simp only[go_sem,fM,cX hc,dN hc,lZ hc,fE hc,eo hc,co hc,eS hc,fj hc,jI hc,bo,aa,e.1,e.2.1,e.2.2,aYa,aPa,apa]⟩)
  |true=>
  have Xj:=bB h1;simp only[go_sem,aM b2,aj hs (w:=[61]) rfl b2,h1,aa,an,aR,bo,aQ,Q9,reduceIte];refine BS.bind (FW hs (a:=a+1+1+1) ⟨by omega,p2,by omega,p4⟩) (fun x1 a1 d1 nr g1=>?_) (fun c p hc=>(fb (ts:=ts) (en:=en) (p:=p) hc).mono fun k e v a' eD d'=>⟨rfl,by simp only[go_sem,fM,cX hc,dN hc,lZ hc,fE hc,eo hc,co hc,eS hc,fj hc,jI hc,bo,aa,e.1,e.2.1,e.2.2,aYa,aPa,apa]⟩)
  obtain⟨q11,q12,rfl,q13,LI,O7,Qe,Qf,Om,q19⟩:=g1;have c1:a1≤4000000000000000000:=by omega
  have Mu:a1+1≤4000000000000000000:=by omega
  have m1:nr.length≤4000000:=by omega
  cases h2:aN ts (a1) [59] with
  |false=>simp only[go_sem,aM c1,aj hs (w:=[59]) rfl c1,h2,aa,an,aR,bo,aQ,Q9,reduceIte];exact BS.er (c:=6) (p:=pl ts en (a1)) (by decide) ((fb (ts:=ts) (en:=en) (c:=6) (p:=pl ts en (a1)) (by decide)).mono fun k e=>⟨rfl,by have hc:(6:Int)≠0:=(by decide);simp only[go_sem,fM,cX hc,dN hc,lZ hc,fE hc,eo hc,co hc,eS hc,fj hc,jI hc,bo,aa,e.1,e.2.1,e.2.2,aYa,aPa,apa]⟩)
  |true=>
  have SZ:=bB h2;simp only[go_sem,aM c1,aj hs (w:=[59]) rfl c1,h2,aa,an,aR,bo,aQ,Q9,reduceIte];simp only[go_sem,ip m1,dZ m1];exact BS.ok (kV (by omega) (by omega) (by omega) LI O7 ⟨by simp;omega,by simpa[cm] using Om,by simp⟩ rfl (by rw[ph];exact q19))
 |false=>
 cases MZ:aN ts a [105,102] with
 |true=>
  have hl0:=bB MZ;refine BS.succ (BS.succ ?_);simp only[go_sem,nY (_+1),ol (_+1),bx,bU,I8,ko,aa,an,aR,bo,aQ,Q9,reduceIte,hn,aj hs (w:=[102,111,114]) rfl b0,Ju,Jv,aJ b0,cg hs (w:=[42]) rfl,ae hs (w:=[42]) rfl b0,cg hs (w:=[105,102]) rfl,ae hs (w:=[105,102]) rfl b0,cg hs (w:=[119,104,105,108,101]) rfl,ae hs (w:=[119,104,105,108,101]) rfl b0,cg hs (w:=[102,111,114]) rfl,ae hs (w:=[102,111,114]) rfl b0,cg hs (w:=[114,101,97,100]) rfl,ae hs (w:=[114,101,97,100]) rfl b0,cg hs (w:=[112,114,105,110,116]) rfl,ae hs (w:=[112,114,105,110,116]) rfl b0,cg hs (w:=[97,115,115,101,114,116]) rfl,ae hs (w:=[97,115,115,101,114,116]) rfl b0,cg hs (w:=[115,116,111,112]) rfl,ae hs (w:=[115,116,111,112]) rfl b0,cg hs (w:=[114,101,116,117,114,110]) rfl,ae hs (w:=[114,101,116,117,114,110]) rfl b0,show aN ts a [42]=false from aC MZ rfl,show aN ts a [119,104,105,108,101]=false from aC MZ rfl,show aN ts a [102,111,114]=false from aC MZ rfl,show aN ts a [114,101,97,100]=false from aC MZ rfl,show aN ts a [112,114,105,110,116]=false from aC MZ rfl,show aN ts a [97,115,115,101,114,116]=false from aC MZ rfl,show aN ts a [115,116,111,112]=false from aC MZ rfl,show aN ts a [114,101,116,117,114,110]=false from aC MZ rfl,MZ]
  refine BS.bind ((X9 hs (a:=a+1) ⟨by omega,p2,by omega,p4⟩).up) (fun x1 a1 d1 nr g1=>?_) (fun c p hc=>(fb (ts:=ts) (en:=en) (p:=p) hc).mono fun k e v a' eD d'=>⟨rfl,by simp only[go_sem,fM,cX hc,dN hc,lZ hc,fE hc,eo hc,co hc,eS hc,fj hc,jI hc,bo,aa,e.1,e.2.1,e.2.2,aYa,aPa,apa,Ju,Jv]⟩)
  obtain⟨q11,q12,rfl,q13,LI,O7,Qe,Qf,Om,q19⟩:=g1;have c1:a1≤4000000000000000000:=by omega
  have Mu:a1+1≤4000000000000000000:=by omega
  have m1:nr.length≤4000000:=by omega
  refine BS.bind ((IH (a1) _ _ (by omega) ⟨by omega,p2,by omega,O7⟩).up) (fun x2 a2 d2 qy g2=>?_) (fun c p hc=>(fb (ts:=ts) (en:=en) (p:=p) hc).mono fun k e v a' eD d'=>⟨rfl,by simp only[go_sem,fM,cX hc,dN hc,lZ hc,fE hc,eo hc,co hc,eS hc,fj hc,jI hc,bo,aa,e.1,e.2.1,e.2.2,aYa,aPa,apa,Ju,Jv]⟩)
  obtain⟨q21,q22,rfl,q23,NU,q25,q26,q27,q28,q29⟩:=g2;have c2:a2≤4000000000000000000:=by omega
  have c21:a2+1≤4000000000000000000:=by omega
  have m2:qy.length≤4000000:=by omega
  cases hel:aN ts a2 [101,108,115,101] with
  |true=>
   have hl1:=bB hel;simp only[go_sem,aa,an,aR,bo,aQ,Q9,reduceIte,Ju,Jv,aJ c2,ae hs (w:=[101,108,115,101]) rfl c2,hel];refine BS.bind ((IH (a2+1) _ _ (by omega) ⟨by omega,p2,by omega,q25⟩).up) (fun x3 a3 d3 L5 g3=>?_) (fun c p hc=>(fb (ts:=ts) (en:=en) (p:=p) hc).mono fun k e v a' eD d'=>⟨rfl,by simp only[go_sem,fM,cX hc,dN hc,lZ hc,fE hc,eo hc,co hc,eS hc,fj hc,jI hc,bo,aa,e.1,e.2.1,e.2.2,aYa,aPa,apa,Ju,Jv]⟩)
   obtain⟨q31,q32,rfl,q33,q34,q35,q36,q37,q38,q39⟩:=g3;have c3:a3≤4000000000000000000:=by omega
   have c31:a3+1≤4000000000000000000:=by omega
   have m3:L5.length≤4000000:=by omega
   simp only[go_sem,aa,an,aR,bo,aQ,Q9,reduceIte,Ju,Jv,ip m3,dZ m3];exact BS.ok (kV (by omega) (by omega) (by omega) (LI.trans (NU.trans q34)) q35 ⟨by simp;have:=NU.length_le;have:=q34.length_le;omega,by simp[cm,Om,a_a.1 q28,a_a.1 q38,qH (NU.trans q34) Qe Qf,qH q34 q26 q27],by simp⟩ rfl (by rw[PP,rX (NU.trans q34) Qe Qf,rX q34 q26 q27];omega))
  |false=>simp only[go_sem,aa,an,aR,bo,aQ,Q9,reduceIte,Ju,Jv,aJ c2,ae hs (w:=[101,108,115,101]) rfl c2,hel,ip m2,dZ m2];exact BS.ok (kV (by omega) (by omega) (by omega) (LI.trans NU) q25 ⟨by simp;have:=NU.length_le;omega,by simp[cm,Om,a_a.1 q28,qH NU Qe Qf],by simp⟩ rfl (by rw[yC,rX NU Qe Qf];omega))
 |false=>
 cases uj:aN ts a [119,104,105,108,101] with
 |true=>
  have hl0:=bB uj;refine BS.succ (BS.succ ?_);simp only[go_sem,nY (_+1),ol (_+1),bx,bU,I8,ko,aa,an,aR,bo,aQ,Q9,reduceIte,hn,aj hs (w:=[102,111,114]) rfl b0,Ju,Jv,aJ b0,cg hs (w:=[42]) rfl,ae hs (w:=[42]) rfl b0,cg hs (w:=[105,102]) rfl,ae hs (w:=[105,102]) rfl b0,cg hs (w:=[119,104,105,108,101]) rfl,ae hs (w:=[119,104,105,108,101]) rfl b0,cg hs (w:=[102,111,114]) rfl,ae hs (w:=[102,111,114]) rfl b0,cg hs (w:=[114,101,97,100]) rfl,ae hs (w:=[114,101,97,100]) rfl b0,cg hs (w:=[112,114,105,110,116]) rfl,ae hs (w:=[112,114,105,110,116]) rfl b0,cg hs (w:=[97,115,115,101,114,116]) rfl,ae hs (w:=[97,115,115,101,114,116]) rfl b0,cg hs (w:=[115,116,111,112]) rfl,ae hs (w:=[115,116,111,112]) rfl b0,cg hs (w:=[114,101,116,117,114,110]) rfl,ae hs (w:=[114,101,116,117,114,110]) rfl b0,show aN ts a [42]=false from aC uj rfl,show aN ts a [105,102]=false from aC uj rfl,show aN ts a [102,111,114]=false from aC uj rfl,show aN ts a [114,101,97,100]=false from aC uj rfl,show aN ts a [112,114,105,110,116]=false from aC uj rfl,show aN ts a [97,115,115,101,114,116]=false from aC uj rfl,show aN ts a [115,116,111,112]=false from aC uj rfl,show aN ts a [114,101,116,117,114,110]=false from aC uj rfl,uj]
  refine BS.bind ((X9 hs (a:=a+1) ⟨by omega,p2,by omega,p4⟩).up) (fun x1 a1 d1 nr g1=>?_) (fun c p hc=>(fb (ts:=ts) (en:=en) (p:=p) hc).mono fun k e v a' eD d'=>⟨rfl,by simp only[go_sem,fM,cX hc,dN hc,lZ hc,fE hc,eo hc,co hc,eS hc,fj hc,jI hc,bo,aa,e.1,e.2.1,e.2.2,aYa,aPa,apa,Ju,Jv]⟩)
  obtain⟨q11,q12,rfl,q13,LI,O7,Qe,Qf,Om,q19⟩:=g1;have c1:a1≤4000000000000000000:=by omega
  have Mu:a1+1≤4000000000000000000:=by omega
  have m1:nr.length≤4000000:=by omega
  refine BS.bind ((IH (a1) _ _ (by omega) ⟨by omega,p2,by omega,O7⟩).up) (fun x2 a2 d2 qy g2=>?_) (fun c p hc=>(fb (ts:=ts) (en:=en) (p:=p) hc).mono fun k e v a' eD d'=>⟨rfl,by simp only[go_sem,fM,cX hc,dN hc,lZ hc,fE hc,eo hc,co hc,eS hc,fj hc,jI hc,bo,aa,e.1,e.2.1,e.2.2,aYa,aPa,apa,Ju,Jv]⟩)
  obtain⟨q21,q22,rfl,q23,NU,q25,q26,q27,q28,q29⟩:=g2;have c2:a2≤4000000000000000000:=by omega
  have c21:a2+1≤4000000000000000000:=by omega
  have m2:qy.length≤4000000:=by omega
  simp only[go_sem,aa,an,aR,bo,aQ,Q9,reduceIte,Ju,Jv,ip m2,dZ m2];exact BS.ok (kV (by omega) (by omega) (by omega) (LI.trans NU) q25 ⟨by simp;have:=NU.length_le;omega,by simp[cm,Om,a_a.1 q28,qH NU Qe Qf],by simp⟩ rfl (by rw[yC,rX NU Qe Qf];omega))
 |false=>
 cases tI:aN ts a [102,111,114] with
 |true=>
  have hl0:=bB tI;refine BS.succ (BS.succ ?_);cases hm:uq ts (a+1) 1 with
  |false=>
   simp only[go_sem,nY (_+1),ol (_+1),bx,bU,I8,ko,aa,an,aR,bo,aQ,Q9,reduceIte,hn,aj hs (w:=[102,111,114]) rfl b0,Ju,Jv,aJ b0,cg hs (w:=[42]) rfl,ae hs (w:=[42]) rfl b0,cg hs (w:=[105,102]) rfl,ae hs (w:=[105,102]) rfl b0,cg hs (w:=[119,104,105,108,101]) rfl,ae hs (w:=[119,104,105,108,101]) rfl b0,cg hs (w:=[102,111,114]) rfl,ae hs (w:=[102,111,114]) rfl b0,cg hs (w:=[114,101,97,100]) rfl,ae hs (w:=[114,101,97,100]) rfl b0,cg hs (w:=[112,114,105,110,116]) rfl,ae hs (w:=[112,114,105,110,116]) rfl b0,cg hs (w:=[97,115,115,101,114,116]) rfl,ae hs (w:=[97,115,115,101,114,116]) rfl b0,cg hs (w:=[115,116,111,112]) rfl,ae hs (w:=[115,116,111,112]) rfl b0,cg hs (w:=[114,101,116,117,114,110]) rfl,ae hs (w:=[114,101,116,117,114,110]) rfl b0,show aN ts a [42]=false from aC tI rfl,show aN ts a [105,102]=false from aC tI rfl,show aN ts a [119,104,105,108,101]=false from aC tI rfl,show aN ts a [114,101,97,100]=false from aC tI rfl,show aN ts a [112,114,105,110,116]=false from aC tI rfl,show aN ts a [97,115,115,101,114,116]=false from aC tI rfl,show aN ts a [115,116,111,112]=false from aC tI rfl,show aN ts a [114,101,116,117,114,110]=false from aC tI rfl,tI,S5,kf,bS b1,df b1,hm]
   exact BS.er (c:=6) (p:=pl ts en (a+1)) (by decide) ((fb (ts:=ts) (en:=en) (c:=6) (p:=pl ts en (a+1)) (by decide)).mono fun k e=>⟨rfl,by have hc:(6:Int)≠0:=(by decide);simp only[go_sem,fM,cX hc,dN hc,lZ hc,fE hc,eo hc,co hc,eS hc,fj hc,jI hc,bo,aa,e.1,e.2.1,e.2.2,aYa,aPa,apa]⟩)
  |true=>
  have hl1:=jT hm;simp only[go_sem,nY (_+1),ol (_+1),bx,bU,I8,ko,aa,an,aR,bo,aQ,Q9,reduceIte,hn,aj hs (w:=[102,111,114]) rfl b0,Ju,Jv,aJ b0,cg hs (w:=[42]) rfl,ae hs (w:=[42]) rfl b0,cg hs (w:=[105,102]) rfl,ae hs (w:=[105,102]) rfl b0,cg hs (w:=[119,104,105,108,101]) rfl,ae hs (w:=[119,104,105,108,101]) rfl b0,cg hs (w:=[102,111,114]) rfl,ae hs (w:=[102,111,114]) rfl b0,cg hs (w:=[114,101,97,100]) rfl,ae hs (w:=[114,101,97,100]) rfl b0,cg hs (w:=[112,114,105,110,116]) rfl,ae hs (w:=[112,114,105,110,116]) rfl b0,cg hs (w:=[97,115,115,101,114,116]) rfl,ae hs (w:=[97,115,115,101,114,116]) rfl b0,cg hs (w:=[115,116,111,112]) rfl,ae hs (w:=[115,116,111,112]) rfl b0,cg hs (w:=[114,101,116,117,114,110]) rfl,ae hs (w:=[114,101,116,117,114,110]) rfl b0,show aN ts a [42]=false from aC tI rfl,show aN ts a [105,102]=false from aC tI rfl,show aN ts a [119,104,105,108,101]=false from aC tI rfl,show aN ts a [114,101,97,100]=false from aC tI rfl,show aN ts a [112,114,105,110,116]=false from aC tI rfl,show aN ts a [97,115,115,101,114,116]=false from aC tI rfl,show aN ts a [115,116,111,112]=false from aC tI rfl,show aN ts a [114,101,116,117,114,110]=false from aC tI rfl,tI,S5,kf,bS b1,df b1,hm,tW hl1]
  cases h1:aN ts (a+1+1) [61] with
  |false=>simp only[go_sem,aM b2,aj hs (w:=[61]) rfl b2,h1,aa,an,aR,bo,aQ,Q9,reduceIte];exact BS.er (c:=6) (p:=pl ts en (a+1+1)) (by decide) ((fb (ts:=ts) (en:=en) (c:=6) (p:=pl ts en (a+1+1)) (by decide)).mono fun k e=>⟨rfl,by have hc:(6:Int)≠0:=(by decide);simp only[go_sem,fM,cX hc,dN hc,lZ hc,fE hc,eo hc,co hc,eS hc,fj hc,jI hc,bo,aa,e.1,e.2.1,e.2.2,aYa,aPa,apa]⟩)
  |true=>
  have Xj:=bB h1;simp only[go_sem,aM b2,aj hs (w:=[61]) rfl b2,h1,aa,an,aR,bo,aQ,Q9,reduceIte];refine BS.bind (FW hs (a:=a+1+1+1) ⟨by omega,p2,by omega,p4⟩) (fun x1 a1 d1 nr g1=>?_) (fun c p hc=>(fb (ts:=ts) (en:=en) (p:=p) hc).mono fun k e v a' eD d'=>⟨rfl,by simp only[go_sem,fM,cX hc,dN hc,lZ hc,fE hc,eo hc,co hc,eS hc,fj hc,jI hc,bo,aa,e.1,e.2.1,e.2.2,aYa,aPa,apa]⟩)
  obtain⟨q11,q12,rfl,q13,LI,O7,Qe,Qf,Om,q19⟩:=g1;have c1:a1≤4000000000000000000:=by omega
  have Mu:a1+1≤4000000000000000000:=by omega
  have m1:nr.length≤4000000:=by omega
  cases h2:aN ts (a1) [46,46] with
  |false=>simp only[go_sem,aM c1,aj hs (w:=[46,46]) rfl c1,h2,aa,an,aR,bo,aQ,Q9,reduceIte];exact BS.er (c:=6) (p:=pl ts en (a1)) (by decide) ((fb (ts:=ts) (en:=en) (c:=6) (p:=pl ts en (a1)) (by decide)).mono fun k e=>⟨rfl,by have hc:(6:Int)≠0:=(by decide);simp only[go_sem,fM,cX hc,dN hc,lZ hc,fE hc,eo hc,co hc,eS hc,fj hc,jI hc,bo,aa,e.1,e.2.1,e.2.2,aYa,aPa,apa]⟩)
  |true=>
  have SZ:=bB h2;simp only[go_sem,aM c1,aj hs (w:=[46,46]) rfl c1,h2,aa,an,aR,bo,aQ,Q9,reduceIte];refine BS.bind (FW hs (a:=a1+1) ⟨by omega,p2,by omega,O7⟩) (fun x2 a2 d2 qy g2=>?_) (fun c p hc=>(fb (ts:=ts) (en:=en) (p:=p) hc).mono fun k e v a' eD d'=>⟨rfl,by simp only[go_sem,fM,cX hc,dN hc,lZ hc,fE hc,eo hc,co hc,eS hc,fj hc,jI hc,bo,aa,e.1,e.2.1,e.2.2,aYa,aPa,apa]⟩)
  obtain⟨q21,q22,rfl,q23,NU,q25,q26,q27,q28,q29⟩:=g2;have c2:a2≤4000000000000000000:=by omega
  have c21:a2+1≤4000000000000000000:=by omega
  have m2:qy.length≤4000000:=by omega
  simp only[go_sem,aa,an,aR,bo,aQ,Q9,reduceIte];refine BS.bind (IH (a2) _ _ (by omega) ⟨by omega,p2,by omega,q25⟩) (fun x3 a3 d3 L5 g3=>?_) (fun c p hc=>(fb (ts:=ts) (en:=en) (p:=p) hc).mono fun k e v a' eD d'=>⟨rfl,by simp only[go_sem,fM,cX hc,dN hc,lZ hc,fE hc,eo hc,co hc,eS hc,fj hc,jI hc,bo,aa,e.1,e.2.1,e.2.2,aYa,aPa,apa]⟩)
  obtain⟨q31,q32,rfl,q33,q34,q35,q36,q37,q38,q39⟩:=g3;have c3:a3≤4000000000000000000:=by omega
  have c31:a3+1≤4000000000000000000:=by omega
  have m3:L5.length≤4000000:=by omega
  simp only[go_sem,aa,an,aR,bo,aQ,Q9,reduceIte,ip m3,dZ m3];exact BS.ok (kV (by omega) (by omega) (by omega) (LI.trans (NU.trans q34)) q35 ⟨by simp;have:=NU.length_le;have:=q34.length_le;omega,by simp[cm,Om,q28,a_a.1 q38,qH (NU.trans q34) Qe Qf,qH q34 q26 q27],by simp⟩ rfl (by rw[PP,rX (NU.trans q34) Qe Qf,rX q34 q26 q27];omega))
 |false=>
 refine BS.succ ?_;cases oS:aN ts a [114,101,97,100] with
 |true=>
  have hl0:=bB oS;cases hm:uq ts (a+1) 1 with
  |false=>
   simp only[go_sem,nY,ol,bx,bU,aa,an,aR,bo,aQ,Q9,reduceIte,hn,aJ b0,cg hs (w:=[42]) rfl,ae hs (w:=[42]) rfl b0,cg hs (w:=[105,102]) rfl,ae hs (w:=[105,102]) rfl b0,cg hs (w:=[119,104,105,108,101]) rfl,ae hs (w:=[119,104,105,108,101]) rfl b0,cg hs (w:=[102,111,114]) rfl,ae hs (w:=[102,111,114]) rfl b0,cg hs (w:=[114,101,97,100]) rfl,ae hs (w:=[114,101,97,100]) rfl b0,cg hs (w:=[112,114,105,110,116]) rfl,ae hs (w:=[112,114,105,110,116]) rfl b0,cg hs (w:=[97,115,115,101,114,116]) rfl,ae hs (w:=[97,115,115,101,114,116]) rfl b0,cg hs (w:=[115,116,111,112]) rfl,ae hs (w:=[115,116,111,112]) rfl b0,cg hs (w:=[114,101,116,117,114,110]) rfl,ae hs (w:=[114,101,116,117,114,110]) rfl b0,show aN ts a [42]=false from aC oS rfl,show aN ts a [105,102]=false from aC oS rfl,show aN ts a [119,104,105,108,101]=false from aC oS rfl,show aN ts a [102,111,114]=false from aC oS rfl,show aN ts a [112,114,105,110,116]=false from aC oS rfl,show aN ts a [97,115,115,101,114,116]=false from aC oS rfl,show aN ts a [115,116,111,112]=false from aC oS rfl,show aN ts a [114,101,116,117,114,110]=false from aC oS rfl,oS,bS b1,df b1,hm]
   exact BS.er (c:=6) (p:=pl ts en (a+1)) (by decide) ((fb (ts:=ts) (en:=en) (c:=6) (p:=pl ts en (a+1)) (by decide)).mono fun k e=>⟨rfl,by have hc:(6:Int)≠0:=(by decide);simp only[go_sem,fM,cX hc,dN hc,lZ hc,fE hc,eo hc,co hc,eS hc,fj hc,jI hc,bo,aa,e.1,e.2.1,e.2.2,aYa,aPa,apa]⟩)
  |true=>
  have hl1:=jT hm;simp only[go_sem,nY,ol,bx,bU,aa,an,aR,bo,aQ,Q9,reduceIte,hn,aJ b0,cg hs (w:=[42]) rfl,ae hs (w:=[42]) rfl b0,cg hs (w:=[105,102]) rfl,ae hs (w:=[105,102]) rfl b0,cg hs (w:=[119,104,105,108,101]) rfl,ae hs (w:=[119,104,105,108,101]) rfl b0,cg hs (w:=[102,111,114]) rfl,ae hs (w:=[102,111,114]) rfl b0,cg hs (w:=[114,101,97,100]) rfl,ae hs (w:=[114,101,97,100]) rfl b0,cg hs (w:=[112,114,105,110,116]) rfl,ae hs (w:=[112,114,105,110,116]) rfl b0,cg hs (w:=[97,115,115,101,114,116]) rfl,ae hs (w:=[97,115,115,101,114,116]) rfl b0,cg hs (w:=[115,116,111,112]) rfl,ae hs (w:=[115,116,111,112]) rfl b0,cg hs (w:=[114,101,116,117,114,110]) rfl,ae hs (w:=[114,101,116,117,114,110]) rfl b0,show aN ts a [42]=false from aC oS rfl,show aN ts a [105,102]=false from aC oS rfl,show aN ts a [119,104,105,108,101]=false from aC oS rfl,show aN ts a [102,111,114]=false from aC oS rfl,show aN ts a [112,114,105,110,116]=false from aC oS rfl,show aN ts a [97,115,115,101,114,116]=false from aC oS rfl,show aN ts a [115,116,111,112]=false from aC oS rfl,show aN ts a [114,101,116,117,114,110]=false from aC oS rfl,oS,bS b1,df b1,hm,kG (d:=a+1) b1,bq (iG hl1),tW hl1]
  cases h2:aN ts (a+1+1) [59] with
  |false=>simp only[go_sem,aM b2,aj hs (w:=[59]) rfl b2,h2,aa,an,aR,bo,aQ,Q9,reduceIte];exact BS.er (c:=6) (p:=pl ts en (a+1+1)) (by decide) ((fb (ts:=ts) (en:=en) (c:=6) (p:=pl ts en (a+1+1)) (by decide)).mono fun k e=>⟨rfl,by have hc:(6:Int)≠0:=(by decide);simp only[go_sem,fM,cX hc,dN hc,lZ hc,fE hc,eo hc,co hc,eS hc,fj hc,jI hc,bo,aa,e.1,e.2.1,e.2.2,aYa,aPa,apa]⟩)
  |true=>
  have SZ:=bB h2;simp only[go_sem,aM b2,aj hs (w:=[59]) rfl b2,h2,aa,an,aR,bo,aQ,Q9,reduceIte];simp only[go_sem,ip bn,dZ bn];exact BS.ok (kV (by omega) (by omega) (by omega) (aXa _) p4 (tg rfl (by decide)) rfl (by simp[jQ]))
 |false=>
 cases ui:aN ts a [112,114,105,110,116] with
 |true=>
  have hl0:=bB ui;simp only[go_sem,nY,ol,bx,bU,aa,an,aR,bo,aQ,Q9,reduceIte,hn,aJ b0,cg hs (w:=[42]) rfl,ae hs (w:=[42]) rfl b0,cg hs (w:=[105,102]) rfl,ae hs (w:=[105,102]) rfl b0,cg hs (w:=[119,104,105,108,101]) rfl,ae hs (w:=[119,104,105,108,101]) rfl b0,cg hs (w:=[102,111,114]) rfl,ae hs (w:=[102,111,114]) rfl b0,cg hs (w:=[114,101,97,100]) rfl,ae hs (w:=[114,101,97,100]) rfl b0,cg hs (w:=[112,114,105,110,116]) rfl,ae hs (w:=[112,114,105,110,116]) rfl b0,cg hs (w:=[97,115,115,101,114,116]) rfl,ae hs (w:=[97,115,115,101,114,116]) rfl b0,cg hs (w:=[115,116,111,112]) rfl,ae hs (w:=[115,116,111,112]) rfl b0,cg hs (w:=[114,101,116,117,114,110]) rfl,ae hs (w:=[114,101,116,117,114,110]) rfl b0,show aN ts a [42]=false from aC ui rfl,show aN ts a [105,102]=false from aC ui rfl,show aN ts a [119,104,105,108,101]=false from aC ui rfl,show aN ts a [102,111,114]=false from aC ui rfl,show aN ts a [114,101,97,100]=false from aC ui rfl,show aN ts a [97,115,115,101,114,116]=false from aC ui rfl,show aN ts a [115,116,111,112]=false from aC ui rfl,show aN ts a [114,101,116,117,114,110]=false from aC ui rfl,ui]
  refine BS.bind (FW hs (a:=a+1) ⟨by omega,p2,by omega,p4⟩) (fun x1 a1 d1 nr g1=>?_) (fun c p hc=>(fb (ts:=ts) (en:=en) (p:=p) hc).mono fun k e v a' eD d'=>⟨rfl,by simp only[go_sem,fM,cX hc,dN hc,lZ hc,fE hc,eo hc,co hc,eS hc,fj hc,jI hc,bo,aa,e.1,e.2.1,e.2.2,aYa,aPa,apa]⟩)
  obtain⟨q11,q12,rfl,q13,LI,O7,Qe,Qf,Om,q19⟩:=g1;have c1:a1≤4000000000000000000:=by omega
  have Mu:a1+1≤4000000000000000000:=by omega
  have m1:nr.length≤4000000:=by omega
  cases h2:aN ts (a1) [59] with
  |false=>simp only[go_sem,aM c1,aj hs (w:=[59]) rfl c1,h2,aa,an,aR,bo,aQ,Q9,reduceIte];exact BS.er (c:=6) (p:=pl ts en (a1)) (by decide) ((fb (ts:=ts) (en:=en) (c:=6) (p:=pl ts en (a1)) (by decide)).mono fun k e=>⟨rfl,by have hc:(6:Int)≠0:=(by decide);simp only[go_sem,fM,cX hc,dN hc,lZ hc,fE hc,eo hc,co hc,eS hc,fj hc,jI hc,bo,aa,e.1,e.2.1,e.2.2,aYa,aPa,apa]⟩)
  |true=>
  have SZ:=bB h2;simp only[go_sem,aM c1,aj hs (w:=[59]) rfl c1,h2,aa,an,aR,bo,aQ,Q9,reduceIte];simp only[go_sem,ip m1,dZ m1];exact BS.ok (kV (by omega) (by omega) (by omega) LI O7 ⟨by simp;omega,by simpa[cm] using Om,by simp⟩ rfl (by rw[ph];exact q19))
 |false=>
 cases qE:aN ts a [97,115,115,101,114,116] with
 |true=>
  have hl0:=bB qE;simp only[go_sem,nY,ol,bx,bU,aa,an,aR,bo,aQ,Q9,reduceIte,hn,aJ b0,cg hs (w:=[42]) rfl,ae hs (w:=[42]) rfl b0,cg hs (w:=[105,102]) rfl,ae hs (w:=[105,102]) rfl b0,cg hs (w:=[119,104,105,108,101]) rfl,ae hs (w:=[119,104,105,108,101]) rfl b0,cg hs (w:=[102,111,114]) rfl,ae hs (w:=[102,111,114]) rfl b0,cg hs (w:=[114,101,97,100]) rfl,ae hs (w:=[114,101,97,100]) rfl b0,cg hs (w:=[112,114,105,110,116]) rfl,ae hs (w:=[112,114,105,110,116]) rfl b0,cg hs (w:=[97,115,115,101,114,116]) rfl,ae hs (w:=[97,115,115,101,114,116]) rfl b0,cg hs (w:=[115,116,111,112]) rfl,ae hs (w:=[115,116,111,112]) rfl b0,cg hs (w:=[114,101,116,117,114,110]) rfl,ae hs (w:=[114,101,116,117,114,110]) rfl b0,show aN ts a [42]=false from aC qE rfl,show aN ts a [105,102]=false from aC qE rfl,show aN ts a [119,104,105,108,101]=false from aC qE rfl,show aN ts a [102,111,114]=false from aC qE rfl,show aN ts a [114,101,97,100]=false from aC qE rfl,show aN ts a [112,114,105,110,116]=false from aC qE rfl,show aN ts a [115,116,111,112]=false from aC qE rfl,show aN ts a [114,101,116,117,114,110]=false from aC qE rfl,qE]
  refine BS.bind (X9 hs (a:=a+1) ⟨by omega,p2,by omega,p4⟩) (fun x1 a1 d1 nr g1=>?_) (fun c p hc=>(fb (ts:=ts) (en:=en) (p:=p) hc).mono fun k e v a' eD d'=>⟨rfl,by simp only[go_sem,fM,cX hc,dN hc,lZ hc,fE hc,eo hc,co hc,eS hc,fj hc,jI hc,bo,aa,e.1,e.2.1,e.2.2,aYa,aPa,apa]⟩)
  obtain⟨q11,q12,rfl,q13,LI,O7,Qe,Qf,Om,q19⟩:=g1;have c1:a1≤4000000000000000000:=by omega
  have Mu:a1+1≤4000000000000000000:=by omega
  have m1:nr.length≤4000000:=by omega
  cases h2:aN ts (a1) [59] with
  |false=>simp only[go_sem,aM c1,aj hs (w:=[59]) rfl c1,h2,aa,an,aR,bo,aQ,Q9,reduceIte];exact BS.er (c:=6) (p:=pl ts en (a1)) (by decide) ((fb (ts:=ts) (en:=en) (c:=6) (p:=pl ts en (a1)) (by decide)).mono fun k e=>⟨rfl,by have hc:(6:Int)≠0:=(by decide);simp only[go_sem,fM,cX hc,dN hc,lZ hc,fE hc,eo hc,co hc,eS hc,fj hc,jI hc,bo,aa,e.1,e.2.1,e.2.2,aYa,aPa,apa]⟩)
  |true=>
  have SZ:=bB h2;simp only[go_sem,aM c1,aj hs (w:=[59]) rfl c1,h2,aa,an,aR,bo,aQ,Q9,reduceIte];simp only[go_sem,ip m1,dZ m1];exact BS.ok (kV (by omega) (by omega) (by omega) LI O7 ⟨by simp;omega,by simpa[cm] using Om,by simp⟩ rfl (by rw[ph];exact q19))
 |false=>
 cases yz:aN ts a [115,116,111,112] with
 |true=>
  have hl0:=bB yz;simp only[go_sem,nY,ol,bx,bU,aa,an,aR,bo,aQ,Q9,reduceIte,hn,aJ b0,cg hs (w:=[42]) rfl,ae hs (w:=[42]) rfl b0,cg hs (w:=[105,102]) rfl,ae hs (w:=[105,102]) rfl b0,cg hs (w:=[119,104,105,108,101]) rfl,ae hs (w:=[119,104,105,108,101]) rfl b0,cg hs (w:=[102,111,114]) rfl,ae hs (w:=[102,111,114]) rfl b0,cg hs (w:=[114,101,97,100]) rfl,ae hs (w:=[114,101,97,100]) rfl b0,cg hs (w:=[112,114,105,110,116]) rfl,ae hs (w:=[112,114,105,110,116]) rfl b0,cg hs (w:=[97,115,115,101,114,116]) rfl,ae hs (w:=[97,115,115,101,114,116]) rfl b0,cg hs (w:=[115,116,111,112]) rfl,ae hs (w:=[115,116,111,112]) rfl b0,cg hs (w:=[114,101,116,117,114,110]) rfl,ae hs (w:=[114,101,116,117,114,110]) rfl b0,show aN ts a [42]=false from aC yz rfl,show aN ts a [105,102]=false from aC yz rfl,show aN ts a [119,104,105,108,101]=false from aC yz rfl,show aN ts a [102,111,114]=false from aC yz rfl,show aN ts a [114,101,97,100]=false from aC yz rfl,show aN ts a [112,114,105,110,116]=false from aC yz rfl,show aN ts a [97,115,115,101,114,116]=false from aC yz rfl,show aN ts a [114,101,116,117,114,110]=false from aC yz rfl,yz]
  cases h2:aN ts (a+1) [59] with
  |false=>simp only[go_sem,aM b1,aj hs (w:=[59]) rfl b1,h2,aa,an,aR,bo,aQ,Q9,reduceIte];exact BS.er (c:=6) (p:=pl ts en (a+1)) (by decide) ((fb (ts:=ts) (en:=en) (c:=6) (p:=pl ts en (a+1)) (by decide)).mono fun k e=>⟨rfl,by have hc:(6:Int)≠0:=(by decide);simp only[go_sem,fM,cX hc,dN hc,lZ hc,fE hc,eo hc,co hc,eS hc,fj hc,jI hc,bo,aa,e.1,e.2.1,e.2.2,aYa,aPa,apa]⟩)
  |true=>
  have SZ:=bB h2;simp only[go_sem,aM b1,aj hs (w:=[59]) rfl b1,h2,aa,an,aR,bo,aQ,Q9,reduceIte];simp only[go_sem,ip bn,dZ bn];exact BS.ok (kV (by omega) (by omega) (by omega) (aXa _) p4 (tg rfl (by decide)) rfl (by simp[jQ]))
 |false=>
 cases qF:aN ts a [114,101,116,117,114,110] with
 |true=>
  have hl0:=bB qF;simp only[go_sem,nY,ol,bx,bU,aa,an,aR,bo,aQ,Q9,reduceIte,hn,aJ b0,cg hs (w:=[42]) rfl,ae hs (w:=[42]) rfl b0,cg hs (w:=[105,102]) rfl,ae hs (w:=[105,102]) rfl b0,cg hs (w:=[119,104,105,108,101]) rfl,ae hs (w:=[119,104,105,108,101]) rfl b0,cg hs (w:=[102,111,114]) rfl,ae hs (w:=[102,111,114]) rfl b0,cg hs (w:=[114,101,97,100]) rfl,ae hs (w:=[114,101,97,100]) rfl b0,cg hs (w:=[112,114,105,110,116]) rfl,ae hs (w:=[112,114,105,110,116]) rfl b0,cg hs (w:=[97,115,115,101,114,116]) rfl,ae hs (w:=[97,115,115,101,114,116]) rfl b0,cg hs (w:=[115,116,111,112]) rfl,ae hs (w:=[115,116,111,112]) rfl b0,cg hs (w:=[114,101,116,117,114,110]) rfl,ae hs (w:=[114,101,116,117,114,110]) rfl b0,show aN ts a [42]=false from aC qF rfl,show aN ts a [105,102]=false from aC qF rfl,show aN ts a [119,104,105,108,101]=false from aC qF rfl,show aN ts a [102,111,114]=false from aC qF rfl,show aN ts a [114,101,97,100]=false from aC qF rfl,show aN ts a [112,114,105,110,116]=false from aC qF rfl,show aN ts a [97,115,115,101,114,116]=false from aC qF rfl,show aN ts a [115,116,111,112]=false from aC qF rfl,qF]
  refine BS.bind (FW hs (a:=a+1) ⟨by omega,p2,by omega,p4⟩) (fun x1 a1 d1 nr g1=>?_) (fun c p hc=>(fb (ts:=ts) (en:=en) (p:=p) hc).mono fun k e v a' eD d'=>⟨rfl,by simp only[go_sem,fM,cX hc,dN hc,lZ hc,fE hc,eo hc,co hc,eS hc,fj hc,jI hc,bo,aa,e.1,e.2.1,e.2.2,aYa,aPa,apa]⟩)
  obtain⟨q11,q12,rfl,q13,LI,O7,Qe,Qf,Om,q19⟩:=g1;have c1:a1≤4000000000000000000:=by omega
  have Mu:a1+1≤4000000000000000000:=by omega
  have m1:nr.length≤4000000:=by omega
  cases h2:aN ts (a1) [59] with
  |false=>simp only[go_sem,aM c1,aj hs (w:=[59]) rfl c1,h2,aa,an,aR,bo,aQ,Q9,reduceIte];exact BS.er (c:=6) (p:=pl ts en (a1)) (by decide) ((fb (ts:=ts) (en:=en) (c:=6) (p:=pl ts en (a1)) (by decide)).mono fun k e=>⟨rfl,by have hc:(6:Int)≠0:=(by decide);simp only[go_sem,fM,cX hc,dN hc,lZ hc,fE hc,eo hc,co hc,eS hc,fj hc,jI hc,bo,aa,e.1,e.2.1,e.2.2,aYa,aPa,apa]⟩)
  |true=>
  have SZ:=bB h2;simp only[go_sem,aM c1,aj hs (w:=[59]) rfl c1,h2,aa,an,aR,bo,aQ,Q9,reduceIte];simp only[go_sem,ip m1,dZ m1];exact BS.ok (kV (by omega) (by omega) (by omega) LI O7 ⟨by simp;omega,by simpa[cm] using Om,by simp⟩ rfl (by rw[ph];exact q19))
 |false=>simp only[go_sem,nY,ol,bx,bU,aa,an,aR,bo,aQ,Q9,reduceIte,hn,aJ b0,cg hs (w:=[42]) rfl,ae hs (w:=[42]) rfl b0,cg hs (w:=[105,102]) rfl,ae hs (w:=[105,102]) rfl b0,cg hs (w:=[119,104,105,108,101]) rfl,ae hs (w:=[119,104,105,108,101]) rfl b0,cg hs (w:=[102,111,114]) rfl,ae hs (w:=[102,111,114]) rfl b0,cg hs (w:=[114,101,97,100]) rfl,ae hs (w:=[114,101,97,100]) rfl b0,cg hs (w:=[112,114,105,110,116]) rfl,ae hs (w:=[112,114,105,110,116]) rfl b0,cg hs (w:=[97,115,115,101,114,116]) rfl,ae hs (w:=[97,115,115,101,114,116]) rfl b0,cg hs (w:=[115,116,111,112]) rfl,ae hs (w:=[115,116,111,112]) rfl b0,cg hs (w:=[114,101,116,117,114,110]) rfl,ae hs (w:=[114,101,116,117,114,110]) rfl b0,oT,MZ,uj,tI,oS,ui,qE,yz,qF,py,Kj];exact BS.er (c:=6) (p:=pl ts en a) (by decide) ((fb (ts:=ts) (en:=en) (c:=6) (p:=pl ts en a) (by decide)).mono fun k e=>⟨rfl,by have hc:(6:Int)≠0:=(by decide);simp only[go_sem,fM,cX hc,dN hc,lZ hc,fE hc,eo hc,co hc,eS hc,fj hc,jI hc,bo,aa,e.1,e.2.1,e.2.2,aYa,aPa,apa]⟩)
theorem XW(hs:pu ts):∀ m a,ts.length - a≤m→∀ a',a≤a'→∀ d ns,yi ts a' d ns→StB ts en a' d ns∧BlB ts en a' d ns:=by
 intro m;induction m with
 |zero=>intro a hm a' ha d ns hp;exact⟨Qt hs hp fun a2 d2 qy h2 p2=>by have:=p2.hi;have:=hp.hi;omega,Ms hs hp fun a2 d2 qy h2 p2=>by have:=p2.hi;have:=hp.hi;omega⟩
 |succ m ih=>intro a hm a' ha d ns hp;exact⟨Qt hs hp fun a2 d2 qy h2 p2=>(ih (a+1) (by omega) a2 (by omega) d2 qy p2).2,Ms hs hp fun a2 d2 qy h2 p2=>(ih (a+1) (by omega) a2 (by omega) d2 qy p2).1⟩
theorem aap(hs:pu ts)(hp:yi ts a d ns):StB ts en a d ns:=(XW hs _ a (axa _) a (axa _) d ns hp).1
end
end Go.Fx.R5
namespace Go.Fx.R5
open Go Go.Fx
section
variable {ts:List zD} {en:Int} {c p:Int} {a d:Nat} {ns:List eu}
def FN(pre:XI)(r:Ot)(o:Option ((Int×List eu×XI×Unit)⊕(Int×Int×Unit))):Prop:=match r with
 |.ok l a ns=>o=some (.inl ((a:Int),ns,pre++l,()))
 |.er c p=>o=some (.inr (c,p,()))
def FO(r:Ot)(o:Option (Int×List eu×Int×Int×XI×Unit)):Prop:=match r with
 |.ok l a ns=>o=some ((a:Int),ns,0,0,l,())
 |.er c p=>∃(l:XI) (a:Nat) (ns:List eu),o=some ((a:Int),ns,c,p,l,())∧l.length≤2000000
theorem Ch{w:ab}(h:¬ a<ts.length):aN ts a w=false:=by
 cases h':aN ts a w with
 |false=>rfl
 |true=>exact absurd (bB h') h
theorem Rt{k:Int}(hk:wL k=true)(hs0:cm k []=true)(h4:k≠4){l:XI}{y:eu}(hy:y.1=k)(Iy:y.2.2.2.2=[])(h:jc wL ns l)(hp:jC ns):
  jC (ns++[y])∧jc wL (ns++[y]) (l++[(ns.length:Int)]):=by
 obtain⟨k',a',n',s',l'⟩:=y;simp only at hy Iy;subst hy;subst Iy;refine⟨hp.add (tg hs0 h4),(h.up (aMa _ _)).add (by omega) (by simp;omega) (by rw[ru];exact hk)⟩
theorem TK(hs:pu ts):∀ m a (ns:List eu) (l:XI),ts.length - a≤m→yi ts a d ns→jc wL ns l→1≤l.length→l.length≤a→
  ∃ r,Oq ts wL a ns l.length (jQ ns l) r∧cz fun q k=>FN [] r (cf q k ts en (a:Int) ns l)∧FO (qB ts en [41] r) (au q k ts en (a:Int) ns 0 0 l):=by
 have h7:=hs.len;intro m;induction m with
 |zero=>
  intro a ns l hm hp hk hl PJ;have bf:¬ a<ts.length:=by omega
  have b0:a≤4000000000000000000:=by have:=hp.hi;omega
  have bk:l.length≤4000000:=by have:=hp.hi;omega
  have bl:(l.length:Int) > 0:=by omega
  have hc:(6:Int)≠0:=by decide
  refine⟨.ok l a ns,⟨by omega,hp.hi,by omega,aXa _,hp.all,hk,by omega,by omega⟩,cz.succ (cz.succ (cz.of fun q k=>⟨?_,?_⟩))⟩
  ·simp only[go_sem,FN,aVa,cf,aJ b0,Ch bf,reduceIte]
  ·simp only[go_sem,qB,Ch bf,reduceIte]
   refine⟨l++[0],a,ns,?_,by have:=hp.hi;simp;omega⟩
   rw[au];simp only[go_sem,aa,cg hs (w:=[41]) rfl,Ch bf,bl,aj hs (w:=[44]) rfl b0,reduceIte,bo,eo hc,co hc,cB bk];rw[au];simp only[go_sem,aa,show((6:Int)==0)=false from rfl]
 |succ m ih=>
  intro a ns l hm hp hk hl PJ;obtain⟨p1,p2,p3,p4⟩:=hp;have b0:a≤4000000000000000000:=by omega
  have b1:a+1≤4000000000000000000:=by omega
  have bn:ns.length≤4000000:=by omega
  have bk:l.length≤4000000:=by omega
  have bl:(l.length:Int) > 0:=by omega
  have hc:(6:Int)≠0:=by decide
  cases F5:aN ts a [44] with
  |true=>
   have mH:aN ts a [41]=false:=aC F5 rfl;have bf:=bB F5;cases hn:uq ts (a+1) 1 with
   |false=>
    refine⟨.er 6 (pl ts en (a+1)),hc,cz.succ (cz.succ (cz.of fun q k=>⟨?_,l++[0],a+1,ns,?_,by simp;omega⟩))⟩
    ·simp only[go_sem,FN,cf,aJ b0,F5,reduceIte,gh b1 bn,hn]
    ·rw[au]
     simp only[go_sem,aa,cg hs (w:=[41]) rfl,mH,F5,bl,aj hs (w:=[44]) rfl b0,reduceIte,bo,df b1,hn,co hc,cB bk];rw[au];simp only[go_sem,aa,show((6:Int)==0)=false from rfl]
   |true=>
    have S1:=jT hn;obtain⟨x1,x2⟩:=Rt (k:=5) (y:=(5,(tk ts (a+1)).2.1,0,(tk ts (a+1)).2.2.1,[])) rfl rfl (by decide) rfl rfl hk p4
    obtain⟨r,gi,gr⟩:=ih (a+1+1) (ns++[(5,(tk ts (a+1)).2.1,0,(tk ts (a+1)).2.2.1,[])]) (l++[(ns.length:Int)]) (by omega) ⟨by omega,p2,by simp;omega,x1⟩ x2 (by simp) (by simp;omega)
    refine⟨r,gi.from (by omega) (by simp;omega) (aMa _ _) (by simp;omega) (by rw[qI,ph,om,zO,pW (aMa _ _) hk.v];simp;omega),cz.succ (gr.mono fun q k e=>⟨?_,?_⟩)⟩
    ·simp only[go_sem,cf,aJ b0,F5,reduceIte,gh b1 bn,hn,cB bk]
     exact e.1
    ·simp only[go_sem,au,aa,cg hs (w:=[41]) rfl,mH,F5,bl,aj hs (w:=[44]) rfl b0,reduceIte,bo,df b1,hn,tW S1,dZ bn,cB bk]
     exact e.2
  |false=>
   cases mH:aN ts a [41] with
   |true=>
    refine⟨.ok l a ns,⟨by omega,p1,by omega,aXa _,p4,hk,by omega,by omega⟩,cz.succ (cz.of fun q k=>⟨?_,?_⟩)⟩
    ·simp only[go_sem,FN,aVa,cf,aJ b0,F5,reduceIte]
    ·simp only[go_sem,qB,mH,reduceIte,FO,au,aa,cg hs (w:=[41]) rfl]
   |false=>
    refine⟨.ok l a ns,⟨by omega,p1,by omega,aXa _,p4,hk,by omega,by omega⟩,cz.succ (cz.succ (cz.of fun q k=>⟨?_,?_⟩))⟩
    ·simp only[go_sem,FN,aVa,cf,aJ b0,F5,reduceIte]
    ·simp only[go_sem,qB,mH,reduceIte]
     refine⟨l++[0],a,ns,?_,by simp;omega⟩
     rw[au];simp only[go_sem,aa,cg hs (w:=[41]) rfl,mH,F5,bl,aj hs (w:=[44]) rfl b0,reduceIte,bo,eo hc,co hc,cB bk];rw[au];simp only[go_sem,aa,show((6:Int)==0)=false from rfl]
theorem TJ(hs:pu ts)(hp:yi ts a d ns):∃ r,Oq ts wL a ns 0 0 r∧(∀ l' a' eD,r=.ok l' a' eD→aN ts a' [41]=true)∧Ev fun k=>
    (∀ f:XI×Int×List eu→IT,(aa f fun cJ=>(aG ts (a:Int) [41]).bind fun r5=>
      bif !r5.1 then
       (fd ts en r5.2.1 ns 5).bind fun r=>match r with
       |.inl r6=>
        (bE ([]:XI) ([r6.1])).bind fun l=>
        (cf k k ts en r6.2.1 r6.2.2.1 l).bind fun r=>match r with
        |.inl o=>
         (a8 ts en o.1 ([41]:ab)).bind fun r=>match r with
         |.inl r8=>
          cJ (o.2.2.1,r8.1,o.2.1)
         |.inr r9=>
          some (.inr (r9.1,r9.2.1,()))
        |.inr o2=>
         some (.inr (o2.1,o2.2.1,()))
       |.inr r7=>
        some (.inr (r7.1,r7.2.1,()))
      else
       cJ ([],r5.2.1,ns))=match r with | .ok l' a' eD=>f (l',((a' + 1:Nat):Int),eD) | .er c p=>some (.inr (c,p,())))∧FO r (au k k ts en (a:Int) ns 0 0 []):=by
  have h7:=hs.len;obtain⟨p1,p2,p3,p4⟩:=hp;have b0:a≤4000000000000000000:=by omega
  have bn:ns.length≤4000000:=by omega
  have hc:(6:Int)≠0:=by decide
  have a0:∀ v:Int,bE ([]:XI) [v]=some [v]:=fun v=>by simp[bE]
  cases mH:aN ts a [41] with
  |true=>
    have hS:Ev fun k=>FO (.ok [] a ns) (au k k ts en (a:Int) ns 0 0 []):=
      cz.j9 (p2:=fun q k=>FO (.ok [] a ns) (au q k ts en (a:Int) ns 0 0 [])) (cz.succ (cz.of fun q k=>by
        simp only[go_sem,FO,au,aa,cg hs (w:=[41]) rfl,mH]))
    refine⟨.ok [] a ns,⟨by omega,p1,by omega,aXa _,p4,jc.nil,by simp,by simp[jQ]⟩,(fun _ _ _ h=>by cases h;exact mH),hS.mono fun k e=>⟨fun f=>?_,e⟩⟩
    simp only[go_sem,aa,aJ b0,mH,reduceIte]
  |false=>
  cases hn:uq ts a 1 with
  |false=>
    have hL:Ev fun k=>FO (.er 6 (pl ts en a)) (au k k ts en (a:Int) ns 0 0 []):=
      cz.j9 (p2:=fun q k=>FO (.er 6 (pl ts en a)) (au q k ts en (a:Int) ns 0 0 [])) (cz.succ (cz.succ (cz.of fun q k=>by
        refine⟨[0],a,ns,?_,by simp⟩
        rw[au];simp only[go_sem,aa,cg hs (w:=[41]) rfl,mH,aza,show(((0:Nat):Int) > 0)=False from by simp,bo,df b0,hn,reduceIte,co hc,a0]
        rw[au];simp only[go_sem,aa,show((6:Int)==0)=false from rfl])))
    refine⟨.er 6 (pl ts en a),hc,(fun _ _ _ h=>by cases h),hL.mono fun k e=>⟨fun f=>?_,e⟩⟩
    simp only[go_sem,aa,aJ b0,mH,reduceIte,gh b0 bn,hn]
  |true=>
    have bf:=jT hn;obtain⟨x1,x2⟩:=Rt (k:=5) (y:=(5,(tk ts a).2.1,0,(tk ts a).2.2.1,[])) rfl rfl (by decide) rfl rfl (jc.nil (ns:=ns)) p4
    obtain⟨r,gi,gr⟩:=TK (en:=en) (d:=d) hs _ (a+1) (ns++[(5,(tk ts a).2.1,0,(tk ts a).2.2.1,[])]) ([]++[(ns.length:Int)]) (axa _) ⟨by omega,p2,by simp;omega,x1⟩ x2 (by simp) (by simp)
    have hI:Ev fun k=>FN [] r (cf k k ts en ((a+1:Nat):Int) (ns++[(5,(tk ts a).2.1,0,(tk ts a).2.2.1,[])]) [(ns.length:Int)]):=(gr.mono fun q k e=>e.1).j9;have hS:Ev fun k=>FO (qB ts en [41] r) (au k k ts en (a:Int) ns 0 0 []):=
      cz.j9 (p2:=fun q k=>FO (qB ts en [41] r) (au q k ts en (a:Int) ns 0 0 [])) (cz.succ (gr.mono fun q k e=>by
        simp only[go_sem,au,aa,cg hs (w:=[41]) rfl,mH,aza,show(((0:Nat):Int) > 0)=False from by simp,bo,df b0,hn,reduceIte,tW bf,dZ bn,a0]
        exact e.2))
    have hE:=hI.and hS;cases r with
    |er c p=>
      refine⟨.er c p,gi,(fun _ _ _ h=>by cases h),hE.mono fun k e=>⟨fun f=>?_,e.2⟩⟩
      simp only[go_sem,aa,aJ b0,mH,reduceIte,gh b0 bn,hn,a0];rw[show cf k k ts en ((a+1:Nat):Int) _ [(ns.length:Int)]=_ from e.1]
      rfl
    |ok l' a' eD=>
      have gi':LOk ts wL (a+1) (ns++[(5,(tk ts a).2.1,0,(tk ts a).2.2.1,[])]) ([]++[(ns.length:Int)]).length (jQ (ns++[(5,(tk ts a).2.1,0,(tk ts a).2.2.1,[])]) ([]++[(ns.length:Int)])) l' a' eD:=gi;obtain⟨g1,g2,g3,g4,g5,g6,g7,g8⟩:=gi';rw[aVa,ph,om,zO] at g8;simp only[aua,aAa,aza] at g3 g7 g8;have b4:a'≤4000000000000000000:=by omega
      cases h3:aN ts a' [41] with
      |true=>
        refine⟨.ok l' a' eD,⟨by omega,g2,by omega,(aMa _ _).trans g4,g5,g6,by omega,by omega⟩,(fun _ _ _ h=>by cases h;exact h3),hE.mono fun k e=>⟨fun f=>?_,?_⟩⟩
        · simp only[go_sem,aa,aJ b0,mH,reduceIte,gh b0 bn,hn,a0]
          rw[show cf k k ts en ((a+1:Nat):Int) _ [(ns.length:Int)]=_ from e.1]
          simp only[go_sem,aM b4,h3,reduceIte,aVa]
        · have e2:=e.2
          simp only[qB,h3,reduceIte] at e2;exact e2
      |false=>
        refine⟨.er 6 (pl ts en a'),hc,(fun _ _ _ h=>by cases h),hE.mono fun k e=>⟨fun f=>?_,?_⟩⟩
        · simp only[go_sem,aa,aJ b0,mH,reduceIte,gh b0 bn,hn,a0]
          rw[show cf k k ts en ((a+1:Nat):Int) _ [(ns.length:Int)]=_ from e.1]
          simp only[go_sem,aM b4,h3,reduceIte]
        · have e2:=e.2
          simp only[go_sem,qB,h3,reduceIte] at e2;exact e2
theorem UW(hs:pu ts){kk:Int}(hk1:wL kk=true)(hk2:cm kk []=true)(hk4:kk≠4)(pre:XI)(ae6:pre.length≤1000000):∀ m a (ns:List eu) (l:XI),ts.length - a≤m→yi ts a d ns→jc wL ns l→l.length≤a→
  ∃ r,Oq ts wL a ns l.length (jQ ns l) r∧cz fun q k=>FN pre r (cP q k ts en kk (a:Int) ns (pre++l))∧FO r (db q k ts en kk (a:Int) ns 0 0 l):=by
 have h7:=hs.len;intro m;induction m with
 |zero=>
  intro a ns l hm hp hk PJ;have bf:¬ a<ts.length:=by omega
  have b0:a≤4000000000000000000:=by have:=hp.hi;omega
  refine⟨.ok l a ns,⟨by omega,hp.hi,by omega,aXa _,hp.all,hk,by omega,by omega⟩,cz.succ (cz.of fun q k=>⟨?_,?_⟩)⟩
  ·simp only[go_sem,FN,cP,aJ b0,Ch bf,reduceIte]
  ·simp only[go_sem,FO,db,ae hs (w:=[44]) rfl b0,Ch bf,reduceIte]
 |succ m ih=>
  intro a ns l hm hp hk PJ;obtain⟨p1,p2,p3,p4⟩:=hp;have b0:a≤4000000000000000000:=by omega
  have b1:a+1≤4000000000000000000:=by omega
  have bn:ns.length≤4000000:=by omega
  have bk:l.length≤4000000:=by omega
  have bp:(pre++l).length≤4000000:=by simp;omega
  have hc:(6:Int)≠0:=by decide
  cases F5:aN ts a [44] with
  |false=>
   refine⟨.ok l a ns,⟨by omega,p1,by omega,aXa _,p4,hk,by omega,by omega⟩,cz.succ (cz.of fun q k=>⟨?_,?_⟩)⟩
   ·simp only[go_sem,FN,cP,aJ b0,F5,reduceIte]
   ·simp only[go_sem,FO,db,ae hs (w:=[44]) rfl b0,F5,reduceIte]
  |true=>
   have bf:=bB F5;cases hn:uq ts (a+1) 1 with
   |false=>
    refine⟨.er 6 (pl ts en (a+1)),hc,cz.succ (cz.succ (cz.of fun q k=>⟨?_,l++[0],a+1,ns,?_,by simp;omega⟩))⟩
    ·simp only[go_sem,FN,cP,aJ b0,F5,reduceIte,gh b1 bn,hn]
    ·rw[db]
     simp only[go_sem,ae hs (w:=[44]) rfl b0,F5,reduceIte,bo,df b1,hn,co hc,cB bk];rw[db];simp only[go_sem,dN hc]
   |true=>
    have S1:=jT hn;obtain⟨x1,x2⟩:=Rt (k:=kk) (y:=(kk,(tk ts (a+1)).2.1,0,(tk ts (a+1)).2.2.1,[])) hk1 hk2 hk4 rfl rfl hk p4;obtain⟨r,gi,gr⟩:=ih (a+1+1) (ns++[(kk,(tk ts (a+1)).2.1,0,(tk ts (a+1)).2.2.1,[])]) (l++[(ns.length:Int)]) (by omega) ⟨by omega,p2,by simp;omega,x1⟩ x2 (by simp;omega)
    refine⟨r,gi.from (by omega) (by simp;omega) (aMa _ _) (by simp;omega) (by rw[qI,ph,om,zO,pW (aMa _ _) hk.v];simp;omega),cz.succ (gr.mono fun q k e=>⟨?_,?_⟩)⟩
    ·simp only[go_sem,cP,aJ b0,F5,reduceIte,gh b1 bn,hn,cB bp,a5a]
     exact e.1
    ·simp only[go_sem,db,ae hs (w:=[44]) rfl b0,F5,reduceIte,bo,df b1,hn,tW S1,dZ bn,cB bk]
     exact e.2
theorem Tg(hs:pu ts)(pre:XI)(ae6:pre.length≤1000000):∀ m a (ns:List eu) (l:XI),ts.length - a≤m→yi ts a d ns→jc wL ns l→l.length≤a→
  ∃ r,Oq ts wL a ns l.length (jQ ns l) r∧cz fun q k=>FN pre r (cD q k ts en (a:Int) ns (pre++l))∧FO r (da q k ts en (a:Int) ns 0 0 l):=by
 have h7:=hs.len;intro m;induction m with
 |zero=>
  intro a ns l hm hp hk PJ;have bf:¬ a<ts.length:=by omega
  have b0:a≤4000000000000000000:=by have:=hp.hi;omega
  refine⟨.ok l a ns,⟨by omega,hp.hi,by omega,aXa _,hp.all,hk,by omega,by omega⟩,cz.succ (cz.of fun q k=>⟨?_,?_⟩)⟩
  ·simp only[go_sem,FN,cD,aa,tx b0,Ch bf]
  ·simp only[go_sem,FO,da,aa,cg hs (w:=[118,97,114]) rfl,cg hs (w:=[114,101,102]) rfl,Ch bf]
 |succ m ih=>
  intro a ns l hm hp hk PJ;obtain⟨p1,p2,p3,p4⟩:=hp;have b0:a≤4000000000000000000:=by omega
  have b1:a+1≤4000000000000000000:=by omega
  have bn:ns.length≤4000000:=by omega
  have bk:l.length≤4000000:=by omega
  have bp:(pre++l).length≤4000000:=by simp;omega
  have hc:(6:Int)≠0:=by decide
  by_cases hv:aN ts a [118,97,114]=true∨aN ts a [114,101,102]=true
  ·have bf:a<ts.length:=hv.elim bB bB
   obtain⟨kk,hk1,hk2,hk4,WI,WJ⟩:∃ kk:Int,wL kk=true∧cm kk []=true∧kk≠4∧
     (∀ q k,cD q (k+1) ts en (a:Int) ns (pre++l)=(fd ts en ((a+1:Nat):Int) ns kk).bind fun r=>match r with
      |.inl rW=>(bE (pre++l) ([rW.1])).bind fun l2=>(cP q q ts en kk rW.2.1 rW.2.2.1 l2).bind fun r=>match r with
       |.inl o3=>(a8 ts en o3.1 ([59]:ab)).bind fun r=>match r with
        |.inl vB=>cD q k ts en vB.1 o3.2.1 o3.2.2.1
        |.inr y8=>some (.inr (y8.1,y8.2.1,()))
       |.inr o4=>some (.inr (o4.1,o4.2.1,()))
      |.inr qX=>some (.inr (qX.1,qX.2.1,())))∧
     (∀ q k,da q (k+1) ts en (a:Int) ns 0 0 l=(dl ts ((a+1:Nat):Int) en).bind fun r4=>(dI ts ((a+1:Nat):Int) en 0 0).bind fun r5=>
      (aW ns r5.2.2.1 (kk,r4.1,0,r5.1,[])).bind fun r6=>(bE l ([r6.1])).bind fun l2=>
      (db q q ts en kk r5.2.1 r6.2.1 r5.2.2.1 r5.2.2.2.1 l2).bind fun o=>(aO ts o.1 en o.2.2.1 o.2.2.2.1 ([59]:ab)).bind fun r7=>
      da q k ts en r7.1 o.2.1 r7.2.1 r7.2.2.1 o.2.2.2.2.1):=by
    rcases hv with hv|hv
    ·have hr:aN ts a [114,101,102]=false:=aC hv rfl
     exact⟨6,rfl,rfl,by decide,fun q k=>by simp only[go_sem,cD,aa,tx b0,hv,hr,ag (show a<_ by omega)];rfl,
      fun q k=>by simp only[go_sem,da,aa,cg hs (w:=[118,97,114]) rfl,cg hs (w:=[114,101,102]) rfl,hv,hr,ag (show a<_ by omega)]⟩
    ·have hr:aN ts a [118,97,114]=false:=aC hv rfl
     exact⟨7,rfl,rfl,by decide,fun q k=>by simp only[go_sem,cD,aa,tx b0,hv,hr,ag (show a<_ by omega)];rfl,
      fun q k=>by simp only[go_sem,da,aa,cg hs (w:=[118,97,114]) rfl,cg hs (w:=[114,101,102]) rfl,hv,hr,ag (show a<_ by omega)]⟩
   cases hn:uq ts (a+1) 1 with
   |false=>
    refine⟨.er 6 (pl ts en (a+1)),hc,?_⟩;have hL:Ev fun q=>∃ l',db q q ts en kk ((a+1:Nat):Int) ns 6 (pl ts en (a+1)) (l++[0])=some (((a+1:Nat):Int),ns,6,pl ts en (a+1),l',())∧l'.length≤2000000:=
     cz.j9 (p2:=fun q k=>∃ l',db q k ts en kk ((a+1:Nat):Int) ns 6 (pl ts en (a+1)) (l++[0])=some (((a+1:Nat):Int),ns,6,pl ts en (a+1),l',())∧l'.length≤2000000) (cz.succ (cz.of fun q k=>⟨l++[0],by simp only[go_sem,db,dN hc],by simp;omega⟩))
    refine cz.succ (cz.succ (hL.tn.mono fun q k e=>?_));obtain⟨l',e,LY⟩:=e;refine⟨?_,l',a+1,ns,?_,LY⟩
    ·simp only[go_sem,FN,WI,gh b1 bn,hn,reduceIte]
    ·rw[WJ]
     simp only[go_sem,bo,df b1,hn,reduceIte,co hc,cB bk,e,cX hc];rw[da];simp only[go_sem,aa,lZ hc]
   |true=>
    have S1:=jT hn;obtain⟨x1,x2⟩:=Rt (k:=kk) (y:=(kk,(tk ts (a+1)).2.1,0,(tk ts (a+1)).2.2.1,[])) hk1 hk2 hk4 rfl rfl hk p4;obtain⟨r,gi,gr⟩:=UW (en:=en) (d:=d) hs hk1 hk2 hk4 pre ae6 _ (a+1+1) (ns++[(kk,(tk ts (a+1)).2.1,0,(tk ts (a+1)).2.2.1,[])]) (l++[(ns.length:Int)]) (axa _) ⟨by omega,p2,by simp;omega,x1⟩ x2 (by simp;omega)
    have gr:=gr.j9;cases r with
    |er c p=>
     have hc:c≠0:=gi;refine⟨.er c p,gi,cz.succ (cz.succ (gr.tn.mono fun q k e=>?_))⟩;obtain⟨e1,l',a',eD,e2,LY⟩:=e;refine⟨?_,l',a',eD,?_,LY⟩
     ·simp only[go_sem,FN,WI,gh b1 bn,hn,reduceIte,cB bp,a5a]
      rw[show cP q q ts en kk _ _ _=_ from e1];rfl
     ·rw[WJ]
      simp only[go_sem,bo,df b1,hn,reduceIte,tW S1,dZ bn,cB bk,e2,cX hc];rw[da];simp only[go_sem,aa,lZ hc]
    |ok l' a' eD=>
     have gi':LOk ts wL (a+1+1) (ns++[(kk,(tk ts (a+1)).2.1,0,(tk ts (a+1)).2.2.1,[])]) (l++[(ns.length:Int)]).length (jQ (ns++[(kk,(tk ts (a+1)).2.1,0,(tk ts (a+1)).2.2.1,[])]) (l++[(ns.length:Int)])) l' a' eD:=gi;obtain⟨g1,g2,g3,g4,g5,g6,g7,g8⟩:=gi';rw[qI,ph,om,zO,pW (aMa _ _) hk.v] at g8;simp only[aua,aAa,aza] at g3 g7 g8;have b4:a'≤4000000000000000000:=by omega
     cases JV:aN ts a' [59] with
     |false=>
      refine⟨.er 6 (pl ts en a'),hc,cz.succ (cz.succ (gr.tn.mono fun q k e=>?_))⟩;obtain⟨e1,e2⟩:=e;refine⟨?_,l',a',eD,?_,by omega⟩
      ·simp only[go_sem,FN,WI,gh b1 bn,hn,reduceIte,cB bp,a5a]
       rw[show cP q q ts en kk _ _ _=_ from e1]
       simp only[go_sem,aM b4,JV,reduceIte]
      ·rw[WJ]
       simp only[go_sem,bo,df b1,hn,reduceIte,tW S1,dZ bn,cB bk];rw[show db q q ts en kk _ _ 0 0 _=_ from e2]
       simp only[go_sem,aj hs (w:=[59]) rfl b4,JV,reduceIte];rw[da];simp only[go_sem,aa,lZ hc]
     |true=>
      have agv:=bB JV;obtain⟨r,fi,fr⟩:=ih (a' + 1) eD l' (by omega) ⟨by omega,p2,by omega,g5⟩ g6 (by omega)
      refine⟨r,fi.from (by omega) (by omega) ((aMa _ _).trans g4) (by omega) (by omega),cz.succ ((gr.tn.and fr).mono fun q k e=>?_)⟩
      obtain⟨⟨e1,e2⟩,e3,e4⟩:=e;refine⟨?_,?_⟩
      ·simp only[go_sem,WI,gh b1 bn,hn,reduceIte,cB bp,a5a]
       rw[show cP q q ts en kk _ _ _=_ from e1]
       simp only[go_sem,aM b4,JV,reduceIte];exact e3
      ·rw[WJ]
       simp only[go_sem,bo,df b1,hn,reduceIte,tW S1,dZ bn,cB bk];rw[show db q q ts en kk _ _ 0 0 _=_ from e2]
       simp only[go_sem,aj hs (w:=[59]) rfl b4,JV,reduceIte];exact e4
  ·simp only[cia,bCa] at hv
   refine⟨.ok l a ns,⟨by omega,p1,by omega,aXa _,p4,hk,by omega,by omega⟩,cz.succ (cz.of fun q k=>⟨?_,?_⟩)⟩
   ·simp only[go_sem,FN,cD,aa,tx b0,hv.1,hv.2]
   ·simp only[go_sem,FO,da,aa,cg hs (w:=[118,97,114]) rfl,cg hs (w:=[114,101,102]) rfl,hv.1,hv.2]
end
end Go.Fx.R5
namespace Go.Fx.R5
open Go Go.Fx
section
variable {ts:List zD} {en:Int} {c p:Int} {a d:Nat} {ns:List eu}
theorem Pn(l:XI)(q:Nat):∀(m i k:Nat) (cL:XI),m+i=l.length→m<k→cL.length+m≤4000000→l.length≤4000000→eO q k l cL (i:Int)=some (cL++l.drop i,())
 |0,i,k+1,cL,h,_,h2,_=>by
  have:¬ i<l.length:=by omega
  have e:l.drop i=[]:=by simp;omega
  rw[e];simp[eO,this]
 |m+1,i,k+1,cL,h,hk,h2,h3=>by
  have bf:i<l.length:=by omega
  have e:l.drop i=l[i]::l.drop (i+1):=aLa bf;have e2:=Pn l q m (i+1) k (cL++[l[i]]) (by omega) (by omega) (by simp;omega) h3
  simp only[go_sem,eO,Q5,bf,cF bf,aDa,cB (show cL.length≤4000000 by omega),ag (show i<_ by omega),e2,e]
  simp
theorem SH(l cL:XI)(k:Nat)(hk:l.length<k)(h:cL.length+l.length≤4000000):eO k k l cL 0=some (cL++l,()):=
 Pn l k l.length 0 k cL rfl hk h (by omega)
theorem af8(l cL:XI)(h:cL.length+l.length≤4000000):Ev fun k=>eO k k l cL 0=some (cL++l,()):=⟨l.length+1,fun k hk=>SH l cL k (by omega) h⟩
theorem V6(q:Nat):∀ k t e p n d c a b,eP q k t e p n d c a b=eB (eJ q) (ml q) (jh q) q k t e p n d c a b
 |0,_,_,_,_,_,_,_,_=>rfl
 |k+1,t,e,p,n,d,c,a,b=>by simp only[eP,eB,V6 q k]
theorem aeA(hc:c≠0):Ev fun k=>(∀(a:Nat) (ns:List eu) (l:XI),au k k ts en (a:Int) ns c p l=some ((a:Int),ns,c,p,l,()))∧
  (∀(a:Nat) (ns:List eu) (d:Int) (l:XI),eP k k ts en (a:Int) ns d c p l=some ((a:Int),ns,d,c,p,l,())):=
 cz.j9 (p2:=fun q k=>(∀(a:Nat) (ns:List eu) (l:XI),au q k ts en (a:Int) ns c p l=some ((a:Int),ns,c,p,l,()))∧
  (∀(a:Nat) (ns:List eu) (d:Int) (l:XI),eP q k ts en (a:Int) ns d c p l=some ((a:Int),ns,d,c,p,l,()))) (cz.succ (cz.of fun q k=>⟨fun a ns l=>by
   simp only[go_sem,au,aa,Q6.2 hc],fun a ns d l=>by
   simp only[go_sem,eP,aa,Q6.2 hc]⟩))
theorem MP(hc:c≠0):Ev fun k=>(∀(a:Nat) (ns:List eu) (l:XI),au k k ts en (a:Int) ns c p l=some ((a:Int),ns,c,p,l,())):=(aeA hc).mono fun _ e=>e.1
theorem af5(hs:pu ts)(hp:yi ts a d ns):BS (yh ts (·==4) 1 a d ns) (fun k=>dd k ts en (a:Int) (d:Int) ns) (fun k=>dv k ts (a:Int) en ns (d:Int) 0 0):=by
 have h7:=hs.len;obtain⟨p1,p2,p3,p4⟩:=hp;have b0:a≤4000000000000000000:=by omega
 have b1:a+1≤4000000000000000000:=by omega
 have hc:(6:Int)≠0:=by decide
 cases hn:uq ts a 1 with
 |false=>
  refine BS.er (c:=6) (p:=pl ts en a) hc ((MP (ts:=ts) (en:=en) (p:=pl ts en a) hc).mono fun k e=>⟨?_,?_⟩)
  ·simp only[go_sem,dd,bS b0,hn,reduceIte]
  ·simp only[go_sem,dv,bo,df b0,hn,reduceIte,cX hc,e,eS hc,fM,apa,aPa]
 |true=>
 have bf:=jT hn;cases mL:aN ts (a+1) [40] with
 |false=>
  refine BS.er (c:=6) (p:=pl ts en (a+1)) hc ((MP (ts:=ts) (en:=en) (p:=pl ts en (a+1)) hc).mono fun k e=>⟨?_,?_⟩)
  ·simp only[go_sem,dd,bS b0,hn,aM b1,mL,reduceIte]
  ·simp only[go_sem,dv,bo,df b0,hn,aj hs (w:=[40]) rfl b1,mL,reduceIte,cX hc,e,eS hc,fM,apa,aPa]
 |true=>
 have S1:=bB mL;obtain⟨r,hi,hx,hr⟩:=TJ (en:=en) hs (a:=a+1+1) (d:=d) (ns:=ns) ⟨by omega,p2,by omega,p4⟩
 cases r with
 |er c p=>
  have hc:c≠0:=hi;refine BS.er (c:=c) (p:=p) hc (hr.mono fun k e=>?_);obtain⟨e1,l',a',eD,e2,_⟩:=e;refine⟨?_,?_⟩
  ·simp only[go_sem,dd,bS b0,hn,aM b1,mL,reduceIte]
   exact e1 _
  ·simp only[go_sem,dv,bo,df b0,hn,aj hs (w:=[40]) rfl b1,mL,reduceIte,e2,cX hc,eS hc,fM,apa,aPa]
 |ok l1 a1 nr=>
  have mH:=hx _ _ _ rfl;have hi':LOk ts wL (a+1+1) ns 0 0 l1 a1 nr:=hi;obtain⟨g1,g2,g3,g4,g5,g6,g7,g8⟩:=hi';have Y0:=bB mH;have c1:a1≤4000000000000000000:=by omega
  have c2:a1+1≤4000000000000000000:=by omega
  cases qx:aN ts (a1+1) [123] with
  |false=>
   refine BS.er (c:=6) (p:=pl ts en (a1+1)) hc (hr.mono fun k e=>?_);obtain⟨e1,e2⟩:=e;refine⟨?_,?_⟩
   ·simp only[go_sem,dd,bS b0,hn,aM b1,mL,reduceIte]
    refine(e1 _).trans ?_;simp only[go_sem,reduceIte,an,aM c2,qx]
   ·simp only[go_sem,dv,bo,df b0,hn,aj hs (w:=[40]) rfl b1,mL,reduceIte,show au k k ts en ((a+1+1:Nat):Int) ns 0 0 []=_ from e2,aj hs (w:=[41]) rfl c1,mH,aj hs (w:=[123]) rfl c2,qx,eS hc,fM,apa,aPa]
  |true=>
  have ahe:=bB qx;by_cases hd:d<10
  rotate_left
  ·refine BS.er (c:=7) (p:=pl ts en (a1+1+1)) (by decide) (hr.mono fun k e=>?_)
   obtain⟨e1,e2⟩:=e;refine⟨?_,?_⟩
   ·simp only[go_sem,dd,bS b0,hn,aM b1,mL,reduceIte]
    refine(e1 _).trans ?_;simp only[go_sem,reduceIte,an,aM c2,qx,gU p2,hd]
   ·simp only[go_sem,dv,bo,df b0,hn,aj hs (w:=[40]) rfl b1,mL,reduceIte,show au k k ts en ((a+1+1:Nat):Int) ns 0 0 []=_ from e2,aj hs (w:=[41]) rfl c1,mH,aj hs (w:=[123]) rfl c2,qx,mf p2,hd,fM,apa,aPa]
  obtain⟨r,gi,gr⟩:=Tg (en:=en) (d:=d) hs l1 (by omega) _ (a1+1+1) nr [] (axa _) ⟨by omega,p2,by omega,g5⟩ jc.nil (by simp)
  have gr:=gr.j9;simp only[bha] at gr;cases r with
  |er c p=>
   have hc:c≠0:=gi;obtain⟨K,gr⟩:=gr;refine BS.er (c:=c) (p:=p) hc ?_;have cpn:Ev fun k=>∀ l':XI,l'.length≤2000000→eO k k l' l1 0=some (l1++l',()):=
    ⟨2000002,fun k hk l' h=>SH l' l1 k (by omega) (by omega)⟩
   refine((((hr.and ⟨K,gr⟩).and cpn).and (aeA (ts:=ts) (en:=en) (p:=p) hc))).mono fun k e=>?_;obtain⟨⟨⟨⟨e1,e2⟩,e3,l',a',eD,e4,LY⟩,e5⟩,_,e6⟩:=e;refine⟨?_,?_⟩
   ·simp only[go_sem,dd,bS b0,hn,aM b1,mL,reduceIte]
    refine(e1 _).trans ?_;simp only[go_sem,reduceIte,an,aM c2,qx,gU p2,hd,show cD k k ts en ((a1+1+1:Nat):Int) nr l1=_ from e3]
   ·simp only[go_sem,dv,bo,df b0,hn,aj hs (w:=[40]) rfl b1,mL,reduceIte,show au k k ts en ((a+1+1:Nat):Int) ns 0 0 []=_ from e2,aj hs (w:=[41]) rfl c1,mH,aj hs (w:=[123]) rfl c2,qx,mf p2,hd,pY,e4,e5 l' LY,e6,cX hc,co hc,cB (show(l1++l').length≤4000000 by simp;omega),fM,apa,aPa]
  |ok l2 a2 qy=>
   have gi':LOk ts wL (a1+1+1) nr ([]:XI).length (jQ nr []) l2 a2 qy:=gi;obtain⟨k1,k2,k3,k4,k5,k6,k7,k8⟩:=gi';rw[zO] at k8;simp only[aza] at k7;obtain⟨r,fi,fx,fr⟩:=N5 (en:=en) hs (d:=d+1) (by omega) (a0:=0) (fun a' eD h p=>aap hs p) _ a2 qy [] (axa _) (by omega) ⟨k2,by omega,by omega,k5⟩ jc.nil (by simp)
   have fI:Ev fun k=>Zk r (d+1:Nat) (bW (dq k) (dh k) (iq k) (gI k) k k ts en (a2:Int) ((d+1:Nat):Int) qy []):=(fr.mono fun _ _ e=>e.1).j9;have fS:Ev fun k=>OL [] r (d+1:Nat) (eP k k ts en (a2:Int) qy ((d+1:Nat):Int) 0 0 []):=(fr.mono fun _ _ e=>e.2).j9.mono fun k e=>by rw[V6];exact e
   have hcp:Ev fun k=>eO k k l2 l1 0=some (l1++l2,()):=af8 l2 l1 (by omega)
   cases r with
   |er c p=>
    have hc:c≠0:=fi;have fI2:Ev fun k=>dq k ts en (a2:Int) ((d+1:Nat):Int) qy (pl ts en (a1+1))=some (.inr (c,p,())):=Ev.succ (fI.mono fun k e=>by
     rw[IE,fT,show bW _ _ _ _ k k ts en (a2:Int) ((d+1:Nat):Int) qy []=_ from e];rfl)
    refine BS.er (c:=c) (p:=p) hc (((((hr.and gr).and fI2).and fS).and hcp).mono fun k e=>?_);obtain⟨⟨⟨⟨⟨e1,e2⟩,e3,e4⟩,e5⟩,l',a',eD,d',e6⟩,e7⟩:=e;refine⟨?_,?_⟩
    ·simp only[go_sem,dd,bS b0,hn,aM b1,mL,reduceIte]
     refine(e1 _).trans ?_;simp only[go_sem,reduceIte,an,aM c2,qx,gU p2,hd,show cD k k ts en ((a1+1+1:Nat):Int) nr l1=_ from e3,e5]
    ·simp only[go_sem,dv,bo,df b0,hn,aj hs (w:=[40]) rfl b1,mL,reduceIte,show au k k ts en ((a+1+1:Nat):Int) ns 0 0 []=_ from e2,aj hs (w:=[41]) rfl c1,mH,aj hs (w:=[123]) rfl c2,qx,mf p2,hd,pY,show da k k ts en ((a1+1+1:Nat):Int) nr 0 0 []=_ from e4,e7,e6,cX hc,co hc,cB (show(l1++l2).length≤4000000 by simp;omega),fM,apa,aPa]
   |ok l3 a3 L5=>
    have aeM:=fx _ _ _ rfl;have agv:=bB aeM;have fi':LOk ts OM a2 qy ([]:XI).length (jQ qy []) l3 a3 L5:=fi;obtain⟨j1,j2,j3,j4,j5,j6,j7,j8⟩:=fi';rw[zO] at j8;have c3:a3≤4000000000000000000:=by omega
    have m3:L5.length≤4000000:=by omega
    have tY:jC (L5++[(8,pl ts en (a1+1),0,[],l3)]):=j5.add ⟨j6.v,aak j6,by simp,by simp at j7 ⊢;omega⟩
    have m4:(L5++[(8,pl ts en (a1+1),0,[],l3)]:List eu).length≤4000000:=by simp;omega
    have fI2:Ev fun k=>dq k ts en (a2:Int) ((d+1:Nat):Int) qy (pl ts en (a1+1))=some (.inl ((L5.length:Int),((a3+1:Nat):Int),(d:Int),L5++[(8,pl ts en (a1+1),0,[],l3)],())):=Ev.succ (fI.mono fun k e=>by
     rw[IE,fT,show bW _ _ _ _ k k ts en (a2:Int) ((d+1:Nat):Int) qy []=_ from e]
     simp only[go_sem,ip m3,kG (show d≤_ by omega)])
    have kk:jc wL (L5++[(8,pl ts en (a1+1),0,[],l3)]) (l1++l2):=by
     have q1:=g6.up (k4.trans (j4.trans (aMa L5 [(8,pl ts en (a1+1),0,[],l3)])));have q2:=k6.up (j4.trans (aMa L5 [(8,pl ts en (a1+1),0,[],l3)]));refine⟨fun j hj=>?_,fun j hj=>?_⟩
     ·rcases ana.1 hj with hj|hj
      ·exact q1.v j hj
      ·exact q2.v j hj
     ·rcases ana.1 hj with hj|hj
      ·exact q1.c j hj
      ·exact q2.c j hj
    have bk:(l1++l2).length≤4000000:=by simp;omega
    refine⟨.ok _ (a3+1) d ((L5++[(8,pl ts en (a1+1),0,[],l3)])++[(4,(tk ts a).2.1,0,(tk ts a).2.2.1,l1++l2++[(L5.length:Int)])]),kV (by omega) (by omega) (by simp;omega) (g4.trans (k4.trans (j4.trans (aMa _ _)))) tY ⟨?_,?_,fun _=>?_,by simp;omega⟩ rfl (by rw[qI,qI,ph,om,pW (k4.trans (j4.trans (aMa _ _))) g6.v,pW (j4.trans (aMa _ _)) k6.v];simp;omega),((((hr.and gr).and fI2).and fS).and hcp).mono fun k e=>?_⟩
    ·intro j hj
     rcases ana.1 hj with hj|hj
     ·exact kk.v j hj
     ·rw[Q7.1 hj];simp;omega
    ·have:(l1++l2).all (fun j=>wL (kd (L5++[(8,pl ts en (a1+1),0,[],l3)]) j))=true:=aqa.2 kk.c
     have:((l1++l2).map (kd (L5++[(8,pl ts en (a1+1),0,[],l3)]))).all wL=true:=by rw[cOa];exact this
     rw[show List.map (kd (L5++[(8,pl ts en (a1+1),0,[],l3)])) (l1++l2++[(L5.length:Int)])=(l1++l2).map (kd (L5++[(8,pl ts en (a1+1),0,[],l3)]))++[8] by simp[ru]]
     show((_:XI).dropLast.all wL&&_)=true;rw[List.dropLast_concat,this];simp
    ·rcases(Qz hs bf).k with ⟨_,_,_,h⟩|⟨h,_⟩|⟨h,_⟩|⟨h,_⟩
     ·exact h
     ·rw[JW hn] at h;cases h
     ·rw[JW hn] at h;cases h
     ·rw[JW hn] at h;cases h
    ·obtain⟨⟨⟨⟨e1,e2⟩,e3,e4⟩,e5⟩,e6⟩:=e.1
     have e7:=e.2;refine⟨?_,?_⟩
     ·simp only[go_sem,uM,dd,bS b0,hn,aM b1,mL,reduceIte]
      refine(e1 _).trans ?_;simp only[go_sem,reduceIte,an,aM c2,qx,gU p2,hd,show cD k k ts en ((a1+1+1:Nat):Int) nr l1=_ from e3,e5,cB bk,ip m4]
     ·simp only[go_sem,L1,dv,bo,df b0,hn,aj hs (w:=[40]) rfl b1,mL,reduceIte,show au k k ts en ((a+1+1:Nat):Int) ns 0 0 []=_ from e2,aj hs (w:=[41]) rfl c1,mH,aj hs (w:=[123]) rfl c2,qx,mf p2,hd,pY,show da k k ts en ((a1+1+1:Nat):Int) nr 0 0 []=_ from e4,e7,show eP k k ts en (a2:Int) qy ((d+1:Nat):Int) 0 0 []=_ from e6,aj hs (w:=[125]) rfl c3,aeM,dZ m3,aVa,cB bk,dZ m4,tW bf,kG (show d≤_ by omega)]
end
end Go.Fx.R5
namespace Go.Fx.R5
open Go Go.Fx
section
variable {ts:List zD} {en:Int} {a d:Nat} {ns:List eu}
def Lz(r:Ot)(d:Int)(o:Option ((Int×Int×List eu×XI×Unit)⊕(Int×Int×Unit))):Prop:=match r with
 |.ok l a ns=>o=some (.inl ((a:Int),d,ns,l,()))
 |.er c p=>o=some (.inr (c,p,()))
theorem Yx{k:Int}(hk:FM k=true)(hs0:cm k []=true)(h4:k≠4){l:XI}{y:eu}(hy:y.1=k)(Iy:y.2.2.2.2=[])(h:jc FM ns l)(hp:jC ns):
  jC (ns++[y])∧jc FM (ns++[y]) (l++[(ns.length:Int)]):=by
 obtain⟨k',a',n',s',l'⟩:=y;simp only at hy Iy;subst hy;subst Iy;exact⟨hp.add (tg hs0 h4),(h.up (aMa _ _)).add (by omega) (by simp;omega) (by rw[ru];exact hk)⟩
theorem aey{c p:Int}(hc:c≠0):Ev fun k=>∀(a:Nat) (ns:List eu) (d:Int),fM c p (dv k ts (a:Int) en ns d c p):=
 (MP (ts:=ts) (en:=en) (p:=p) hc).mono fun k e a ns d=>by simp only[go_sem,dv,bo,eo hc,cX hc,e,eS hc,fM,apa,aPa]
theorem RT(hs:pu ts):∀ m a (ns:List eu) (l:XI),ts.length - a≤m→yi ts a 0 ns→jc FM ns l→l.length≤a→
  ∃ r,Oq ts FM a ns l.length (jQ ns l) r∧cz fun q k=>Lz r 0 (aL q k ts en (a:Int) 0 ns l)∧OL [] r 0 (az q k ts en (a:Int) ns 0 0 0 l):=by
 have h7:=hs.len;have hc:(6:Int)≠0:=by decide
 intro m;induction m with
 |zero=>
  intro a ns l hm hp hk PJ;have bf:¬ a<ts.length:=by omega
  exact⟨.ok l a ns,⟨by omega,hp.hi,by omega,aXa _,hp.all,hk,by omega,by omega⟩,cz.succ (cz.of fun q k=>⟨by simp only[go_sem,Lz,aL,Q5,bf],
   by simp only[go_sem,OL,aVa,az,aa,Q5,bf]⟩)⟩
 |succ m ih=>
  intro a ns l hm hp hk PJ;obtain⟨p1,p2,p3,p4⟩:=hp;by_cases bf:a<ts.length
  rotate_left
  ·exact⟨.ok l a ns,⟨by omega,p1,by omega,aXa _,p4,hk,by omega,by omega⟩,cz.succ (cz.of fun q k=>⟨by simp only[go_sem,Lz,aL,Q5,bf],
    by simp only[go_sem,OL,aVa,az,aa,Q5,bf]⟩)⟩
  have b0:a≤4000000000000000000:=by omega
  have b1:a+1≤4000000000000000000:=by omega
  have b2:a+1+1≤4000000000000000000:=by omega
  have b3:a+1+1+1≤4000000000000000000:=by omega
  have b4:a+1+1+1+1≤4000000000000000000:=by omega
  have b5:a+1+1+1+1+1≤4000000000000000000:=by omega
  have bn:ns.length≤4000000:=by omega
  have bk:l.length≤4000000:=by omega
  cases hA:aN ts a [97,114,114,97,121] with
  |true=>
   cases h1:uq ts (a+1) 1 with
   |false=>
    refine⟨.er 6 (pl ts en (a+1)),hc,cz.succ (cz.succ (cz.of fun q k=>⟨?_,l++[0],a+1,ns,0,?_⟩))⟩
    ·simp only[go_sem,Lz,aL,Q5,bf,aJ b0,reduceIte,bS b1,bS b3,aM b2,aM b4,aM b5,gh b1 bn,ip bn,cB bk,py,hA,h1]
    ·rw[az]
     simp only[go_sem,aa,Q5,bf,ae hs (w:=[97,114,114,97,121]) rfl b0,ae hs (w:=[118,97,114]) rfl b0,aj hs (w:=[102,117,110,99]) rfl b0,bo,df b1,aj hs (w:=[91]) rfl b2,o7 b3,aj hs (w:=[93]) rfl b4,aj hs (w:=[59]) rfl b5,aj hs (w:=[59]) rfl b2,reduceIte,dZ bn,cB bk,cX hc,yx hc,co hc,dN hc,eo hc,hA,h1];rw[az];simp only[go_sem,aa,show((6:Int)==0)=false from rfl]
   |true=>
   cases h2:aN ts (a+1+1) [91] with
   |false=>
    refine⟨.er 6 (pl ts en (a+1+1)),hc,cz.succ (cz.succ (cz.of fun q k=>⟨?_,l++[0],a+1+1,ns,0,?_⟩))⟩
    ·simp only[go_sem,Lz,aL,Q5,bf,aJ b0,reduceIte,bS b1,bS b3,aM b2,aM b4,aM b5,gh b1 bn,ip bn,cB bk,py,hA,h1,h2]
    ·rw[az]
     simp only[go_sem,aa,Q5,bf,ae hs (w:=[97,114,114,97,121]) rfl b0,ae hs (w:=[118,97,114]) rfl b0,aj hs (w:=[102,117,110,99]) rfl b0,bo,df b1,aj hs (w:=[91]) rfl b2,o7 b3,aj hs (w:=[93]) rfl b4,aj hs (w:=[59]) rfl b5,aj hs (w:=[59]) rfl b2,reduceIte,dZ bn,cB bk,cX hc,yx hc,co hc,dN hc,eo hc,hA,h1,h2];rw[az];simp only[go_sem,aa,show((6:Int)==0)=false from rfl]
   |true=>
   cases h3:uq ts (a+1+1+1) 2 with
   |false=>
    refine⟨.er 6 (pl ts en (a+1+1+1)),hc,cz.succ (cz.succ (cz.of fun q k=>⟨?_,l++[0],a+1+1+1,ns,0,?_⟩))⟩
    ·simp only[go_sem,Lz,aL,Q5,bf,aJ b0,reduceIte,bS b1,bS b3,aM b2,aM b4,aM b5,gh b1 bn,ip bn,cB bk,py,hA,h1,h2,h3]
    ·rw[az]
     simp only[go_sem,aa,Q5,bf,ae hs (w:=[97,114,114,97,121]) rfl b0,ae hs (w:=[118,97,114]) rfl b0,aj hs (w:=[102,117,110,99]) rfl b0,bo,df b1,aj hs (w:=[91]) rfl b2,o7 b3,aj hs (w:=[93]) rfl b4,aj hs (w:=[59]) rfl b5,aj hs (w:=[59]) rfl b2,reduceIte,dZ bn,cB bk,cX hc,yx hc,co hc,dN hc,eo hc,hA,h1,h2,h3];rw[az];simp only[go_sem,aa,show((6:Int)==0)=false from rfl]
   |true=>
   cases h4:aN ts (a+1+1+1+1) [93] with
   |false=>
    refine⟨.er 6 (pl ts en (a+1+1+1+1)),hc,cz.succ (cz.succ (cz.of fun q k=>⟨?_,l++[0],a+1+1+1+1,ns,0,?_⟩))⟩
    ·simp only[go_sem,Lz,aL,Q5,bf,aJ b0,reduceIte,bS b1,bS b3,aM b2,aM b4,aM b5,gh b1 bn,ip bn,cB bk,py,hA,h1,h2,h3,h4]
    ·rw[az]
     simp only[go_sem,aa,Q5,bf,ae hs (w:=[97,114,114,97,121]) rfl b0,ae hs (w:=[118,97,114]) rfl b0,aj hs (w:=[102,117,110,99]) rfl b0,bo,df b1,aj hs (w:=[91]) rfl b2,o7 b3,aj hs (w:=[93]) rfl b4,aj hs (w:=[59]) rfl b5,aj hs (w:=[59]) rfl b2,reduceIte,dZ bn,cB bk,cX hc,yx hc,co hc,dN hc,eo hc,hA,h1,h2,h3,h4];rw[az];simp only[go_sem,aa,show((6:Int)==0)=false from rfl]
   |true=>
   cases h5:aN ts (a+1+1+1+1+1) [59] with
   |false=>
    refine⟨.er 6 (pl ts en (a+1+1+1+1+1)),hc,cz.succ (cz.succ (cz.of fun q k=>⟨?_,l++[0],a+1+1+1+1+1,ns,0,?_⟩))⟩
    ·simp only[go_sem,Lz,aL,Q5,bf,aJ b0,reduceIte,bS b1,bS b3,aM b2,aM b4,aM b5,gh b1 bn,ip bn,cB bk,py,hA,h1,h2,h3,h4,h5]
    ·rw[az]
     simp only[go_sem,aa,Q5,bf,ae hs (w:=[97,114,114,97,121]) rfl b0,ae hs (w:=[118,97,114]) rfl b0,aj hs (w:=[102,117,110,99]) rfl b0,bo,df b1,aj hs (w:=[91]) rfl b2,o7 b3,aj hs (w:=[93]) rfl b4,aj hs (w:=[59]) rfl b5,aj hs (w:=[59]) rfl b2,reduceIte,dZ bn,cB bk,cX hc,yx hc,co hc,dN hc,eo hc,hA,h1,h2,h3,h4,h5];rw[az];simp only[go_sem,aa,show((6:Int)==0)=false from rfl]
   |true=>
   have l1:=jT h1;have l5:=bB h5;obtain⟨x1,x2⟩:=Yx (k:=2) (y:=(2,(tk ts (a+1)).2.1,(tk ts (a+1+1+1)).2.2.2,(tk ts (a+1)).2.2.1,[])) rfl rfl (by decide) rfl rfl hk p4
   obtain⟨r,gi,gr⟩:=ih (a+1+1+1+1+1+1) (ns++[(2,(tk ts (a+1)).2.1,(tk ts (a+1+1+1)).2.2.2,(tk ts (a+1)).2.2.1,[])]) (l++[(ns.length:Int)]) (by omega) ⟨by omega,p2,by simp;omega,x1⟩ x2 (by simp;omega)
   refine⟨r,gi.from (by omega) (by simp;omega) (aMa _ _) (by simp;omega) (by rw[qI,ph,om,zO,pW (aMa _ _) hk.v];simp;omega),cz.succ (gr.mono fun q k e=>⟨?_,?_⟩)⟩
   ·simp only[go_sem,aL,Q5,bf,aJ b0,reduceIte,bS b1,bS b3,aM b2,aM b4,aM b5,gh b1 bn,ip bn,cB bk,py,hA,h1,h2,h3,h4,h5]
    exact e.1
   ·rw[az]
    simp only[go_sem,aa,Q5,bf,ae hs (w:=[97,114,114,97,121]) rfl b0,ae hs (w:=[118,97,114]) rfl b0,aj hs (w:=[102,117,110,99]) rfl b0,bo,df b1,aj hs (w:=[91]) rfl b2,o7 b3,aj hs (w:=[93]) rfl b4,aj hs (w:=[59]) rfl b5,aj hs (w:=[59]) rfl b2,reduceIte,dZ bn,cB bk,hA,h1,h2,h3,h4,h5,tW l1];exact e.2
  |false=>
  cases hV:aN ts a [118,97,114] with
  |true=>
   cases h1:uq ts (a+1) 1 with
   |false=>
    refine⟨.er 6 (pl ts en (a+1)),hc,cz.succ (cz.succ (cz.of fun q k=>⟨?_,l++[0],a+1,ns,0,?_⟩))⟩
    ·simp only[go_sem,Lz,aL,Q5,bf,aJ b0,reduceIte,bS b1,bS b3,aM b2,aM b4,aM b5,gh b1 bn,ip bn,cB bk,py,hA,hV,h1]
    ·rw[az]
     simp only[go_sem,aa,Q5,bf,ae hs (w:=[97,114,114,97,121]) rfl b0,ae hs (w:=[118,97,114]) rfl b0,aj hs (w:=[102,117,110,99]) rfl b0,bo,df b1,aj hs (w:=[91]) rfl b2,o7 b3,aj hs (w:=[93]) rfl b4,aj hs (w:=[59]) rfl b5,aj hs (w:=[59]) rfl b2,reduceIte,dZ bn,cB bk,cX hc,yx hc,co hc,dN hc,eo hc,hA,hV,h1];rw[az];simp only[go_sem,aa,show((6:Int)==0)=false from rfl]
   |true=>
   cases h2:aN ts (a+1+1) [59] with
   |false=>
    refine⟨.er 6 (pl ts en (a+1+1)),hc,cz.succ (cz.succ (cz.of fun q k=>⟨?_,l++[0],a+1+1,ns,0,?_⟩))⟩
    ·simp only[go_sem,Lz,aL,Q5,bf,aJ b0,reduceIte,bS b1,bS b3,aM b2,aM b4,aM b5,gh b1 bn,ip bn,cB bk,py,hA,hV,h1,h2]
    ·rw[az]
     simp only[go_sem,aa,Q5,bf,ae hs (w:=[97,114,114,97,121]) rfl b0,ae hs (w:=[118,97,114]) rfl b0,aj hs (w:=[102,117,110,99]) rfl b0,bo,df b1,aj hs (w:=[91]) rfl b2,o7 b3,aj hs (w:=[93]) rfl b4,aj hs (w:=[59]) rfl b5,aj hs (w:=[59]) rfl b2,reduceIte,dZ bn,cB bk,cX hc,yx hc,co hc,dN hc,eo hc,hA,hV,h1,h2];rw[az];simp only[go_sem,aa,show((6:Int)==0)=false from rfl]
   |true=>
   have l1:=jT h1;have l5:=bB h2;obtain⟨x1,x2⟩:=Yx (k:=3) (y:=(3,(tk ts (a+1)).2.1,0,(tk ts (a+1)).2.2.1,[])) rfl rfl (by decide) rfl rfl hk p4
   obtain⟨r,gi,gr⟩:=ih (a+1+1+1) (ns++[(3,(tk ts (a+1)).2.1,0,(tk ts (a+1)).2.2.1,[])]) (l++[(ns.length:Int)]) (by omega) ⟨by omega,p2,by simp;omega,x1⟩ x2 (by simp;omega)
   refine⟨r,gi.from (by omega) (by simp;omega) (aMa _ _) (by simp;omega) (by rw[qI,ph,om,zO,pW (aMa _ _) hk.v];simp;omega),cz.succ (gr.mono fun q k e=>⟨?_,?_⟩)⟩
   ·simp only[go_sem,aL,Q5,bf,aJ b0,reduceIte,bS b1,bS b3,aM b2,aM b4,aM b5,gh b1 bn,ip bn,cB bk,py,hA,hV,h1,h2]
    exact e.1
   ·rw[az]
    simp only[go_sem,aa,Q5,bf,ae hs (w:=[97,114,114,97,121]) rfl b0,ae hs (w:=[118,97,114]) rfl b0,aj hs (w:=[102,117,110,99]) rfl b0,bo,df b1,aj hs (w:=[91]) rfl b2,o7 b3,aj hs (w:=[93]) rfl b4,aj hs (w:=[59]) rfl b5,aj hs (w:=[59]) rfl b2,reduceIte,dZ bn,cB bk,hA,hV,h1,h2,tW l1];exact e.2
  |false=>
  cases hF:aN ts a [102,117,110,99] with
  |false=>
   refine⟨.er 6 (pl ts en a),hc,cz.succ (cz.succ ((aey (ts:=ts) (en:=en) (p:=pl ts en a) hc).tn.mono fun q k e=>?_))⟩;obtain⟨v,a',eD,d',e⟩:=fM.vJ (e a ns 0);refine⟨?_,l++[v],a',eD,d',?_⟩
   ·simp only[go_sem,Lz,aL,Q5,bf,aJ b0,reduceIte,bS b1,bS b3,aM b2,aM b4,aM b5,gh b1 bn,ip bn,cB bk,py,hA,hV,hF]
   ·rw[az]
    simp only[go_sem,aa,Q5,bf,ae hs (w:=[97,114,114,97,121]) rfl b0,ae hs (w:=[118,97,114]) rfl b0,aj hs (w:=[102,117,110,99]) rfl b0,bo,df b1,aj hs (w:=[91]) rfl b2,o7 b3,aj hs (w:=[93]) rfl b4,aj hs (w:=[59]) rfl b5,aj hs (w:=[59]) rfl b2,reduceIte,dZ bn,cB bk,hA,hV,hF,e];rw[az];simp only[go_sem,aa,show((6:Int)==0)=false from rfl]
  |true=>
  obtain⟨r,hi,hr⟩:=af5 (en:=en) hs (a:=a+1) (d:=0) (ns:=ns) ⟨by omega,p2,by omega,p4⟩
  cases r with
  |er c p=>
   have hc':c≠0:=hi;refine⟨.er c p,hi,cz.succ (cz.succ (hr.tn.mono fun q k e=>?_))⟩;obtain⟨e1,v,a',eD,d',e2⟩:=e;refine⟨?_,l++[v],a',eD,d',?_⟩
   ·simp only[go_sem,Lz,aL,Q5,bf,aJ b0,reduceIte,bS b1,bS b3,aM b2,aM b4,aM b5,gh b1 bn,ip bn,cB bk,py,hA,hV,hF,show dd q ts en ((a+1:Nat):Int) 0 ns=_ from e1]
   ·rw[az]
    simp only[go_sem,aa,Q5,bf,ae hs (w:=[97,114,114,97,121]) rfl b0,ae hs (w:=[118,97,114]) rfl b0,aj hs (w:=[102,117,110,99]) rfl b0,bo,df b1,aj hs (w:=[91]) rfl b2,o7 b3,aj hs (w:=[93]) rfl b4,aj hs (w:=[59]) rfl b5,aj hs (w:=[59]) rfl b2,reduceIte,dZ bn,cB bk,hA,hV,hF,show dv q ts ((a+1:Nat):Int) en ns 0 0 0=_ from e2]
    rw[az];simp only[go_sem,aa,Q6.2 hc']
  |ok v a1 d1 nr=>
   obtain⟨q1,q2,rfl,q3,q4,q5,q6,q7,q8,q9⟩:=hi;obtain⟨r,gi,gr⟩:=ih a1 nr (l++[v]) (by omega) ⟨q2,p2,by omega,q5⟩ ((hk.up q4).add q6 q7 (by rw[a_a.1 q8];rfl)) (by simp;omega)
   refine⟨r,gi.from (by omega) (by omega) q4 (by simp;omega) (by rw[qI,ph,pW q4 hk.v];omega),cz.succ ((hr.tn.and gr).mono fun q k e=>?_)⟩
   obtain⟨⟨e1,e2⟩,e3,e4⟩:=e;refine⟨?_,?_⟩
   ·simp only[go_sem,aL,Q5,bf,aJ b0,reduceIte,bS b1,bS b3,aM b2,aM b4,aM b5,gh b1 bn,ip bn,cB bk,py,hA,hV,hF,show dd q ts en ((a+1:Nat):Int) 0 ns=_ from e1]
    exact e3
   ·rw[az]
    simp only[go_sem,aa,Q5,bf,ae hs (w:=[97,114,114,97,121]) rfl b0,ae hs (w:=[118,97,114]) rfl b0,aj hs (w:=[102,117,110,99]) rfl b0,bo,df b1,aj hs (w:=[91]) rfl b2,o7 b3,aj hs (w:=[93]) rfl b4,aj hs (w:=[59]) rfl b5,aj hs (w:=[59]) rfl b2,reduceIte,dZ bn,cB bk,hA,hV,hF,show dv q ts ((a+1:Nat):Int) en ns 0 0 0=_ from e2]
    exact e4
structure Us(ns:List eu):Prop where
 all:jC ns
 len:ns.length≤1401
 ahg:∃(ns0:List eu) (l:XI),ns=ns0++[(1,0,0,[],l)]∧jc FM ns0 l∧jQ ns0 l≤ns0.length
theorem U5(t:ab):(∃ ns,Us ns∧Ev fun k=>gp k t=some (ns,(0,0),())∧pE k t=some (ns,(0,0),()))∨
  ∃(c p:Int),c≠0∧Ev fun k=>gp k t=some ([],(c,p),())∧pE k t=some ([],(c,p),()):=by
 rcases Zu t with ⟨ts,hl,h7,hok,he⟩|⟨c,p,hc,he⟩
 ·have hs:pu ts:=⟨h7,hok⟩
  obtain⟨r,hi,hr⟩:=RT (en:=(t.length:Int)) hs _ 0 [] [] (axa _) ⟨by omega,by omega,by simp,jC.nil⟩ jc.nil (by simp)
  have hr:=hr.j9;cases r with
  |er c p=>
   have hc:c≠0:=hi;refine .inr ⟨c,p,hc,(he.and hr).mono fun k e=>?_⟩;obtain⟨⟨e1,e2⟩,e3,l',a',eD,d',e4⟩:=e;have e3:aL k k ts (t.length:Int) 0 0 [] []=_:=e3;have e4:az k k ts (t.length:Int) 0 [] 0 0 0 []=_:=e4;refine⟨?_,?_⟩
   ·simp only[go_sem,gp,rJ,e1,e4,co hc,a1a.2 hc]
   ·simp only[go_sem,pE,oK,e2,e3]
  |ok l a ns=>
   have hi':LOk ts FM 0 [] 0 (jQ [] []) l a ns:=hi;obtain⟨g1,g2,g3,g4,g5,g6,g7,g8⟩:=hi';rw[zO] at g8;simp only[aza] at g3 g8;have m:ns.length≤4000000:=by omega
   refine .inl ⟨ns++[(1,0,0,[],l)],⟨g5.add ⟨g6.v,?_,by simp,by simp at g7 ⊢;omega⟩,by simp;omega,ns,l,rfl,g6,by omega⟩,(he.and hr).mono fun k e=>?_⟩
   ·have:(l.map (kd ns)).all FM=true:=by rw[cOa];exact aqa.2 g6.c
    simpa[cm] using this
   ·obtain⟨⟨e1,e2⟩,e3,e4⟩:=e
    have e3:aL k k ts (t.length:Int) 0 0 [] []=_:=e3;have e4:az k k ts (t.length:Int) 0 [] 0 0 0 []=_:=e4;refine⟨?_,?_⟩
    ·simp only[go_sem,gp,rJ,e1,e4,dZ m,aVa]
    ·simp only[go_sem,pE,oK,e2,e3,ip m]
 ·refine .inr ⟨c,p,hc,he.mono fun k e=>?_⟩
  simp only[go_sem,gp,pE,e.1,e.2,a1a.2 hc,aPa]
end
end Go.Fx.R5
namespace Go.Fx.R5
open Go Go.Fx
abbrev AS:=XA
abbrev FS:=XF
abbrev zo:=AS×XS×FS
def nR{α:Type}(p:α→Bool):List α→Int→Int
 |[],_=>-1
 |x::r,i=>bif p x then i else nR p r (i+1)
section
variable {α:Type} {p:α→Bool}
theorem rC:∀(l:List α) (i:Int),0≤i→(nR p l i = -1∧∀ x∈l,p x=false)∨(∃ n x,nR p l i=i+(n:Nat)∧l[n]? = some x∧p x=true)
 |[],i,h=>.inl ⟨rfl,by simp⟩
 |x::r,i,h=>by
  cases hp:p x with
  |true=>exact .inr ⟨0,x,by simp[nR,hp],rfl,hp⟩
  |false=>
   rcases rC r (i+1) (by omega) with ⟨e,f⟩|⟨n,y,e,f,g⟩
   ·exact .inl ⟨by simp[nR,hp,e],by simpa[hp] using f⟩
   ·exact .inr ⟨n+1,y,by simp[nR,hp,e];omega,by simpa using f,g⟩
theorem I0{l:List α}(h:0≤nR p l 0):∃(n:Nat) (x:α),nR p l 0=(n:Int)∧l[n]? = some x∧p x=true:=by
 rcases rC (p:=p) l 0 (by omega) with ⟨e,_⟩|⟨n,x,e,f,g⟩
 ·omega
 ·exact⟨n,x,by omega,f,g⟩
theorem Wp{l:List α}(h:¬ 0≤nR p l 0):nR p l 0 = -1∧∀ x∈l,p x=false:=by
 rcases rC (p:=p) l 0 (by omega) with e|⟨n,x,e,f,g⟩
 ·exact e
 ·omega
theorem Cj{l:List α}:0≤nR p l 0↔∃ x∈l,p x=true:=by
 constructor
 ·intro h
  obtain⟨n,x,_,f,g⟩:=I0 h;exact⟨x,a2a f,g⟩
 ·rintro⟨x,hx,g⟩
  apply Decidable.byContradiction;intro h;rw[(Wp h).2 x hx] at g;cases g
theorem Z0{l:List α}(h:0≤nR p l 0):nR p l 0<l.length:=by obtain⟨n,x,e,f,_⟩:=I0 h;have:=(ama.1 f).1;omega
end
def plX(n:Int):Unit⊕(Int×Unit):=bif decide (0≤n) then .inr (n,()) else .inl ()
def plY(k n:Int):Unit⊕(Int×Int×Unit):=bif decide (0≤n) then .inr (k,n,()) else .inl ()
theorem y6{α:Type}{p:α→Bool}{l:List α}{i:Nat}(h:i<l.length):nR p (l.drop i) (i:Int)=bif p l[i] then(i:Int) else nR p (l.drop (i+1)) ((i+1:Nat):Int):=by rw[aLa h];rfl
theorem Wa(l:XF)(s:ab)(hl:l.length≤1000000):∀ m i,m+i=l.length→cz fun q k=>nz q k l s (i:Int)=some (plX (nR (fun x=>x.1==s) (l.drop i) (i:Int)))
 |0,i,h=>by
  have h2:¬ i<l.length:=by omega
  have e:l.drop i=[]:=by simp;omega
  rw[e];exact cz.succ (cz.of fun q k=>by simp only[go_sem,nz,Q5,h2];rfl)
 |m+1,i,h=>by
  have bf:i<l.length:=by omega
  refine cz.succ ((Wa l s hl m (i+1) (by omega)).mono fun q k e=>?_)
  simp only[go_sem,nz,Q5,bf,cF bf,ag (show i<_ by omega),e,y6 (p:=fun x:(ab×Int×XS×XS×Int)=>x.1==s) bf]
  cases (l[i].1==s) with
  |true=>simp[plX,plY]
  |false=>simp
theorem Wc(l:XS)(s:ab)(hl:l.length≤1000000):∀ m i,m+i=l.length→cz fun q k=>mq q k l s (i:Int)=some (plX (nR (fun x=>x==s) (l.drop i) (i:Int)))
 |0,i,h=>by
  have h2:¬ i<l.length:=by omega
  have e:l.drop i=[]:=by simp;omega
  rw[e];exact cz.succ (cz.of fun q k=>by simp only[go_sem,mq,Q5,h2];rfl)
 |m+1,i,h=>by
  have bf:i<l.length:=by omega
  refine cz.succ ((Wc l s hl m (i+1) (by omega)).mono fun q k e=>?_)
  simp only[go_sem,mq,Q5,bf,cF bf,ag (show i<_ by omega),e,y6 (p:=fun x:ab=>x==s) bf]
  cases (l[i]==s) with
  |true=>simp[plX,plY]
  |false=>simp
theorem Zz(l:XA)(s:ab)(hl:l.length≤1000000):∀ m i,m+i=l.length→cz fun q k=>mo q k l s (i:Int)=some (plX (nR (fun x=>x.1==s) (l.drop i) (i:Int)))
 |0,i,h=>by
  have h2:¬ i<l.length:=by omega
  have e:l.drop i=[]:=by simp;omega
  rw[e];exact cz.succ (cz.of fun q k=>by simp only[go_sem,mo,Q5,h2];rfl)
 |m+1,i,h=>by
  have bf:i<l.length:=by omega
  refine cz.succ ((Zz l s hl m (i+1) (by omega)).mono fun q k e=>?_)
  simp only[go_sem,mo,Q5,bf,cF bf,ag (show i<_ by omega),e,y6 (p:=fun x:(ab×Int)=>x.1==s) bf]
  cases (l[i].1==s) with
  |true=>simp[plX,plY]
  |false=>simp
theorem Wb(l:XF)(s:ab)(hl:l.length≤1000000):∀ m i,m+i=l.length→cz fun q k=>kQ q k l (l.length:Int) (i:Int)=some (plX (nR (fun x=>x.1==([109,97,105,110]:ab)) (l.drop i) (i:Int)))
 |0,i,h=>by
  have h2:¬ i<l.length:=by omega
  have e:l.drop i=[]:=by simp;omega
  rw[e];exact cz.succ (cz.of fun q k=>by simp only[go_sem,kQ,Q5,h2];rfl)
 |m+1,i,h=>by
  have bf:i<l.length:=by omega
  refine cz.succ ((Wb l s hl m (i+1) (by omega)).mono fun q k e=>?_)
  simp only[go_sem,kQ,Q5,bf,cF bf,ag (show i<_ by omega),e,y6 (p:=fun x:(ab×Int×XS×XS×Int)=>x.1==([109,97,105,110]:ab)) bf]
  cases (l[i].1==([109,97,105,110]:ab)) with
  |true=>simp[plX,plY]
  |false=>simp
theorem ZA(l:XS)(s:ab)(hl:l.length≤1000000):∀ m i,m+i=l.length→cz fun q k=>ke q k s l (l.length:Int) (i:Int)=some (plX (nR (fun x=>x==s) (l.drop i) (i:Int)))
 |0,i,h=>by
  have h2:¬ i<l.length:=by omega
  have e:l.drop i=[]:=by simp;omega
  rw[e];exact cz.succ (cz.of fun q k=>by simp only[go_sem,ke,Q5,h2];rfl)
 |m+1,i,h=>by
  have bf:i<l.length:=by omega
  refine cz.succ ((ZA l s hl m (i+1) (by omega)).mono fun q k e=>?_)
  simp only[go_sem,ke,Q5,bf,cF bf,ag (show i<_ by omega),e,y6 (p:=fun x:ab=>x==s) bf]
  cases (l[i]==s) with
  |true=>simp[plX,plY]
  |false=>simp
theorem acy(l:XA)(s:ab)(hl:l.length≤1000000):∀ m i,m+i=l.length→cz fun q k=>jL q k s l (l.length:Int) (i:Int)=some (plY 1 (nR (fun x=>x.1==s) (l.drop i) (i:Int)))
 |0,i,h=>by
  have h2:¬ i<l.length:=by omega
  have e:l.drop i=[]:=by simp;omega
  rw[e];exact cz.succ (cz.of fun q k=>by simp only[go_sem,jL,Q5,h2];rfl)
 |m+1,i,h=>by
  have bf:i<l.length:=by omega
  refine cz.succ ((acy l s hl m (i+1) (by omega)).mono fun q k e=>?_)
  simp only[go_sem,jL,Q5,bf,cF bf,ag (show i<_ by omega),e,y6 (p:=fun x:(ab×Int)=>x.1==s) bf]
  cases (l[i].1==s) with
  |true=>simp[plX,plY]
  |false=>simp
theorem acz(l:XF)(s:ab)(hl:l.length≤1000000):∀ m i,m+i=l.length→cz fun q k=>jM q k s l (l.length:Int) (i:Int)=some (plY 5 (nR (fun x=>x.1==s) (l.drop i) (i:Int)))
 |0,i,h=>by
  have h2:¬ i<l.length:=by omega
  have e:l.drop i=[]:=by simp;omega
  rw[e];exact cz.succ (cz.of fun q k=>by simp only[go_sem,jM,Q5,h2];rfl)
 |m+1,i,h=>by
  have bf:i<l.length:=by omega
  refine cz.succ ((acz l s hl m (i+1) (by omega)).mono fun q k e=>?_)
  simp only[go_sem,jM,Q5,bf,cF bf,ag (show i<_ by omega),e,y6 (p:=fun x:(ab×Int×XS×XS×Int)=>x.1==s) bf]
  cases (l[i].1==s) with
  |true=>simp[plX,plY]
  |false=>simp
theorem af3{n:Int}{α:Type}{f:Int→Option α}{g:Option α}(h:-1≤n):(match plX n with | .inl _=>g | .inr o2=>f o2.1)=bif decide (0≤n) then f n else g:=by unfold plX;cases decide (0≤n)<;>rfl
theorem agP{α:Type}{p:α→Bool}(l:List α):-1≤nR p l 0:=by rcases rC (p:=p) l 0 (by omega) with e|⟨n,x,e,_⟩<;>omega
theorem I6(l:XS)(s:ab)(hl:l.length≤1000000):Ev fun k=>ir k l s=some (nR (fun x=>x==s) l 0,()):=
 (Wc l s hl l.length 0 rfl).j9.mono fun k e=>by
  simp only[go_sem,ir,show mq k k l s 0=_ from e,bPa,plX]
  rcases rC (p:=fun x=>x==s) l 0 (by omega) with ⟨e,_⟩|⟨n,x,e,_⟩<;>(simp only[b2a,e];simp)
theorem RX(t:zo)(s:ab)(hl:t.2.2.length≤1000000):Ev fun k=>kx k t s=some (nR (fun x=>x.1==s) t.2.2 0,()):=
 (Wa t.2.2 s hl t.2.2.length 0 rfl).j9.mono fun k e=>by
  simp only[go_sem,kx,show nz k k t.2.2 s 0=_ from e,bPa,plX]
  rcases rC (p:=fun x:ab×Int×XS×XS×Int=>x.1==s) t.2.2 0 (by omega) with ⟨e,_⟩|⟨n,x,e,_⟩<;>(simp only[b2a,e];simp)
theorem abF(t:zo)(s:ab)(hl:t.1.length≤1000000):Ev fun k=>oj k t s=some (nR (fun x=>x.1==s) t.1 0,()):=
 (Zz t.1 s hl t.1.length 0 rfl).j9.mono fun k e=>by
  simp only[go_sem,oj,show mo k k t.1 s 0=_ from e,bPa,plX]
  rcases rC (p:=fun x:ab×Int=>x.1==s) t.1 0 (by omega) with ⟨e,_⟩|⟨n,x,e,_⟩<;>(simp only[b2a,e];simp)
theorem adx(t:zo)(hl:t.2.2.length≤1000000):Ev fun k=>vL k t=some (nR (fun x=>x.1==([109,97,105,110]:ab)) t.2.2 0,()):=
 (Wb t.2.2 [] hl t.2.2.length 0 rfl).j9.mono fun k e=>by
  simp only[go_sem,vL,show kQ k k t.2.2 (t.2.2.length:Int) 0=_ from e,bPa,plX]
  rcases rC (p:=fun x:ab×Int×XS×XS×Int=>x.1==([109,97,105,110]:ab)) t.2.2 0 (by omega) with ⟨e,_⟩|⟨n,x,e,_⟩<;>(simp only[b2a,e];simp)
theorem Zh(l:XS)(s:ab)(hl:l.length≤1000000):Ev fun k=>nj k l s=some (nR (fun x=>x==s) l 0,()):=
 (ZA l s hl l.length 0 rfl).j9.mono fun k e=>by
  simp only[go_sem,nj,show ke k k s l (l.length:Int) 0=_ from e,bPa,plX]
  rcases rC (p:=fun x=>x==s) l 0 (by omega) with ⟨e,_⟩|⟨n,x,e,_⟩<;>(simp only[b2a,e];simp)
def OP(t:zo)(s:ab):Int×Int:=
 bif decide (0≤nR (fun x=>x.1==s) t.1 0) then(1,nR (fun x=>x.1==s) t.1 0) else
 bif decide (0≤nR (fun x=>x==s) t.2.1 0) then(2,nR (fun x=>x==s) t.2.1 0) else
 bif decide (0≤nR (fun x=>x.1==s) t.2.2 0) then(5,nR (fun x=>x.1==s) t.2.2 0) else(0,0)
def nk(t:zo)(fn s:ab):Int×Int:=
 match t.2.2.find? (fun x=>x.1==fn) with
 |none=>OP t s
 |some x=>bif decide (0≤nR (fun y=>y==s) x.2.2.1 0) then(3,nR (fun y=>y==s) x.2.2.1 0) else
  bif decide (0≤nR (fun y=>y==s) x.2.2.2.1 0) then(4,nR (fun y=>y==s) x.2.2.2.1 0) else OP t s
structure iQ(t:zo):Prop where
 a:t.1.length≤4
 g:t.2.1.length≤4
 f:t.2.2.length≤6
 i:∀ x∈t.2.2,x.2.2.1.length≤8∧x.2.2.2.1.length≤3∧0≤x.2.1∧x.2.1≤3
theorem ZZ{α:Type}{p:α→Bool}:∀(l:List α),(nR p l 0 = -1∧l.find? p=none)∨∃(n:Nat) (x:α),nR p l 0=(n:Int)∧l[n]? = some x∧l.find? p=some x:=by
 have key:∀(l:List α) (i:Int),0≤i→(nR p l i = -1∧l.find? p=none)∨∃(n:Nat) (x:α),nR p l i=i+(n:Int)∧l[n]? = some x∧l.find? p=some x:=by
  intro l;induction l with
  |nil=>intro i _;exact .inl ⟨rfl,rfl⟩
  |cons y r ih=>
   intro i hi;cases hp:p y with
   |true=>exact .inr ⟨0,y,by simp[nR,hp],rfl,by simp[hp]⟩
   |false=>
    rcases ih (i+1) (by omega) with ⟨e,f⟩|⟨n,x,e,f,g⟩
    ·exact .inl ⟨by simp[nR,hp,e],by simp[hp,f]⟩
    ·exact .inr ⟨n+1,x,by simp[nR,hp,e];omega,by simpa using f,by simp[hp,g]⟩
 intro l;rcases key l 0 (by omega) with h|⟨n,x,e,f,g⟩
 ·exact .inl h
 ·exact .inr ⟨n,x,by omega,f,g⟩
theorem ge0(n:Int):decide (n≥0)=decide (0≤n):=rfl
theorem Vf{t:zo}(ht:iQ t)(fn s:ab):Ev fun k=>cW k t fn s=some ((nk t fn s).1,(nk t fn s).2,()):=by
 have e1:=RX t fn (by have:=ht.f;omega)
 have e2:=abF t s (by have:=ht.a;omega)
 have e3:=I6 t.2.1 s (by have:=ht.g;omega)
 have e4:=RX t s (by have:=ht.f;omega)
 have tail:∀ k,oj k t s=some (nR (fun x=>x.1==s) t.1 0,())→ir k t.2.1 s=some (nR (fun x=>x==s) t.2.1 0,())→kx k t s=some (nR (fun x=>x.1==s) t.2.2 0,())→
   ((oj k t s).bind fun r6=>
   bif decide (r6.1≥0) then
    (oj k t s).bind fun r7=>
    some ((1:Int),r7.1,())
   else
    (ir k t.2.1 s).bind fun r8=>
    bif decide (r8.1≥0) then
     (ir k t.2.1 s).bind fun r9=>
     some (2,r9.1,())
    else
     (kx k t s).bind fun kC=>
     bif decide (kC.1≥0) then
      (kx k t s).bind fun oc=>
      some (5,oc.1,())
     else
      some (0,0,()))=some ((OP t s).1,(OP t s).2,()):=by
  intro k a1 a2 a3;simp only[go_sem,a1,a2,a3,OP,ge0];cases decide (0≤nR (fun x=>x.1==s) t.1 0)<;>cases decide (0≤nR (fun x=>x==s) t.2.1 0)<;>cases decide (0≤nR (fun x=>x.1==s) t.2.2 0)<;>rfl
 rcases ZZ (p:=fun x:ab×Int×XS×XS×Int=>x.1==fn) t.2.2 with ⟨f1,f2⟩|⟨n,x,f1,f2,f3⟩
 ·refine((e1.and e2).and (e3.and e4)).mono fun k e=>?_
  simp only[go_sem,cW,e.1.1,f1,aa,ge0,show decide ((0:Int)≤-1)=false from rfl,nk,f2]
  exact tail k e.1.2 e.2.1 e.2.2
 ·have hb:=ht.i x (a2a f2)
  have e5:=I6 x.2.2.1 s (by omega)
  have e6:=I6 x.2.2.2.1 s (by omega)
  refine(((e1.and e2).and (e3.and e4)).and (e5.and e6)).mono fun k e=>?_;simp only[go_sem,cW,e.1.1.1,f1,aa,ge0,show decide ((0:Int)≤(n:Int))=true by simp,bq f2,e.2.1,e.2.2,nk,f3]
  cases decide (0≤nR (fun y=>y==s) x.2.2.1 0) with
  |true=>rfl
  |false=>
   cases decide (0≤nR (fun y=>y==s) x.2.2.2.1 0) with
   |true=>rfl
   |false=>simp only[go_sem];exact tail k e.1.1.2 e.1.2.1 e.1.2.2
def k0X(s:ab):Option (ab×Int×XS×XS×Int)→Unit⊕(Int×Int×Unit)
 |none=>.inl ()
 |some x=>bif decide (0≤nR (fun y=>y==s) x.2.2.1 0) then .inr (3,nR (fun y=>y==s) x.2.2.1 0,()) else(bif decide (0≤nR (fun y=>y==s) x.2.2.2.1 0) then .inr (4,nR (fun y=>y==s) x.2.2.2.1 0,()) else .inl ())
theorem V2{F:FS}(hF:∀ x∈F,x.2.2.1.length≤8∧x.2.2.2.1.length≤3)(hl:F.length≤6)(fn s:ab):∀ m i,m+i=F.length→cz fun q k=>kJ q k fn s F (F.length:Int) (i:Int) =
  some (k0X s ((F.drop i).find? (fun x=>x.1==fn)))
 |0,i,h=>by
  have h2:¬ i<F.length:=by omega
  have e:F.drop i=[]:=by simp;omega
  rw[e];exact cz.succ (cz.of fun q k=>by simp only[go_sem,kJ,Q5,h2];rfl)
 |m+1,i,h=>by
  have bf:i<F.length:=by omega
  have hb:=hF F[i] (aQa bf);refine cz.succ (((V2 hF hl fn s m (i+1) (by omega)).and ((Zh F[i].2.2.1 s (by omega)).and (Zh F[i].2.2.2.1 s (by omega))).tn).mono fun q k e=>?_)
  rw[aLa bf,List.find?_cons];simp only[go_sem,kJ,Q5,bf,cF bf,ag (show i<_ by omega),e.1,e.2.1,e.2.2,ge0]
  cases (F[i].1==fn) with
  |false=>rfl
  |true=>simp only[go_sem,k0X];cases decide (0≤nR (fun y=>y==s) F[i].2.2.1 0)<;>cases decide (0≤nR (fun y=>y==s) F[i].2.2.2.1 0)<;>rfl
theorem Zg{t:zo}(ht:iQ t)(fn s:ab):Ev fun k=>fQ k t fn s=some ((nk t fn s).1,(nk t fn s).2,()):=by
 have e1:=(V2 (fun x hx=>let h:=ht.i x hx;⟨h.1,h.2.1⟩) ht.f fn s t.2.2.length 0 rfl).j9
 have e2:=(acy t.1 s (by have:=ht.a;omega) t.1.length 0 rfl).j9
 have e3:=Zh t.2.1 s (by have:=ht.g;omega)
 have e4:=(acz t.2.2 s (by have:=ht.f;omega) t.2.2.length 0 rfl).j9
 refine((e1.and e2).and (e3.and e4)).mono fun k e=>?_;obtain⟨⟨e1,e2⟩,e3,e4⟩:=e;have e1:kJ k k fn s t.2.2 (t.2.2.length:Int) 0=_:=e1;have e2:jL k k s t.1 (t.1.length:Int) 0=_:=e2;have e4:jM k k s t.2.2 (t.2.2.length:Int) 0=_:=e4;simp only[bPa,b2a] at e1 e2 e4;have tail:((jL k k s t.1 (t.1.length:Int) 0).bind fun r=>match r with
  |.inl o3=>
   (nj k t.2.1 s).bind fun r1=>
   bif decide (r1.1≥0) then
    some ((2:Int),r1.1,())
   else
    (jM k k s t.2.2 (t.2.2.length:Int) 0).bind fun r=>match r with
    |.inl o5=>
     some (0,0,())
    |.inr o6=>
     some (o6.1,o6.2.1,())
  |.inr o4=>
   some (o4.1,o4.2.1,()))=some ((OP t s).1,(OP t s).2,()):=by
   simp only[go_sem,e2,e3,e4,OP,ge0,plY];cases decide (0≤nR (fun x=>x.1==s) t.1 0)<;>cases decide (0≤nR (fun x=>x==s) t.2.1 0)<;>cases decide (0≤nR (fun x=>x.1==s) t.2.2 0)<;>rfl
 simp only[go_sem,fQ,e1,nk];cases hf:t.2.2.find? (fun x=>x.1==fn) with
 |none=>simp only[hf,k0X];exact tail
 |some x=>
   simp only[hf,k0X];cases decide (0≤nR (fun y=>y==s) x.2.2.1 0) with
   |true=>rfl
   |false=>
     cases decide (0≤nR (fun y=>y==s) x.2.2.2.1 0) with
     |true=>rfl
     |false=>simp only[go_sem];exact tail
end Go.Fx.R5
namespace Go.Fx.R5
open Go Go.Fx
theorem E0(D:AS)(n s:ab)(v:Int):qL (ry D n v) s=if n=s then v else qL D s:=by
 induction D with
 |nil=>by_cases h:n=s<;>simp[ry,qL,h]
 |cons p r ih=>
  by_cases h:p.1=n
  ·subst h;by_cases h2:p.1=s<;>simp[ry,qL,h2]
  ·simp only[go_sem,ry,h,qL,ih]
   by_cases h2:p.1=s
   ·have:¬ n=s:=fun e=>h (by rw[h2,e])
    simp[h2,this]
   ·simp[h2]
def pK(t:zo)(s:ab):Prop:=(∃ x∈t.1,x.1=s)∨s∈t.2.1∨∃ x∈t.2.2,x.1=s
theorem Wf(t:zo)(s:ab):(OP t s).1≠0↔pK t s:=by
 have h1:(0≤nR (fun x:ab×Int=>x.1==s) t.1 0)↔∃ x∈t.1,x.1=s:=by rw[Cj];simp
 have h2:(0≤nR (fun x=>x==s) t.2.1 0)↔s∈t.2.1:=by rw[Cj];simp
 have h3:(0≤nR (fun x:ab×Int×XS×XS×Int=>x.1==s) t.2.2 0)↔∃ x∈t.2.2,x.1=s:=by rw[Cj];simp
 unfold pK;rw[←h1,←h2,←h3];simp only[OP];by_cases g1:0≤nR (fun x:ab×Int=>x.1==s) t.1 0
 ·simp[g1]
 ·by_cases g2:0≤nR (fun x=>x==s) t.2.1 0
  ·simp[g1,g2]
  ·by_cases g3:0≤nR (fun x:ab×Int×XS×XS×Int=>x.1==s) t.2.2 0<;>simp[g1,g2,g3]
theorem abj{t:zo}{s:ab}(h:∀ x∈t.2.2,x.1≠[]):nk t [] s=OP t s:=by
 have:t.2.2.find? (fun x=>x.1==([]:ab))=none:=by rw[List.find?_eq_none];intro x hx;simpa using h x hx
 simp only[nk,this]
theorem aaW{F:FS}(hd:F.Pairwise fun x y=>x.1≠y.1):∀{f:Nat} {x:ab×Int×XS×XS×Int},F[f]? = some x→F.find? (fun y=>y.1==x.1)=some x:=by
 induction F with
 |nil=>intro f x h;simp at h
 |cons y r ih=>
  intro f x h;obtain⟨h1,h2⟩:=List.pairwise_cons.1 hd;cases f with
  |zero=>simp at h;subst h;simp
  |succ f=>
   have h:r[f]? = some x:=by simpa using h
   have:y.1≠x.1:=h1 x (a2a h);rw[List.find?_cons,Q6.2 this];exact ih h2 h
theorem adL{t:zo}(hd:t.2.2.Pairwise fun x y=>x.1≠y.1){f:Nat}{x:ab×Int×XS×XS×Int}(h:t.2.2[f]? = some x)(s:ab):
  (nk t x.1 s).1≠0↔(s∈x.2.2.1∨s∈x.2.2.2.1)∨pK t s:=by
 have h2:(0≤nR (fun y=>y==s) x.2.2.1 0)↔s∈x.2.2.1:=by rw[Cj];simp
 have h3:(0≤nR (fun y=>y==s) x.2.2.2.1 0)↔s∈x.2.2.2.1:=by rw[Cj];simp
 simp only[nk,aaW hd h];rw[←h2,←h3,←Wf];by_cases g2:0≤nR (fun y=>y==s) x.2.2.1 0
 ·simp[g2]
 ·by_cases g3:0≤nR (fun y=>y==s) x.2.2.2.1 0<;>simp[g2,g3]
structure P1(ns:List eu)(t:zo)(D:AS):Prop where
 iK:iQ t
 ne:∀ x∈t.2.2,x.1≠[]
 bd:∀ x∈t.2.2,0≤x.2.2.2.2∧x.2.2.2.2<ns.length∧kd ns x.2.2.2.2=8∧wt ns x.2.2.2.2≤ns.length
 YB:t.2.2.Pairwise fun x y=>x.1≠y.1
 dec:∀ s,0<qL D s↔pK t s
theorem Oi{ns:List eu}{i:Nat}{x:eu}(h:ns[i]? = some x)(hk:∀ j∈x.2.2.2.2,0≤j∧j<(i:Int)):wt ns (i:Int)=1+jQ ns x.2.2.2.2:=by
 obtain⟨hl,hx⟩:=ama.1 h;have hp:ns.take i++[x] <+: ns:=⟨ns.drop (i+1),by rw[←hx];simp⟩
 have HG:ns.take i <+: ns:=List.take_prefix _ _;have jB:(ns.take i).length=i:=by simp;omega
 rw[rX hp (by omega) (by simp;omega)]
 have:=om (ns:=ns.take i) (x:=x);rw[jB] at this;rw[this,pW HG (fun j hj=>by rw[jB];exact hk j hj)]
theorem aaE{ns:List eu}{l:XI}{j:Int}(h:j∈l):wt ns j≤jQ ns l:=by
 induction l with
 |nil=>cases h
 |cons a l ih=>
  have e:jQ ns (a::l)=wt ns a+jQ ns l:=by simp[jQ]
  rcases ala.1 h with rfl|h
  ·omega
  ·have:=ih h;omega
theorem vq{ns:List eu}{j:Int}(h0:0≤j)(h1:j<ns.length):∃ x,ns[j.toNat]? = some x∧kd ns j=x.1∧bL ns j=some x:=by
 have:j.toNat<ns.length:=by omega
 refine⟨ns[j.toNat],by simp[this],by simp[kd,this],?_⟩
 have:bL ns ((j.toNat:Nat):Int)=some ns[j.toNat]:=cF this;rwa[aRa h0] at this
theorem aaj{ns:List eu}{i:Nat}{x:eu}(h:oo ns i x)(hk:x.1=4):∃ b,x.2.2.2.2.getLast? = some b∧0≤b∧b<i∧kd ns b=8∧(∀ j∈x.2.2.2.2.dropLast,0≤j∧j<i∧wL (kd ns j)=true):=by
 have hs:=h.shp;rw[hk] at hs;have hs:((x.2.2.2.2.map (kd ns)).dropLast.all wL&&((x.2.2.2.2.map (kd ns)).getLast?==some 8))=true:=hs;simp only[Q3,a_a] at hs;cases hl:x.2.2.2.2.getLast? with
 |none=>rw[List.getLast?_map,hl] at hs;simp at hs
 |some b=>
  have hb:=List.mem_of_getLast? hl;have:=h.cL b hb;refine⟨b,rfl,this.1,this.2,?_,fun j hj=>?_⟩
  ·rw[List.getLast?_map,hl] at hs;simpa using hs.2
  ·have:=h.cL j ((List.dropLast_sublist _).subset hj)
   refine⟨this.1,this.2,?_⟩;have h1:=hs.1;rw[←List.map_dropLast,cOa,aqa] at h1;exact h1 j hj
theorem Zr{l:XI}{b:Int}(h:l.getLast? = some b)(hl:l.length≤1000000):bL l (bC ((l.length:Int) - 1))=some b:=by
 have ik:l≠[]:=by intro e;rw[e] at h;cases h
 have hp:=List.length_pos_iff.2 ik;rw[bF (by omega) (by omega),show(l.length:Int) - 1=((l.length - 1:Nat):Int) by omega]
 exact bq (by rw[←h,List.getLast?_eq_getElem?])
theorem HE{t:zo}{s:ab}{t':zo}(h:(∃ z,t' = (t.1++[(s,z)],t.2.1,t.2.2))∨t' = (t.1,t.2.1++[s],t.2.2)∨∃ z,t' = (t.1,t.2.1,t.2.2++[(s,z)]))(u:ab):pK t' u↔s=u∨pK t u:=by
 rcases h with ⟨z,rfl⟩|rfl|⟨z,rfl⟩
 ·simp only[pK,ana,Q7]
  constructor
  ·rintro(⟨x,hx|rfl,rfl⟩|h|h)
   ·exact .inr (.inl ⟨x,hx,rfl⟩)
   ·exact .inl rfl
   ·exact .inr (.inr (.inl h))
   ·exact .inr (.inr (.inr h))
  ·rintro(rfl|⟨x,hx,rfl⟩|h|h)
   ·exact .inl ⟨_,.inr rfl,rfl⟩
   ·exact .inl ⟨x,.inl hx,rfl⟩
   ·exact .inr (.inl h)
   ·exact .inr (.inr h)
 ·simp only[pK,ana,Q7]
  constructor
  ·rintro(h|(h|rfl)|h)
   ·exact .inr (.inl h)
   ·exact .inr (.inr (.inl h))
   ·exact .inl rfl
   ·exact .inr (.inr (.inr h))
  ·rintro(rfl|h|h|h)
   ·exact .inr (.inl (.inr rfl))
   ·exact .inl h
   ·exact .inr (.inl (.inl h))
   ·exact .inr (.inr h)
 ·simp only[pK,ana,Q7]
  constructor
  ·rintro(h|h|⟨x,hx|rfl,rfl⟩)
   ·exact .inr (.inl h)
   ·exact .inr (.inr (.inl h))
   ·exact .inr (.inr (.inr ⟨x,hx,rfl⟩))
   ·exact .inl rfl
  ·rintro(rfl|h|h|⟨x,hx,rfl⟩)
   ·exact .inr (.inr ⟨_,.inr rfl,rfl⟩)
   ·exact .inl h
   ·exact .inr (.inl h)
   ·exact .inr (.inr ⟨x,.inl hx,rfl⟩)
theorem QZ{t t':zo}{D:AS}{s:ab}(h:∀ u,0<qL D u↔pK t u)(h2:∀ u,pK t' u↔s=u∨pK t u):∀ u,0<qL (ry D s 1) u↔pK t' u:=by
 intro u;rw[E0,h2];by_cases e:s=u
 ·simp[e]
 ·simp[e,h]
theorem W8{ns:List eu}{t:zo}{D:AS}(hp:P1 ns t D){j:Int}{x:eu}(h0:0≤j)(hx:ns[j.toNat]? = some x)(AC:bL ns j=some x)(hn:oo ns j.toNat x)(hk:FM x.1=true)(hl:ns.length≤100000)(hw:wt ns j≤ns.length):
  (∃ c,c≠0∧∃ A' G' F' D',Ev (fun k=>kY k t.1 t.2.1 t.2.2 x=some (t.1,t.2.1,t.2.2,c,()))∧eT t.1 t.2.1 t.2.2 ns j D=some (c,A',G',F',D',()))∨
  ∃(t':zo) (D':AS),P1 ns t' D'∧t'.2.2.length=t.2.2.length+(if x.1=4 then 1 else 0)∧((∀ f∈t.2.2,f.2.1=0∧f.2.2.1=[]∧f.2.2.2.1=[])→∀ f∈t'.2.2,f.2.1=0∧f.2.2.1=[]∧f.2.2.2.1=[])∧
   Ev (fun k=>kY k t.1 t.2.1 t.2.2 x=some (t'.1,t'.2.1,t'.2.2,0,()))∧eT t.1 t.2.1 t.2.2 ns j D=some (0,t'.1,t'.2.1,t'.2.2,D',()):=by
 obtain⟨A,G,F⟩:=t;have hj:j.toNat<ns.length:=(ama.1 hx).1;have hs:=Vf hp.iK ([]:ab) x.2.2.2.1;rw[abj hp.ne] at hs;have UF:=hp.dec x.2.2.2.1;have afd:=Wf (A,G,F) x.2.2.2.1;have ha:=hp.iK.a;have hg:=hp.iK.g;have hf:=hp.iK.f;simp only at ha hg hf;by_cases ht:pK (A,G,F) x.2.2.2.1
 ·have h1:0<qL D x.2.2.2.1:=UF.2 ht
  have h2:((OP (A,G,F) x.2.2.2.1).1 != 0)=true:=a1a.2 (afd.2 ht);refine .inl ⟨9,by decide,A,G,F,D,hs.mono fun k e=>?_,?_⟩
  ·simp only[go_sem,kY,e,h2]
  ·simp only[go_sem,eT,AC,bUa,h1]
 ·have h1:¬ 0<qL D x.2.2.2.1:=fun h=>ht (UF.1 h)
  have h2:((OP (A,G,F) x.2.2.2.1).1 != 0)=false:=by
   cases h:((OP (A,G,F) x.2.2.2.1).1 != 0) with
   |false=>rfl
   |true=>exact absurd (afd.1 (a1a.1 h)) ht
  have hk:x.1=2∨x.1=3∨x.1=4:=by simpa[FM,or_assoc] using hk
  rcases hk with hk|hk|hk
  ·
   have hin:Fd x.2.2.1 1 64=some (decide (1≤x.2.2.1)&&decide (x.2.2.1≤64),()):=by simp only[Fd,aa,ge_iff_le];cases decide (1≤x.2.2.1)<;>rfl
   by_cases Lw:A.length=4∨¬ (1≤x.2.2.1∧x.2.2.1≤64)
   ·refine .inl ⟨8,by decide,A,G,F,ry D x.2.2.2.1 1,hs.mono fun k e=>?_,?_⟩
    ·by_cases h4:A.length=4
     ·simp only[go_sem,kY,e,h2,hk,aa,h4,show decide (((4:Nat):Int)≥4)=true from rfl]
     ·have hb:(decide (1≤x.2.2.1)&&decide (x.2.2.1≤64))=false:=by
       rcases Lw with h|h
       ·exact absurd h h4
       ·simpa using h
      simp only[go_sem,kY,e,h2,hk,aa,show decide ((A.length:Int)≥4)=false from bAa (by omega),hin,hb]
    ·by_cases h4:A.length=4
     ·simp only[go_sem,eT,AC,bUa,h1,hk,aa,h4,show(((4:Nat):Int)==4)=true from rfl]
     ·have h5:((A.length:Int)==4)=false:=by simp;omega
      by_cases h6:x.2.2.1<1
      ·simp only[go_sem,eT,AC,bUa,h1,hk,aa,h5,h6]
      ·have h7:64<x.2.2.1:=by omega
       simp only[go_sem,eT,AC,bUa,h1,hk,aa,h5,h6,h7]
   ·simp only[cia,Decidable.not_not] at Lw
    have Lt:bE A [(x.2.2.2.1,x.2.2.1)]=some (A++[(x.2.2.2.1,x.2.2.1)]):=oO (by simp;omega)
    have h5:((A.length:Int)==4)=false:=by simp;omega
    have h6:¬ x.2.2.1<1:=by omega
    have h7:¬ 64<x.2.2.1:=by omega
    refine .inr ⟨(A++[(x.2.2.2.1,x.2.2.1)],G,F),ry D x.2.2.2.1 1,⟨⟨by simp;omega,hg,hf,hp.iK.i⟩,hp.ne,hp.bd,hp.YB,QZ hp.dec (HE (.inl ⟨_,rfl⟩))⟩,by simp[hk],fun h=>h,hs.mono fun k e=>?_,?_⟩
    ·simp only[go_sem,kY,e,h2,hk,aa,show decide ((A.length:Int)≥4)=false from bAa (by omega),hin,Lw.2.1,Lw.2.2,bHa,Lt]
    ·simp only[go_sem,eT,AC,bUa,h1,hk,aa,h5,h6,h7,Lt]
  ·
   have e2:((3:Int)==2)=false:=rfl;by_cases Lw:G.length=4
   ·refine .inl ⟨8,by decide,A,G,F,ry D x.2.2.2.1 1,hs.mono fun k e=>?_,?_⟩
    ·simp only[go_sem,kY,e,h2,hk,e2,Lw,show decide (((4:Nat):Int)≥4)=true from rfl]
    ·simp only[go_sem,eT,AC,bUa,h1,hk,e2,aa,Lw,show(((4:Nat):Int)==4)=true from rfl]
   ·have Lt:bE G [x.2.2.2.1]=some (G++[x.2.2.2.1]):=oO (by simp;omega)
    have h5:((G.length:Int)==4)=false:=by simp;omega
    refine .inr ⟨(A,G++[x.2.2.2.1],F),ry D x.2.2.2.1 1,⟨⟨ha,by simp;omega,hf,hp.iK.i⟩,hp.ne,hp.bd,hp.YB,QZ hp.dec (HE (.inr (.inl rfl)))⟩,by simp[hk],fun h=>h,hs.mono fun k e=>?_,?_⟩
    ·simp only[go_sem,kY,e,h2,hk,e2,show decide ((G.length:Int)≥4)=false from bAa (by omega),Lt]
    ·simp only[go_sem,eT,AC,bUa,h1,hk,e2,aa,h5,Lt]
  ·
   obtain⟨b,hb,b0,b1,b2,_⟩:=aaj hn hk;have e2:((4:Int)==2)=false:=rfl;have e3:((4:Int)==3)=false:=rfl;have Hf:=Zr hb (by have:=hn.nm.2;omega)
   by_cases Lw:F.length=6
   ·refine .inl ⟨8,by decide,A,G,F,ry D x.2.2.2.1 1,hs.mono fun k e=>?_,?_⟩
    ·simp only[go_sem,kY,e,h2,hk,e2,e3,Lw,show decide (((6:Nat):Int)≥6)=true from rfl]
    ·simp only[go_sem,eT,AC,bUa,h1,hk,e2,e3,aa,Lw,show(((6:Nat):Int)==6)=true from rfl]
   ·have Lt:bE F [(x.2.2.2.1,0,[],[],b)]=some (F++[(x.2.2.2.1,0,[],[],b)]):=oO (by simp;omega)
    have h5:((F.length:Int)==6)=false:=by simp;omega
    refine .inr ⟨(A,G,F++[(x.2.2.2.1,0,[],[],b)]),ry D x.2.2.2.1 1,⟨⟨ha,hg,by simp;omega,?_⟩,?_,?_,?_,QZ hp.dec (HE (.inr (.inr ⟨_,rfl⟩)))⟩,by simp[hk],?_,hs.mono fun k e=>?_,?_⟩
    ·intro y hy
     rcases ana.1 hy with hy|hy
     ·exact hp.iK.i y hy
     ·rw[Q7.1 hy];simp
    ·intro y hy
     rcases ana.1 hy with hy|hy
     ·exact hp.ne y hy
     ·rw[Q7.1 hy];exact hn.nm.1 hk
    ·intro y hy
     rcases ana.1 hy with hy|hy
     ·exact hp.bd y hy
     ·rw[Q7.1 hy]
      have h1:=Oi hx hn.cL;rw[aRa h0] at h1;have h2:=aaE (ns:=ns) (List.mem_of_getLast? hb);exact⟨b0,by show b<_;omega,b2,by show wt ns b≤_;omega⟩
    ·refine List.pairwise_append.2 ⟨hp.YB,List.pairwise_singleton _ _,fun y hy z hz=>?_⟩
     rw[Q7.1 hz];exact fun e=>ht (.inr (.inr ⟨y,hy,e⟩))
    ·intro h f hf
     rcases ana.1 hf with hf|hf
     ·exact h f hf
     ·rw[Q7.1 hf];exact⟨rfl,rfl,rfl⟩
    ·simp only[go_sem,kY,e,h2,hk,e2,e3,show decide ((F.length:Int)≥6)=false from bAa (by omega),Hf,Lt]
    ·simp only[go_sem,eT,AC,bUa,h1,hk,e2,e3,aa,h5,Hf,Lt]
end Go.Fx.R5
namespace Go.Fx.R5
open Go Go.Fx
def cnt(ns:List eu)(l:XI):Nat:=(l.filter fun j=>kd ns j==4).length
def abV(t:zo):Prop:=∀ f∈t.2.2,f.2.1=0∧f.2.2.1=[]∧f.2.2.2.1=[]
section
variable {ns:List eu} {cL:XI}
theorem V5(fG:jC ns)(hk:jc FM ns cL){i:Nat}(hi:i<cL.length):∃ x:eu,bL cL (i:Int)=some cL[i]∧bL ns cL[i]=some x∧ns[cL[i].toNat]? = some x∧oo ns cL[i].toNat x∧FM x.1=true∧kd ns cL[i]=x.1∧0≤cL[i]:=by have hv:=hk.v _ (aQa hi);obtain⟨x,e1,e2,e3⟩:=vq hv.1 hv.2;exact⟨x,cF hi,e3,e1,fG _ _ e1,by rw[←e2];exact hk.c _ (aQa hi),e2,hv.1⟩
theorem Pp(fG:jC ns)(hl:ns.length≤100000)(hk:jc FM ns cL)(Aq:cL.length≤5000)(hks:jQ ns cL≤ns.length):∀ m i (t:zo) (D:AS),m+i=cL.length→P1 ns t D→abV t→
  (∃(c p:Int),c≠0∧cz fun q k=>du q k ns cL 0 0 t.1 t.2.1 t.2.2 (i:Int)=some (.inr (c,p,()))∧dO q k ns cL (cL.length:Int) t.1 t.2.1 t.2.2 0 0 D (i:Int)=some (.inr (c,p,())))∨
  ∃(t':zo) (D':AS),P1 ns t' D'∧abV t'∧t'.2.2.length=t.2.2.length+cnt ns (cL.drop i)∧cz fun q k=>du q k ns cL 0 0 t.1 t.2.1 t.2.2 (i:Int)=some (.inl (0,0,t'.1,t'.2.1,t'.2.2,()))∧
   dO q k ns cL (cL.length:Int) t.1 t.2.1 t.2.2 0 0 D (i:Int)=some (.inl (t'.1,t'.2.1,t'.2.2,0,0,D',()))
 |0,i,t,D,h,hp,hf=>by
  have h2:¬ i<cL.length:=by omega
  refine .inr ⟨t,D,hp,hf,?_,cz.succ (cz.of fun q k=>⟨?_,?_⟩)⟩
  ·have:cL.drop i=[]:=by simp;omega
   simp[this,cnt]
  ·simp only[go_sem,du,Q5,h2]
  ·simp only[go_sem,dO,Q5,h2]
 |m+1,i,t,D,h,hp,hf=>by
  have bf:i<cL.length:=by omega
  obtain⟨x,e1,e2,e3,e4,e5,e6,e7⟩:=V5 fG hk bf;have hwk:=aaE (ns:=ns) (aQa bf);rcases W8 hp e7 e3 e2 e4 e5 hl (by omega) with ⟨c,hc,A',G',F',D',g1,g2⟩|⟨t',D',As,jB,tZ,g1,g2⟩
  ·refine .inl ⟨c,x.2.1,hc,cz.succ (g1.tn.mono fun q k e=>⟨?_,?_⟩)⟩
   ·simp only[go_sem,du,pH,Q5,bf,e1,e2,e,a1a.2 hc]
   ·simp only[go_sem,dO,Q5,bf,e1,e2,g2,a1a.2 hc]
  ·have hdr:cnt ns (cL.drop i)=(if x.1=4 then 1 else 0)+cnt ns (cL.drop (i+1)):=by
    rw[aLa bf];simp only[cnt,cua,e6];by_cases h4:x.1=4<;>simp[h4]<;>omega
   have acI:∀{q k r},kY q t.1 t.2.1 t.2.2 x=some (t'.1,t'.2.1,t'.2.2,0,())→du q k ns cL 0 0 t'.1 t'.2.1 t'.2.2 ((i+1:Nat):Int)=r→du q (k+1) ns cL 0 0 t.1 t.2.1 t.2.2 (i:Int)=r:=by intro q k r a1 a2;simp only[go_sem,du,pH,Q5,bf,e1,e2,a1,ag (show i<_ by omega),a2]
   have acJ:∀{q k r},dO q k ns cL (cL.length:Int) t'.1 t'.2.1 t'.2.2 0 0 D' ((i+1:Nat):Int)=r→dO q (k+1) ns cL (cL.length:Int) t.1 t.2.1 t.2.2 0 0 D (i:Int)=r:=by intro q k r a2;simp only[go_sem,dO,Q5,bf,e1,g2,ag (show i<_ by omega),a2]
   rcases Pp fG hl hk Aq hks m (i+1) t' D' (by omega) As (tZ hf) with ⟨c,p,hc,he⟩|⟨t2,D2,q1,q2,q3,he⟩
   ·exact .inl ⟨c,p,hc,cz.succ ((g1.tn.and he).mono fun q k e=>⟨acI e.1 e.2.1,acJ e.2.2⟩)⟩
   ·exact .inr ⟨t2,D2,q1,q2,by omega,cz.succ ((g1.tn.and he).mono fun q k e=>⟨acI e.1 e.2.1,acJ e.2.2⟩)⟩
end
section
variable {ns:List eu} {t:zo} {D:AS}
theorem Vt{F:FS}{A:AS}{G:XS}{f:Nat}{x y:ab×Int×XS×XS×Int}(hx:F[f]? = some x)(hn:y.1=x.1)(u:ab):pK (A,G,F.set f y) u↔pK (A,G,F) u:=by
 have:(∃ z∈F.set f y,z.1=u)↔∃ z∈F,z.1=u:=by
  have h1:(F.set f y).map (·.1)=F.map (·.1):=by
   rw[List.map_set,hn];have:(F.map (·.1))[f]? = some x.1:=by simp[hx]
   apply bKa;intro n;rw[cMa];by_cases e:f=n
   ·subst e
    obtain⟨bf,PL⟩:=ama.1 hx;simp[bf,PL]
   ·simp[e]
  have:∀ F':FS,(∃ z∈F',z.1=u)↔u∈F'.map (·.1):=fun F'=>by simp
  rw[this,this,h1]
 simp only[pK,this]
theorem YC{F:FS}{f:Nat}{x y:ab×Int×XS×XS×Int}(hx:F[f]? = some x)(hn:y.1=x.1)(h:F.Pairwise fun x y=>x.1≠y.1):(F.set f y).Pairwise fun x y=>x.1≠y.1:=by
 have h1:(F.set f y).map (·.1)=F.map (·.1):=by
  rw[List.map_set,hn];apply bKa;intro n;rw[cMa];by_cases e:f=n
  ·subst e
   obtain⟨bf,PL⟩:=ama.1 hx;simp[bf,PL]
  ·simp[e]
 have h2:∀ F':FS,F'.Pairwise (fun x y=>x.1≠y.1)↔(F'.map (·.1)).Pairwise (·≠·):=fun F'=>by rw[List.pairwise_map]
 rw[h2,h1,←h2];exact h
theorem P1.set(hp:P1 ns t D){f:Nat}{x y:ab×Int×XS×XS×Int}(hx:t.2.2[f]? = some x)(hn:y.1=x.1)(hb:y.2.2.2.2=x.2.2.2.2)(hi:y.2.2.1.length≤8∧y.2.2.2.1.length≤3∧0≤y.2.1∧y.2.1≤3):P1 ns (t.1,t.2.1,t.2.2.set f y) D:=by
 have hm:∀ z∈t.2.2.set f y,z∈t.2.2∨z=y:=fun z hz=>List.mem_or_eq_of_mem_set hz;have hxm:=a2a hx;refine⟨⟨hp.iK.a,hp.iK.g,by simpa using hp.iK.f,fun z hz=>?_⟩,fun z hz=>?_,fun z hz=>?_,YC hx hn hp.YB,fun s=>?_⟩
 ·rcases hm z hz with h|rfl
  ·exact hp.iK.i z h
  ·exact hi
 ·rcases hm z hz with h|rfl
  ·exact hp.ne z h
  ·rw[hn];exact hp.ne x hxm
 ·rcases hm z hz with h|rfl
  ·exact hp.bd z h
  ·rw[hb];exact hp.bd x hxm
 ·rw[hp.dec];exact(Vt hx hn s).symm
theorem acA(is rs:XS)(n s:ab):(s∈is++[n]∨s∈rs)↔n=s∨(s∈is∨s∈rs):=by
 rw[ana,Q7];constructor
 ·rintro((h|rfl)|h)
  ·exact .inr (.inl h)
  ·exact .inl rfl
  ·exact .inr (.inr h)
 ·rintro(rfl|h|h)
  ·exact .inl (.inr rfl)
  ·exact .inl (.inl h)
  ·exact .inr h
theorem afr(is rs:XS)(n s:ab):(s∈is∨s∈rs++[n])↔n=s∨(s∈is∨s∈rs):=by
 rw[ana,Q7];constructor
 ·rintro(h|h|rfl)
  ·exact .inr (.inl h)
  ·exact .inr (.inr h)
  ·exact .inl rfl
 ·rintro(rfl|h|h)
  ·exact .inr (.inr rfl)
  ·exact .inl h
  ·exact .inr (.inl h)
def Un(ns:List eu)(D:AS)(K:XI)(f:Nat)(nm:ab)(body:Int)(t:zo)(ps:Int)(is rs:XS)(gK:AS)(i:Nat):Prop:=
 (∃(c p:Int),c≠0∧cz fun q k=>(∃ A G F,dJ q k K ns (f:Int) t.1 t.2.1 t.2.2 0 0 (i:Int)=some (.inr (c,p,A,G,F,())))∧
  ∃ HJ FL FQ,bX q k D ns K.dropLast (K.dropLast.length:Int) 0 0 ps is rs gK (i:Int)=some (.inr (c,p,HJ,FL,FQ,())))∨
 ∃(HJ:Int) (FL FQ:XS),P1 ns (t.1,t.2.1,t.2.2.set f (nm,HJ,FL,FQ,body)) D∧cz fun q k=>dJ q k K ns (f:Int) t.1 t.2.1 t.2.2 0 0 (i:Int)=some (.inl (t.1,t.2.1,t.2.2.set f (nm,HJ,FL,FQ,body),0,0,()))∧
  bX q k D ns K.dropLast (K.dropLast.length:Int) 0 0 ps is rs gK (i:Int)=some (.inl (0,0,HJ,FL,FQ,()))
theorem ZV(fG:jC ns){K:XI}{f:Nat}(hK:∀ j∈K.dropLast,0≤j∧j<(ns.length:Int)∧wL (kd ns j)=true)(hKl:K.length≤5000){nm:ab}{body:Int}:∀ m i (t:zo) (ps:Int) (is rs:XS) (gK:AS),m+i=K.dropLast.length→P1 ns t D→t.2.2[f]? = some (nm,ps,is,rs,body)→(∀ s,0<qL gK s↔(s∈is∨s∈rs))→
  Un ns D K f nm body t ps is rs gK i:=by
 intro m;have mX:K.dropLast.length=K.length - 1:=List.length_dropLast;induction m with
 |zero=>
  intro i t ps is rs gK h hp hx ho;have h1:¬ (i+1:Nat)<K.length:=by omega
  have h2:¬ i<K.dropLast.length:=by omega
  have Ng:t.2.2.set f (nm,ps,is,rs,body)=t.2.2:=by obtain⟨hl,he⟩:=ama.1 hx;rw[←he];simp
  refine .inr ⟨ps,is,rs,by rw[Ng];exact hp,cz.succ (cz.of fun q k=>⟨?_,?_⟩)⟩
  ·simp only[go_sem,dJ,ag (show i<_ by omega),Q5,h1,Ng]
  ·simp only[go_sem,bX,Q5,h2]
 |succ m ih=>
  intro i t ps is rs gK h hp hx ho;obtain⟨A,G,F⟩:=t;have hx:F[f]? = some (nm,ps,is,rs,body):=hx;have bf:i<K.dropLast.length:=by omega
  have h1:(i+1:Nat)<K.length:=by omega
  have Hg:i<K.length:=by omega
  have hj:K.dropLast[i]=K[i]:=by simp
  have hv:=hK _ (aQa bf);rw[hj] at hv;obtain⟨x,e1,e2,e3⟩:=vq hv.1 hv.2.1;rw[e2] at hv;have hbb:=hp.iK.i _ (a2a hx);simp only at hbb;have hnk:=Vf hp.iK nm x.2.2.2.1;have jK:=adL hp.YB (t:=(A,G,F)) (f:=f) hx x.2.2.2.1;have UF:=hp.dec x.2.2.2.1;simp only at jK;have i1:bL K (i:Int)=some K[i]:=cF Hg;have i2:bL K.dropLast (i:Int)=some K[i]:=by rw[cF bf,hj]
  have i3:bL F (f:Int)=some (nm,ps,is,rs,body):=bq hx;have ft:((f:Int)).toNat=f:=aDa f;by_cases htw:(x.2.2.2.1∈is∨x.2.2.2.1∈rs)∨pK (A,G,F) x.2.2.2.1
  ·have hz:((nk (A,G,F) nm x.2.2.2.1).1 != 0)=true:=a1a.2 (jK.2 htw)
   refine .inl ⟨9,x.2.1,by decide,cz.succ (hnk.tn.mono fun q k e=>⟨⟨A,G,F,?_⟩,ps,is,rs,?_⟩)⟩
   ·simp only[go_sem,dJ,ag (show i<_ by omega),Q5,h1,i1,e3,ft,i3,e,hz]
   ·have:((decide (qL D x.2.2.2.1 > 0)) ||(decide (qL gK x.2.2.2.1 > 0)))=true:=by
     simp only[a6a,bTa,bUa,UF,ho];exact htw.elim .inr .inl
    simp only[go_sem,bX,Q5,bf,i2,e3,zY,this]
  ·have hz:((nk (A,G,F) nm x.2.2.2.1).1 != 0)=false:=by
    cases hh:((nk (A,G,F) nm x.2.2.2.1).1 != 0) with
    |false=>rfl
    |true=>exact absurd (jK.1 (a1a.1 hh)) htw
   have hor:((decide (qL D x.2.2.2.1 > 0)) ||(decide (qL gK x.2.2.2.1 > 0)))=false:=by simp only[aGa,cna,bUa,UF,ho];exact⟨fun h=>htw (.inr h),fun h=>htw (.inl h)⟩
   have ho':∀{FL FQ:XS},((∀ s,(s∈FL∨s∈FQ)↔x.2.2.2.1=s∨(s∈is∨s∈rs)))→∀ s,0<qL (ry gK x.2.2.2.1 1) s↔(s∈FL∨s∈FQ):=fun hh s=>by
    rw[E0,hh];by_cases e:x.2.2.2.1=s
    ·simp[e]
    ·simp[e,ho]
   have sk:∀(HJ:Int) (FL FQ:XS),FL.length≤8∧FQ.length≤3∧0≤HJ∧HJ≤3→(∀ s,(s∈FL∨s∈FQ)↔x.2.2.2.1=s∨(s∈is∨s∈rs))→
     (∀ q k r,cW q (A,G,F) nm x.2.2.2.1=some ((nk (A,G,F) nm x.2.2.2.1).1,(nk (A,G,F) nm x.2.2.2.1).2,())→dJ q k K ns (f:Int) A G (F.set f (nm,HJ,FL,FQ,body)) 0 0 ((i+1:Nat):Int)=r→dJ q (k+1) K ns (f:Int) A G F 0 0 (i:Int)=r)→
     (∀ q k r,bX q k D ns K.dropLast (K.dropLast.length:Int) 0 0 HJ FL FQ (ry gK x.2.2.2.1 1) ((i+1:Nat):Int)=r→bX q (k+1) D ns K.dropLast (K.dropLast.length:Int) 0 0 ps is rs gK (i:Int)=r)→
     Un ns D K f nm body (A,G,F) ps is rs gK i:=fun HJ FL FQ hb hh s1 s2=>by
    have Ng:P1 ns (A,G,F.set f (nm,HJ,FL,FQ,body)) D:=hp.set (t:=(A,G,F)) hx rfl rfl hb;have M9:(F.set f (nm,HJ,FL,FQ,body))[f]? = some (nm,HJ,FL,FQ,body):=by have:=(ama.1 hx).1;simp[this]
    rcases ih (i+1) (A,G,F.set f (nm,HJ,FL,FQ,body)) HJ FL FQ (ry gK x.2.2.2.1 1) (by omega) Ng M9 (ho' hh) with ⟨c,p,hc,he⟩|⟨ps2,is2,rs2,HG,he⟩
    ·exact .inl ⟨c,p,hc,cz.succ ((hnk.tn.and he).mono fun q k e=>⟨by obtain⟨A',G',F',e2⟩:=e.2.1;exact⟨A',G',F',s1 q k _ e.1 e2⟩,by obtain⟨p',i',r',e2⟩:=e.2.2;exact⟨p',i',r',s2 q k _ e2⟩⟩)⟩
    ·refine .inr ⟨ps2,is2,rs2,?_,cz.succ ((hnk.tn.and he).mono fun q k e=>⟨?_,s2 q k _ e.2.2⟩)⟩
     ·simpa only[List.set_set] using HG
     ·have:=s1 q k _ e.1 e.2.1
      simpa only[List.set_set] using this
   have lim:∀(ag5:∀ q k,cW q (A,G,F) nm x.2.2.2.1=some ((nk (A,G,F) nm x.2.2.2.1).1,(nk (A,G,F) nm x.2.2.2.1).2,())→dJ q (k+1) K ns (f:Int) A G F 0 0 (i:Int)=some (.inr (8,x.2.1,A,G,F,())))
     (agp:∀ q k,∃ HJ FL FQ,bX q (k+1) D ns K.dropLast (K.dropLast.length:Int) 0 0 ps is rs gK (i:Int)=some (.inr (8,x.2.1,HJ,FL,FQ,()))),Un ns D K f nm body (A,G,F) ps is rs gK i:=
    fun hf1 hf2=>Or.inl ⟨8,x.2.1,by decide,cz.succ (hnk.tn.mono fun q k e=>⟨⟨A,G,F,hf1 q k e⟩,hf2 q k⟩)⟩
   have hkk:x.1=5∨x.1=6∨x.1=7:=by simpa[wL,or_assoc] using hv.2.2
   rcases hkk with hkk|hkk|hkk
   ·
    have n1:((5:Int)==7)=false:=rfl;have n2:((5:Int) != 7)=true:=rfl;have hai:bE is [x.2.2.2.1]=some (is++[x.2.2.2.1]):=oO (by simp;omega)
    by_cases hl:is.length=8∨ps=3
    ·refine lim (fun q k e=>?_) (fun q k=>⟨bC (ps+1),is++[x.2.2.2.1],rs,?_⟩)
     ·by_cases h8:is.length=8
      ·simp only[go_sem,dJ,aa,ag (show i<_ by omega),Q5,h1,i1,e3,ft,i3,e,hz,hkk,n1,n2,h8,show decide (((8:Nat):Int)≥8)=true from rfl]
      ·have h3:ps=3:=hl.resolve_left h8
       simp only[go_sem,dJ,aa,ag (show i<_ by omega),Q5,h1,i1,e3,ft,i3,e,hz,hkk,n1,n2,show decide ((is.length:Int)≥8)=false from bAa (by omega),h3,show decide ((3:Int)≥3)=true from rfl]
     ·have hb:(((is.length:Int)==8) ||(ps==3))=true:=by
       rcases hl with h|h
       ·simp[h]
       ·simp[h]
      simp only[go_sem,bX,Q5,bf,i2,e3,zY,hor,hkk,n1,hb,hai];simp only[go_sem,aa]
    ·simp only[cia] at hl
     have hw:bC (ps+1)=ps+1:=bF (by omega) (by omega)
     refine sk (ps+1) (is++[x.2.2.2.1]) rs ⟨by simp;omega,by omega,by omega,by omega⟩ (acA is rs _) (fun q k r e er=>?_) (fun q k r er=>?_)
     ·simp only[go_sem,dJ,aa,ag (show i<_ by omega),Q5,h1,i1,e3,ft,i3,e,hz,hkk,n1,n2,show decide ((is.length:Int)≥8)=false from bAa (by omega),show decide (ps≥3)=false from bAa (by omega),hai,hw,b_a,bHa,er]
     ·have hb:(((is.length:Int)==8) ||(ps==3))=false:=by
       simp only[aGa,Q6];exact⟨by omega,hl.2⟩
      simp only[go_sem,bX,Q5,bf,i2,e3,zY,hor,hkk,n1,hb,hai,hw];simp only[go_sem,aa,ag (show i<_ by omega),er]
   ·
    have n1:((6:Int)==7)=false:=rfl;have n2:((6:Int) != 7)=true:=rfl;have n3:((6:Int)==5)=false:=rfl;have hai:bE is [x.2.2.2.1]=some (is++[x.2.2.2.1]):=oO (by simp;omega)
    by_cases hl:is.length=8
    ·refine lim (fun q k e=>?_) (fun q k=>⟨ps,is++[x.2.2.2.1],rs,?_⟩)
     ·simp only[go_sem,dJ,aa,ag (show i<_ by omega),Q5,h1,i1,e3,ft,i3,e,hz,hkk,n1,n2,hl,show decide (((8:Nat):Int)≥8)=true from rfl]
     ·simp only[go_sem,bX,Q5,bf,i2,e3,zY,hor,hkk,n1,n3,hl,hai]
      simp only[go_sem,aa,show(((8:Nat):Int)==8)=true from rfl]
    ·refine sk ps (is++[x.2.2.2.1]) rs ⟨by simp;omega,by omega,by omega,by omega⟩ (acA is rs _) (fun q k r e er=>?_) (fun q k r er=>?_)
     ·simp only[go_sem,dJ,aa,ag (show i<_ by omega),Q5,h1,i1,e3,ft,i3,e,hz,hkk,n1,n2,n3,show decide ((is.length:Int)≥8)=false from bAa (by omega),hai,b_a,bHa,er]
     ·have hb:((is.length:Int)==8)=false:=by simp;omega
      simp only[go_sem,bX,Q5,bf,i2,e3,zY,hor,hkk,n1,n3,hb,hai];simp only[go_sem,aa,ag (show i<_ by omega),er]
   ·
    have n2:((7:Int) != 7)=false:=rfl;have n3:((7:Int)==5)=false:=rfl;have hai:bE rs [x.2.2.2.1]=some (rs++[x.2.2.2.1]):=oO (by simp;omega)
    by_cases hl:rs.length=3
    ·refine lim (fun q k e=>?_) (fun q k=>⟨ps,is,rs++[x.2.2.2.1],?_⟩)
     ·simp only[go_sem,dJ,aa,ag (show i<_ by omega),Q5,h1,i1,e3,ft,i3,e,hz,hkk,hl,show decide (((3:Nat):Int)≥3)=true from rfl]
     ·simp only[go_sem,bX,Q5,bf,i2,e3,zY,hor,hkk,hl,hai]
      simp only[go_sem,aa,show(((3:Nat):Int)==3)=true from rfl]
    ·refine sk ps is (rs++[x.2.2.2.1]) ⟨by omega,by simp;omega,by omega,by omega⟩ (afr is rs _) (fun q k r e er=>?_) (fun q k r er=>?_)
     ·simp only[go_sem,dJ,aa,ag (show i<_ by omega),Q5,h1,i1,e3,ft,i3,e,hz,hkk,n2,n3,show decide ((rs.length:Int)≥3)=false from bAa (by omega),hai,b_a,bHa,er]
     ·have hb:((rs.length:Int)==3)=false:=by simp;omega
      simp only[go_sem,bX,Q5,bf,i2,e3,zY,hor,hkk,hb,hai];simp only[go_sem,aa,ag (show i<_ by omega),er]
end
end Go.Fx.R5
namespace Go.Fx.R5
open Go Go.Fx
section
variable {ns:List eu} {cL:XI} {D:AS}
theorem aas{K:XI}(h:K≠[])(hl:K.length≤5000):sub K 0 (bC ((K.length:Int) - 1))=some K.dropLast:=by
 have hp:=List.length_pos_iff.2 h;have:=wS (l:=K) (m:=0) (n:=K.length - 1) (by omega) (by omega)
 rw[bF (by omega) (by omega),show(K.length:Int) - 1=((K.length - 1:Nat):Int) by omega]
 rw[show(0:Int)=((0:Nat):Int) from rfl,this,bPa,List.dropLast_eq_take]
theorem US(fG:jC ns)(hl:ns.length≤100000)(hk:jc FM ns cL)(Aq:cL.length≤5000):∀ m i f (t:zo),m+i=cL.length→P1 ns t D→t.2.2.length=f+cnt ns (cL.drop i)→(∀ n x,f≤n→t.2.2[n]? = some x→x.2.1=0∧x.2.2.1=[]∧x.2.2.2.1=[])→
  (∃(c p:Int),c≠0∧cz fun q k=>dc q k ns cL 0 0 t.1 t.2.1 t.2.2 (f:Int) (i:Int)=some (.inr (c,p,()))∧dx q k ns cL (cL.length:Int) t.2.2 0 0 D (f:Int) (i:Int)=some (.inr (c,p,())))∨
  ∃(F':FS),P1 ns (t.1,t.2.1,F') D∧cz fun q k=>dc q k ns cL 0 0 t.1 t.2.1 t.2.2 (f:Int) (i:Int)=some (.inl (0,0,t.1,t.2.1,F',()))∧
   dx q k ns cL (cL.length:Int) t.2.2 0 0 D (f:Int) (i:Int)=some (.inl (F',0,0,())):=by
 intro m;induction m with
 |zero=>
  intro i f t h hp hc hf;have h2:¬ i<cL.length:=by omega
  refine .inr ⟨t.2.2,hp,cz.succ (cz.of fun q k=>⟨?_,?_⟩)⟩
  ·simp only[go_sem,dc,Q5,h2]
  ·simp only[go_sem,dx,Q5,h2]
 |succ m ih=>
  intro i f t h hp hc hf;have bf:i<cL.length:=by omega
  obtain⟨x,e1,e2,e3,e4,e5,e6,e7⟩:=V5 fG hk bf;have hdr:cnt ns (cL.drop i)=(if x.1=4 then 1 else 0)+cnt ns (cL.drop (i+1)):=by rw[aLa bf];simp only[cnt,cua,e6];by_cases h4:x.1=4<;>simp[h4]<;>omega
  by_cases h4:x.1=4
  rotate_left
  ·have b1:(x.1==4)=false:=Q6.2 h4
   have b2:(x.1 != 4)=true:=a1a.2 h4;rw[aBa h4] at hdr;rcases ih (i+1) f t (by omega) hp (by omega) hf with ⟨c,p,g,he⟩|⟨F',g,he⟩
   ·refine .inl ⟨c,p,g,cz.succ (he.mono fun q k e=>⟨?_,?_⟩)⟩
    ·simp only[go_sem,dc,aa,Q5,bf,e1,e2,b1,ag (show i<_ by omega),e.1]
    ·simp only[go_sem,dx,aa,Q5,bf,e1,e2,b2,ag (show i<_ by omega),e.2]
   ·refine .inr ⟨F',g,cz.succ (he.mono fun q k e=>⟨?_,?_⟩)⟩
    ·simp only[go_sem,dc,aa,Q5,bf,e1,e2,b1,ag (show i<_ by omega),e.1]
    ·simp only[go_sem,dx,aa,Q5,bf,e1,e2,b2,ag (show i<_ by omega),e.2]
  ·rw[a8a h4] at hdr
   have b1:(x.1==4)=true:=a_a.2 h4;have b2:(x.1 != 4)=false:=by rw[h4];rfl
   obtain⟨b,hb,_,_,_,hlc⟩:=aaj e4 h4;have ik:x.2.2.2.2≠[]:=by intro e;rw[e] at hb;cases hb
   have aeV:=e4.nm.2;have agn:f<t.2.2.length:=by omega
   obtain⟨nm,ps,is,rs,body,M9⟩:∃ nm ps is rs body,t.2.2[f]? = some (nm,ps,is,rs,body):=⟨_,_,_,_,_,by rw[bja agn]⟩
   obtain⟨z1,z2,z3⟩:=hf f _ (axa _) M9;simp only at z1 z2 z3;subst z1;subst z2;subst z3;have aeU:bL t.2.2 (f:Int)=some (nm,0,[],[],body):=bq M9;have Y0:=(ama.1 e3).1;have how:=ZV fG (K:=x.2.2.2.2) (f:=f) (fun j hj=>⟨(hlc j hj).1,by have:=(hlc j hj).2.1;omega,(hlc j hj).2.2⟩) aeV (nm:=nm) (body:=body) x.2.2.2.2.dropLast.length 0 t 0 [] [] [] (by omega) hp M9 (fun s=>by simp[qL])
   have qa:=aas ik aeV;have ft:((f:Int)).toNat=f:=aDa f;have hf6:=hp.iK.f;rcases how with ⟨c,p,hc0,he⟩|⟨HJ,FL,FQ,HG,he⟩
   ·have he:Ev fun k=>(∃ A G F,dJ k k x.2.2.2.2 ns (f:Int) t.1 t.2.1 t.2.2 0 0 0=some (.inr (c,p,A,G,F,())))∧
      ∃ HJ FL FQ,bX k k D ns x.2.2.2.2.dropLast (x.2.2.2.2.dropLast.length:Int) 0 0 0 [] [] [] 0=some (.inr (c,p,HJ,FL,FQ,())):=he.j9
    refine .inl ⟨c,p,hc0,cz.succ (he.tn.mono fun q k e=>?_)⟩;obtain⟨⟨A',G',F',e8⟩,HJ,FL,FQ,e9⟩:=e;refine⟨?_,?_⟩
    ·simp only[go_sem,dc,pI,Ct,aa,Q5,bf,e1,e2,b1,e8,a1a.2 hc0]
    ·simp only[go_sem,dx,qo,tf,aa,Q5,bf,e1,e2,b2,aeU,ft,qa,e9,a1a.2 hc0]
   ·have he:Ev fun k=>dJ k k x.2.2.2.2 ns (f:Int) t.1 t.2.1 t.2.2 0 0 0=some (.inl (t.1,t.2.1,t.2.2.set f (nm,HJ,FL,FQ,body),0,0,()))∧
      bX k k D ns x.2.2.2.2.dropLast (x.2.2.2.2.dropLast.length:Int) 0 0 0 [] [] [] 0=some (.inl (0,0,HJ,FL,FQ,())):=he.j9
    have s1:∀{q k r},dJ q q x.2.2.2.2 ns (f:Int) t.1 t.2.1 t.2.2 0 0 0=some (.inl (t.1,t.2.1,t.2.2.set f (nm,HJ,FL,FQ,body),0,0,()))→dc q k ns cL 0 0 t.1 t.2.1 (t.2.2.set f (nm,HJ,FL,FQ,body)) ((f+1:Nat):Int) ((i+1:Nat):Int)=r→
      dc q (k+1) ns cL 0 0 t.1 t.2.1 t.2.2 (f:Int) (i:Int)=r:=fun a1 a2=>by
     simp only[go_sem,dc,pI,Ct,aa,Q5,bf,e1,e2,b1,a1,ag (show i<_ by omega),ag (show f<_ by omega),a2]
    have s2:∀{q k r},bX q q D ns x.2.2.2.2.dropLast (x.2.2.2.2.dropLast.length:Int) 0 0 0 [] [] [] 0=some (.inl (0,0,HJ,FL,FQ,()))→dx q k ns cL (cL.length:Int) (t.2.2.set f (nm,HJ,FL,FQ,body)) 0 0 D ((f+1:Nat):Int) ((i+1:Nat):Int)=r→
      dx q (k+1) ns cL (cL.length:Int) t.2.2 0 0 D (f:Int) (i:Int)=r:=fun a1 a2=>by
     simp only[go_sem,dx,qo,tf,aa,Q5,bf,e1,e2,b2,aeU,ft,qa,a1,ag (show i<_ by omega),ag (show f<_ by omega),a2]
    rcases ih (i+1) (f+1) (t.1,t.2.1,t.2.2.set f (nm,HJ,FL,FQ,body)) (by omega) HG (by simp;omega) (fun n y hn hy=>hf n y (by omega) (by
      have:(t.2.2.set f (nm,HJ,FL,FQ,body))[n]? = some y:=hy;rwa[List.getElem?_set_ne (by omega)] at this)) with ⟨c,p,g,hh⟩|⟨F',g,hh⟩
    ·exact .inl ⟨c,p,g,cz.succ ((he.tn.and hh).mono fun q k e=>⟨s1 e.1.1 e.2.1,s2 e.1.2 e.2.2⟩)⟩
    ·exact .inr ⟨F',g,cz.succ ((he.tn.and hh).mono fun q k e=>⟨s1 e.1.1 e.2.1,s2 e.1.2 e.2.2⟩)⟩
end
end Go.Fx.R5
namespace Go.Fx.R5
open Go Go.Fx
def W(t:zo)(fn s:ab)(a b:Int):Int:=if(nk t fn s).1=0 then 10 else if(nk t fn s).1=a∨(nk t fn s).1=b then 0 else 11
def KY(l:XS)(D:AS):Prop:=∀ s,0<qL D s↔s∈l
def H0(t:zo)(fn:ab)(l:XS)(s:ab)(a b:Int):Int:=if W t fn s a b≠0 then W t fn s a b else if s∈l then 11 else 0
def LT(c a:Int):Int:=if c=0 then 0 else a
section
variable {t:zo} {fn s:ab} {ns:List eu} {l:XS} {D:AS}
theorem EF(ht:iQ t)(s:ab)(lW a b:Int):Ev fun k=>hZ k t.1 t.2.1 t.2.2 fn 0 0 s lW a b=some (W t fn s a b,LT (W t fn s a b) lW,()):=
 (Vf ht fn s).mono fun k e=>by
  simp only[go_sem,hZ,show cW k (t.1,t.2.1,t.2.2) fn s=_ from e,cu,aa,W,LT]
  by_cases h0:(nk t fn s).1=0
  ·simp[h0]
  ·by_cases ha:(nk t fn s).1=a
   ·have h0':¬ a=0:=fun h=>h0 (ha.trans h)
    simp[ha,h0',Q6.2 h0']
   ·by_cases hb:(nk t fn s).1=b
    ·have h0':¬ b=0:=fun h=>h0 (hb.trans h)
     have ha':(b != a)=true:=a1a.2 fun h=>ha (hb.trans h);simp[hb,h0',Q6.2 h0',ha']
    ·simp[h0,ha,hb,Q6.2 h0,bne,Q6.2 ha,Q6.2 hb]
theorem WF{c p:Int}(hc:c≠0)(ht:iQ t)(s:ab)(lW a b:Int):Ev fun k=>hZ k t.1 t.2.1 t.2.2 fn c p s lW a b=some (c,p,()):=
 (Vf ht fn s).mono fun k e=>by
  simp only[go_sem,hZ,show cW k (t.1,t.2.1,t.2.2) fn s=_ from e,cu,Q6.2 hc,aa]
  cases ((nk t fn s).1==0)<;>cases ((nk t fn s).1 != a)<;>cases ((nk t fn s).1 != b)<;>rfl
theorem pU(l:XS)(s:ab):decide (0≤nR (fun x=>x==s) l 0)=decide (s∈l):=cda.2 (by rw[Cj];simp)
theorem acF(ht:iQ t)(hl:l.length≤1000000)(s:ab)(lW:Int):Ev fun k=>uJ k t.1 t.2.1 t.2.2 fn l 0 0 s lW = some (l,H0 t fn l s 3 2,LT (H0 t fn l s 3 2) lW,()):=
 ((EF (fn:=fn) ht s lW 3 2).and (I6 l s hl)).mono fun k e=>by
  simp only[go_sem,uJ,e.1,e.2,ge0,pU,cu,H0,LT];by_cases hw:W t fn s 3 2=0
  ·by_cases hm:s∈l<;>simp[hw,hm]
  ·by_cases hm:s∈l<;>simp[hw,hm,Q6.2 hw]
theorem UU(q:Nat)(n a:Int)(k:Nat):eC q (k+2) n [a] 1 0=some (bif a==n then .inr (0,()) else .inl ()):=by
 rw[eC];simp only[go_sem,show decide ((0:Int)<1)=true from rfl,show bL [a] 0=some a from rfl,show bC (0+1)=1 from rfl]
 rw[eC];simp only[go_sem,show decide ((1:Int)<1)=false from rfl]
 cases (a==n)<;>rfl
theorem UV(q:Nat)(n a b:Int)(k:Nat):eC q (k+3) n [a,b] 2 0=some (bif a==n then .inr (0,()) else bif b==n then .inr (0,()) else .inl ()):=by
 rw[eC];simp only[go_sem,show decide ((0:Int)<2)=true from rfl,show bL [a,b] 0=some a from rfl,show bC (0+1)=1 from rfl]
 rw[eC];simp only[go_sem,show decide ((1:Int)<2)=true from rfl,show bL [a,b] 1=some b from rfl,show bC (1+1)=2 from rfl]
 rw[eC];simp only[go_sem,show decide ((2:Int)<2)=false from rfl]
 cases (a==n)<;>cases (b==n)<;>rfl
theorem EW(ht:iQ t)(s:ab)(a:Int):Ev fun k=>dP k t.1 t.2.1 t.2.2 fn s [a]=some (W t fn s a a,()):=
 ((Zg ht fn s).and ⟨2,fun k hk=>hk⟩).mono fun k e=>by
  obtain⟨j,rfl⟩:∃ j,k=j+2:=⟨k - 2,by omega⟩
  simp only[go_sem,dP,gR,show fQ (j+2) (t.1,t.2.1,t.2.2) fn s=_ from e.1,show((([a]:XI).length:Int))=1 from rfl,UU,W,bka]
  by_cases h0:(nk t fn s).1=0
  ·simp[h0]
  ·by_cases ha:(nk t fn s).1=a
   ·have:¬ a=0:=fun h=>h0 (ha.trans h)
    simp[ha,this,Q6.2 this]
   ·have:(a==(nk t fn s).1)=false:=Q6.2 (bDa ha)
    simp[h0,ha,this,Q6.2 h0]
theorem aba(ht:iQ t)(s:ab)(a b:Int):Ev fun k=>dP k t.1 t.2.1 t.2.2 fn s [a,b]=some (W t fn s a b,()):=
 ((Zg ht fn s).and ⟨3,fun k hk=>hk⟩).mono fun k e=>by
  obtain⟨j,rfl⟩:∃ j,k=j+3:=⟨k - 3,by omega⟩
  simp only[go_sem,dP,gR,show fQ (j+3) (t.1,t.2.1,t.2.2) fn s=_ from e.1,show((([a,b]:XI).length:Int))=2 from rfl,UV,W]
  by_cases h0:(nk t fn s).1=0
  ·simp[h0]
  ·by_cases ha:(nk t fn s).1=a
   ·have:¬ a=0:=fun h=>h0 (ha.trans h)
    simp[ha,this,Q6.2 this]
   ·have h1:(a==(nk t fn s).1)=false:=Q6.2 (bDa ha)
    by_cases hb:(nk t fn s).1=b
    ·have h0':¬ b=0:=fun h=>h0 (hb.trans h)
     have h1':(a==b)=false:=Q6.2 fun h=>ha (hb.trans h.symm);simp[hb,h0',Q6.2 h0',h1']
    ·have h2:(b==(nk t fn s).1)=false:=Q6.2 (bDa hb)
     simp[h0,ha,hb,h1,h2,Q6.2 h0]
theorem VW{k:Nat}{c:Int}{ks:XI}{a b:Int}(hr:KY l D)(e:dP k t.1 t.2.1 t.2.2 fn s ks=some (W t fn s a b,())):np k t.1 t.2.1 t.2.2 fn D s ks=some (H0 t fn l s a b,()):=by
 simp only[go_sem,np,e,H0];by_cases hw:W t fn s a b=0
 ·have:=hr s
  by_cases hm:s∈l
  ·have h:qL D s > 0:=this.2 hm
   simp[hw,hm,h]
  ·have h:¬ qL D s > 0:=fun h=>hm (this.1 h)
   simp[hw,hm,h]
 ·simp[hw,a1a.2 hw]
def oY(t:zo)(fn:ab)(l:XS)(x:eu):Int:=
 if x.1=25 then W t fn x.2.2.2.1 3 2 else if x.1=26∨x.1=10 then W t fn x.2.2.2.1 1 1 else
 if x.1=27∨x.1=11∨x.1=13∨x.1=34∨x.1=12 then W t fn x.2.2.2.1 4 4 else
 if x.1=17∨x.1=22 then H0 t fn l x.2.2.2.1 3 2 else if x.1=16 then H0 t fn l x.2.2.2.1 3 3 else 0
theorem WD(ht:iQ t)(hl:l.length≤1000000){i:Nat}{x:eu}(hx:ns[i]? = some x):Ev fun k=>gS k t.1 t.2.1 t.2.2 ns fn l 0 0 (i:Int)=some (l,oY t fn l x,LT (oY t fn l x) x.2.1,()):=by
 obtain⟨kk,lW,nu,nm,ks⟩:=x;refine((((EF (fn:=fn) ht nm lW 3 2).and (EF (fn:=fn) ht nm lW 1 1)).and ((EF (fn:=fn) ht nm lW 4 4).and (acF (fn:=fn) ht hl nm lW))).and ((EF (fn:=fn) ht nm lW 3 3).and (I6 l nm hl))).mono fun k e=>?_;obtain⟨⟨⟨e1,e2⟩,e3,e4⟩,e5,e6⟩:=e;by_cases h25:kk=25
 ·subst h25
  simp only[go_sem,gS,bq hx,aa,show((25:Int)==25)=true from rfl,show((25:Int)==26)=false from rfl,show((25:Int)==10)=false from rfl,show((25:Int)==27)=false from rfl,show((25:Int)==11)=false from rfl,show((25:Int)==13)=false from rfl,show((25:Int)==34)=false from rfl,show((25:Int)==12)=false from rfl,show((25:Int)==17)=false from rfl,show((25:Int)==22)=false from rfl,show((25:Int)==16)=false from rfl,e1,e2,e3,e4,e5,e6,ge0,pU,cu,oY,Int.reduceEq,reduceIte,bya,bBa,bca,boa,bka]
 by_cases h26:kk=26
 ·subst h26
  simp only[go_sem,gS,bq hx,aa,show((26:Int)==25)=false from rfl,show((26:Int)==26)=true from rfl,show((26:Int)==10)=false from rfl,show((26:Int)==27)=false from rfl,show((26:Int)==11)=false from rfl,show((26:Int)==13)=false from rfl,show((26:Int)==34)=false from rfl,show((26:Int)==12)=false from rfl,show((26:Int)==17)=false from rfl,show((26:Int)==22)=false from rfl,show((26:Int)==16)=false from rfl,e1,e2,e3,e4,e5,e6,ge0,pU,cu,oY,Int.reduceEq,reduceIte,bya,bBa,bca,boa,bka]
 by_cases h10:kk=10
 ·subst h10
  simp only[go_sem,gS,bq hx,aa,show((10:Int)==25)=false from rfl,show((10:Int)==26)=false from rfl,show((10:Int)==10)=true from rfl,show((10:Int)==27)=false from rfl,show((10:Int)==11)=false from rfl,show((10:Int)==13)=false from rfl,show((10:Int)==34)=false from rfl,show((10:Int)==12)=false from rfl,show((10:Int)==17)=false from rfl,show((10:Int)==22)=false from rfl,show((10:Int)==16)=false from rfl,e1,e2,e3,e4,e5,e6,ge0,pU,cu,oY,Int.reduceEq,reduceIte,bya,bBa,bca,boa,bka]
 by_cases h27:kk=27
 ·subst h27
  simp only[go_sem,gS,bq hx,aa,show((27:Int)==25)=false from rfl,show((27:Int)==26)=false from rfl,show((27:Int)==10)=false from rfl,show((27:Int)==27)=true from rfl,show((27:Int)==11)=false from rfl,show((27:Int)==13)=false from rfl,show((27:Int)==34)=false from rfl,show((27:Int)==12)=false from rfl,show((27:Int)==17)=false from rfl,show((27:Int)==22)=false from rfl,show((27:Int)==16)=false from rfl,e1,e2,e3,e4,e5,e6,ge0,pU,cu,oY,Int.reduceEq,reduceIte,bya,bBa,bca,boa,bka]
 by_cases h11:kk=11
 ·subst h11
  simp only[go_sem,gS,bq hx,aa,show((11:Int)==25)=false from rfl,show((11:Int)==26)=false from rfl,show((11:Int)==10)=false from rfl,show((11:Int)==27)=false from rfl,show((11:Int)==11)=true from rfl,show((11:Int)==13)=false from rfl,show((11:Int)==34)=false from rfl,show((11:Int)==12)=false from rfl,show((11:Int)==17)=false from rfl,show((11:Int)==22)=false from rfl,show((11:Int)==16)=false from rfl,e1,e2,e3,e4,e5,e6,ge0,pU,cu,oY,Int.reduceEq,reduceIte,bya,bBa,bca,boa,bka]
 by_cases h13:kk=13
 ·subst h13
  simp only[go_sem,gS,bq hx,aa,show((13:Int)==25)=false from rfl,show((13:Int)==26)=false from rfl,show((13:Int)==10)=false from rfl,show((13:Int)==27)=false from rfl,show((13:Int)==11)=false from rfl,show((13:Int)==13)=true from rfl,show((13:Int)==34)=false from rfl,show((13:Int)==12)=false from rfl,show((13:Int)==17)=false from rfl,show((13:Int)==22)=false from rfl,show((13:Int)==16)=false from rfl,e1,e2,e3,e4,e5,e6,ge0,pU,cu,oY,Int.reduceEq,reduceIte,bya,bBa,bca,boa,bka]
 by_cases h34:kk=34
 ·subst h34
  simp only[go_sem,gS,bq hx,aa,show((34:Int)==25)=false from rfl,show((34:Int)==26)=false from rfl,show((34:Int)==10)=false from rfl,show((34:Int)==27)=false from rfl,show((34:Int)==11)=false from rfl,show((34:Int)==13)=false from rfl,show((34:Int)==34)=true from rfl,show((34:Int)==12)=false from rfl,show((34:Int)==17)=false from rfl,show((34:Int)==22)=false from rfl,show((34:Int)==16)=false from rfl,e1,e2,e3,e4,e5,e6,ge0,pU,cu,oY,Int.reduceEq,reduceIte,bya,bBa,bca,boa,bka]
 by_cases Kx:kk=12
 ·subst Kx
  simp only[go_sem,gS,bq hx,aa,show((12:Int)==25)=false from rfl,show((12:Int)==26)=false from rfl,show((12:Int)==10)=false from rfl,show((12:Int)==27)=false from rfl,show((12:Int)==11)=false from rfl,show((12:Int)==13)=false from rfl,show((12:Int)==34)=false from rfl,show((12:Int)==12)=true from rfl,show((12:Int)==17)=false from rfl,show((12:Int)==22)=false from rfl,show((12:Int)==16)=false from rfl,e1,e2,e3,e4,e5,e6,ge0,pU,cu,oY,Int.reduceEq,reduceIte,bya,bBa,bca,boa,bka]
 by_cases h17:kk=17
 ·subst h17
  simp only[go_sem,gS,bq hx,aa,show((17:Int)==25)=false from rfl,show((17:Int)==26)=false from rfl,show((17:Int)==10)=false from rfl,show((17:Int)==27)=false from rfl,show((17:Int)==11)=false from rfl,show((17:Int)==13)=false from rfl,show((17:Int)==34)=false from rfl,show((17:Int)==12)=false from rfl,show((17:Int)==17)=true from rfl,show((17:Int)==22)=false from rfl,show((17:Int)==16)=false from rfl,e1,e2,e3,e4,e5,e6,ge0,pU,cu,oY,Int.reduceEq,reduceIte,bya,bBa,bca,boa,bka]
 by_cases D6:kk=22
 ·subst D6
  simp only[go_sem,gS,bq hx,aa,show((22:Int)==25)=false from rfl,show((22:Int)==26)=false from rfl,show((22:Int)==10)=false from rfl,show((22:Int)==27)=false from rfl,show((22:Int)==11)=false from rfl,show((22:Int)==13)=false from rfl,show((22:Int)==34)=false from rfl,show((22:Int)==12)=false from rfl,show((22:Int)==17)=false from rfl,show((22:Int)==22)=true from rfl,show((22:Int)==16)=false from rfl,e1,e2,e3,e4,e5,e6,ge0,pU,cu,oY,Int.reduceEq,reduceIte,bya,bBa,bca,boa,bka]
 by_cases F3:kk=16
 ·subst F3
  simp only[go_sem,gS,bq hx,aa,show((16:Int)==25)=false from rfl,show((16:Int)==26)=false from rfl,show((16:Int)==10)=false from rfl,show((16:Int)==27)=false from rfl,show((16:Int)==11)=false from rfl,show((16:Int)==13)=false from rfl,show((16:Int)==34)=false from rfl,show((16:Int)==12)=false from rfl,show((16:Int)==17)=false from rfl,show((16:Int)==22)=false from rfl,show((16:Int)==16)=true from rfl,e1,e2,e3,e4,e5,e6,ge0,pU,cu,oY,Int.reduceEq,reduceIte,bya,bBa,bca,boa,bka]
  simp only[H0,LT];by_cases hw:W t fn nm 3 3=0
  ·by_cases hm:nm∈l<;>simp[hw,hm]
  ·by_cases hm:nm∈l<;>simp[hw,hm,Q6.2 hw]
 simp only[go_sem,gS,bq hx,aa,Q6.2 h25,h25,Q6.2 h26,h26,Q6.2 h10,h10,Q6.2 h27,h27,Q6.2 h11,h11,Q6.2 h13,h13,Q6.2 h34,h34,Q6.2 Kx,Kx,Q6.2 h17,h17,Q6.2 D6,D6,Q6.2 F3,F3,oY,bka,reduceIte];rfl
theorem Hh(ht:iQ t)(l:XS)(x:eu):Ev fun k=>∀ D,KY l D→cR k t.1 t.2.1 t.2.2 fn D x=some (if x.1=9 then H0 t fn l x.2.2.2.1 3 2 else oY t fn l x,()):=by
 obtain⟨kk,lW,nu,nm,ks⟩:=x;refine(((aba (fn:=fn) ht nm 3 2).and (EW (fn:=fn) ht nm 1)).and ((EW (fn:=fn) ht nm 4).and (EW (fn:=fn) ht nm 3))).mono fun k e=>?_;obtain⟨⟨e1,e2⟩,e3,e4⟩:=e;intro D hr;have e5:=VW (c:=0) hr e1;have e6:=VW (c:=0) hr e4;by_cases h25:kk=25
 ·subst h25
  simp only[go_sem,cR,aa,show((25:Int)==25)=true from rfl,show((25:Int)==26)=false from rfl,show((25:Int)==10)=false from rfl,show((25:Int)==27)=false from rfl,show((25:Int)==11)=false from rfl,show((25:Int)==13)=false from rfl,show((25:Int)==34)=false from rfl,show((25:Int)==12)=false from rfl,show((25:Int)==17)=false from rfl,show((25:Int)==22)=false from rfl,show((25:Int)==9)=false from rfl,show((25:Int)==16)=false from rfl,e1,e2,e3,e5,e6,oY,Int.reduceEq,reduceIte,bya,bBa,bca,boa,bka]
 by_cases h26:kk=26
 ·subst h26
  simp only[go_sem,cR,aa,show((26:Int)==25)=false from rfl,show((26:Int)==26)=true from rfl,show((26:Int)==10)=false from rfl,show((26:Int)==27)=false from rfl,show((26:Int)==11)=false from rfl,show((26:Int)==13)=false from rfl,show((26:Int)==34)=false from rfl,show((26:Int)==12)=false from rfl,show((26:Int)==17)=false from rfl,show((26:Int)==22)=false from rfl,show((26:Int)==9)=false from rfl,show((26:Int)==16)=false from rfl,e1,e2,e3,e5,e6,oY,Int.reduceEq,reduceIte,bya,bBa,bca,boa,bka]
 by_cases h10:kk=10
 ·subst h10
  simp only[go_sem,cR,aa,show((10:Int)==25)=false from rfl,show((10:Int)==26)=false from rfl,show((10:Int)==10)=true from rfl,show((10:Int)==27)=false from rfl,show((10:Int)==11)=false from rfl,show((10:Int)==13)=false from rfl,show((10:Int)==34)=false from rfl,show((10:Int)==12)=false from rfl,show((10:Int)==17)=false from rfl,show((10:Int)==22)=false from rfl,show((10:Int)==9)=false from rfl,show((10:Int)==16)=false from rfl,e1,e2,e3,e5,e6,oY,Int.reduceEq,reduceIte,bya,bBa,bca,boa,bka]
 by_cases h27:kk=27
 ·subst h27
  simp only[go_sem,cR,aa,show((27:Int)==25)=false from rfl,show((27:Int)==26)=false from rfl,show((27:Int)==10)=false from rfl,show((27:Int)==27)=true from rfl,show((27:Int)==11)=false from rfl,show((27:Int)==13)=false from rfl,show((27:Int)==34)=false from rfl,show((27:Int)==12)=false from rfl,show((27:Int)==17)=false from rfl,show((27:Int)==22)=false from rfl,show((27:Int)==9)=false from rfl,show((27:Int)==16)=false from rfl,e1,e2,e3,e5,e6,oY,Int.reduceEq,reduceIte,bya,bBa,bca,boa,bka]
 by_cases h11:kk=11
 ·subst h11
  simp only[go_sem,cR,aa,show((11:Int)==25)=false from rfl,show((11:Int)==26)=false from rfl,show((11:Int)==10)=false from rfl,show((11:Int)==27)=false from rfl,show((11:Int)==11)=true from rfl,show((11:Int)==13)=false from rfl,show((11:Int)==34)=false from rfl,show((11:Int)==12)=false from rfl,show((11:Int)==17)=false from rfl,show((11:Int)==22)=false from rfl,show((11:Int)==9)=false from rfl,show((11:Int)==16)=false from rfl,e1,e2,e3,e5,e6,oY,Int.reduceEq,reduceIte,bya,bBa,bca,boa,bka]
 by_cases h13:kk=13
 ·subst h13
  simp only[go_sem,cR,aa,show((13:Int)==25)=false from rfl,show((13:Int)==26)=false from rfl,show((13:Int)==10)=false from rfl,show((13:Int)==27)=false from rfl,show((13:Int)==11)=false from rfl,show((13:Int)==13)=true from rfl,show((13:Int)==34)=false from rfl,show((13:Int)==12)=false from rfl,show((13:Int)==17)=false from rfl,show((13:Int)==22)=false from rfl,show((13:Int)==9)=false from rfl,show((13:Int)==16)=false from rfl,e1,e2,e3,e5,e6,oY,Int.reduceEq,reduceIte,bya,bBa,bca,boa,bka]
 by_cases h34:kk=34
 ·subst h34
  simp only[go_sem,cR,aa,show((34:Int)==25)=false from rfl,show((34:Int)==26)=false from rfl,show((34:Int)==10)=false from rfl,show((34:Int)==27)=false from rfl,show((34:Int)==11)=false from rfl,show((34:Int)==13)=false from rfl,show((34:Int)==34)=true from rfl,show((34:Int)==12)=false from rfl,show((34:Int)==17)=false from rfl,show((34:Int)==22)=false from rfl,show((34:Int)==9)=false from rfl,show((34:Int)==16)=false from rfl,e1,e2,e3,e5,e6,oY,Int.reduceEq,reduceIte,bya,bBa,bca,boa,bka]
 by_cases Kx:kk=12
 ·subst Kx
  simp only[go_sem,cR,aa,show((12:Int)==25)=false from rfl,show((12:Int)==26)=false from rfl,show((12:Int)==10)=false from rfl,show((12:Int)==27)=false from rfl,show((12:Int)==11)=false from rfl,show((12:Int)==13)=false from rfl,show((12:Int)==34)=false from rfl,show((12:Int)==12)=true from rfl,show((12:Int)==17)=false from rfl,show((12:Int)==22)=false from rfl,show((12:Int)==9)=false from rfl,show((12:Int)==16)=false from rfl,e1,e2,e3,e5,e6,oY,Int.reduceEq,reduceIte,bya,bBa,bca,boa,bka]
 by_cases h17:kk=17
 ·subst h17
  simp only[go_sem,cR,aa,show((17:Int)==25)=false from rfl,show((17:Int)==26)=false from rfl,show((17:Int)==10)=false from rfl,show((17:Int)==27)=false from rfl,show((17:Int)==11)=false from rfl,show((17:Int)==13)=false from rfl,show((17:Int)==34)=false from rfl,show((17:Int)==12)=false from rfl,show((17:Int)==17)=true from rfl,show((17:Int)==22)=false from rfl,show((17:Int)==9)=false from rfl,show((17:Int)==16)=false from rfl,e1,e2,e3,e5,e6,oY,Int.reduceEq,reduceIte,bya,bBa,bca,boa,bka]
 by_cases D6:kk=22
 ·subst D6
  simp only[go_sem,cR,aa,show((22:Int)==25)=false from rfl,show((22:Int)==26)=false from rfl,show((22:Int)==10)=false from rfl,show((22:Int)==27)=false from rfl,show((22:Int)==11)=false from rfl,show((22:Int)==13)=false from rfl,show((22:Int)==34)=false from rfl,show((22:Int)==12)=false from rfl,show((22:Int)==17)=false from rfl,show((22:Int)==22)=true from rfl,show((22:Int)==9)=false from rfl,show((22:Int)==16)=false from rfl,e1,e2,e3,e5,e6,oY,Int.reduceEq,reduceIte,bya,bBa,bca,boa,bka]
 by_cases h9:kk=9
 ·subst h9
  simp only[go_sem,cR,aa,show((9:Int)==25)=false from rfl,show((9:Int)==26)=false from rfl,show((9:Int)==10)=false from rfl,show((9:Int)==27)=false from rfl,show((9:Int)==11)=false from rfl,show((9:Int)==13)=false from rfl,show((9:Int)==34)=false from rfl,show((9:Int)==12)=false from rfl,show((9:Int)==17)=false from rfl,show((9:Int)==22)=false from rfl,show((9:Int)==9)=true from rfl,show((9:Int)==16)=false from rfl,e1,e2,e3,e5,e6,oY,Int.reduceEq,reduceIte,bya,bBa,bca,boa,bka]
 by_cases F3:kk=16
 ·subst F3
  simp only[go_sem,cR,aa,show((16:Int)==25)=false from rfl,show((16:Int)==26)=false from rfl,show((16:Int)==10)=false from rfl,show((16:Int)==27)=false from rfl,show((16:Int)==11)=false from rfl,show((16:Int)==13)=false from rfl,show((16:Int)==34)=false from rfl,show((16:Int)==12)=false from rfl,show((16:Int)==17)=false from rfl,show((16:Int)==22)=false from rfl,show((16:Int)==9)=false from rfl,show((16:Int)==16)=true from rfl,e1,e2,e3,e5,e6,oY,Int.reduceEq,reduceIte,bya,bBa,bca,boa,bka]
 simp only[go_sem,cR,aa,Q6.2 h25,h25,Q6.2 h26,h26,Q6.2 h10,h10,Q6.2 h27,h27,Q6.2 h11,h11,Q6.2 h13,h13,Q6.2 h34,h34,Q6.2 Kx,Kx,Q6.2 h17,h17,Q6.2 D6,D6,Q6.2 h9,h9,Q6.2 F3,F3,oY,bka,reduceIte]
end
end Go.Fx.R5
namespace Go.Fx.R5
open Go Go.Fx
def Em(ns:List eu)(j:Int):ab:=match ns[j.toNat]? with|some y=>y.2.2.2.1|none=>[]
inductive HR(ns:List eu)(t:zo)(fn:ab):Nat→Prop
 |mk (i:Nat) (x:eu) (hx:ns[i]? = some x) (hk:∀ j∈x.2.2.2.2,HR ns t fn j.toNat) (hc:x.1=22→∀ u,x.2.2.2.2.head? = some u→(nk t fn (Em ns u)).1=5)
  (ha:x.1=12→∀ u,x.2.2.2.2.head? = some u→(nk t fn (Em ns u)).1=1):HR ns t fn i
def Ur(l:XS)(B:Nat)(c p:Int)(o:Option (XS×Int×Int×Unit)):Prop:=∃ bl,o=some (bl,c,p,())∧bl.length≤l.length+B∧(c=0→bl=l)
def aaH(l:XS)(c p:Int)(o:Option ((Int×Int)×AS×Unit)):Prop:=∃ bm,o=some ((c,p),bm,())∧(c=0→KY l bm)
def Sl(l:XS)(c p:Int)(o:Option ((Int×Int×AS×Unit)⊕(Int×Int×AS×Unit))):Prop:=∃ bm,o=some (if c=0 then .inl (0,0,bm,()) else .inr (c,p,bm,()))∧(c=0→KY l bm)
theorem oe(k:Nat):dK (k+1)=cQ (dK k) (dG k) (eQ k) k:=rfl
theorem Fa(k:Nat):dG (k+1)=it (dK k) (dG k) (eQ k) k:=rfl
theorem Mc(k:Nat):eQ (k+1)=mr (dK k) (dG k) (eQ k) k:=rfl
theorem VY(k:Nat):bN (k+1)=kF (bN k) (cv k) (bY k) k:=rfl
theorem kE(k:Nat):cv (k+1)=a6 (bN k) (cv k) (bY k) k:=rfl
theorem Ni(k:Nat):bY (k+1)=gY (bN k) (cv k) (bY k) k:=rfl
theorem A6{rn ra rc}(q:Nat)(Kd:Int)(hK:(Kd==16)=false)(nm:ab):∀ k K A G F ns fn b c p i,iP rn ra rc q k K A G F ns fn b c p i=bP rn ra rc q k Kd nm K A G F ns fn b c p i
 |0,_,_,_,_,_,_,_,_,_,_=>rfl
 |k+1,K,A,G,F,ns,fn,b,c,p,i=>by simp only[go_sem,iP,bP,aa,hK,A6 q Kd hK nm k]
theorem Yu{rn ra rc}(q:Nat):∀ k ns A G F fn P I R B K n w w2 b i,cN rn ra rc q k ns A G F fn P I R B K n w w2 b i=aS rn ra rc q k ns A G F fn P I R B K n w w2 b i
 |0,_,_,_,_,_,_,_,_,_,_,_,_,_,_,_=>rfl
 |k+1,ns,A,G,F,fn,P,I,R,B,K,n,w,w2,b,i=>by simp only[cN,aS,Yu q k]
section
variable {t:zo} {fn:ab} {ns:List eu} {P:Int} {Is Rs:XS} {B:Int}
theorem In{c p:Int}(hc:c≠0){i:Nat}{x:eu}(hx:ns[i]? = some x)(k:Nat)(b:XS):dK (k+1) t.1 t.2.1 t.2.2 ns fn b c p (i:Int)=some (b,c,p,()):=by rw[oe];simp only[go_sem,cQ,bq hx,a1a.2 hc]
theorem Kw{c p:Int}(hc:c≠0){Kd:Int}(hK:(Kd==16)=false){nm:ab}{K:XI}(hv:∀ j∈K,0≤j∧j<(ns.length:Int))(hl:K.length≤1000000)(q:Nat):∀(m s k:Nat) (b:XS),m+s=K.length→m<k→
  bP (dK (q+1)) (dG (q+1)) (eQ (q+1)) (q+1) k Kd nm K t.1 t.2.1 t.2.2 ns fn b c p (s:Int)=some (b,c,p,())
 |0,s,k+1,b,h,_=>by
  have:¬ s<K.length:=by omega
  simp only[go_sem,bP,Q5,this]
 |m+1,s,k+1,b,h,hk=>by
  have bf:s<K.length:=by omega
  have hj:=hv _ (aQa bf);obtain⟨x,e1,_,_⟩:=vq hj.1 hj.2;have en:=In (t:=t) (fn:=fn) (p:=p) hc e1 q b;rw[aRa hj.1] at en;simp only[go_sem,bP,aa,Q5,bf,hK,cF bf,en,ag (show s<_ by omega),Kw hc hK hv hl q m (s+1) k b (by omega) (by omega)]
def NB(t:zo)(fn:ab)(ns:List eu)(P:Int)(Is Rs:XS)(B:Int)(i:Nat):Prop:=∀ l:XS,l.length+i≤4000→∃ c p,(c=0→p=0∧HR ns t fn i)∧
 Ev fun k=>Ur l (i+1) c p (dK k t.1 t.2.1 t.2.2 ns fn l 0 0 (i:Int))∧∀ D,KY l D→aaH l c p (cv k ns t.1 t.2.1 t.2.2 fn P Is Rs B D (i:Int))
theorem Bp{Kd:Int}(hK:(Kd==16)=false){nm:ab}{K:XI}(hv:∀ j∈K,0≤j∧j<(ns.length:Int))(hl:K.length≤1000000){l:XS}{i:Nat}(hli:l.length+i≤4000):∀ m s,m+s=K.length→(∀ j∈K.drop s,j<(i:Int)∧NB t fn ns P Is Rs B j.toNat)→
  ∃ c p,(c=0→p=0∧∀ j∈K.drop s,HR ns t fn j.toNat)∧cz fun q k=>
   Ur l i c p (bP (dK q) (dG q) (eQ q) q k Kd nm K t.1 t.2.1 t.2.2 ns fn l 0 0 (s:Int))∧
   ∀ D,KY l D→Sl l c p (aS (bN q) (cv q) (bY q) q k ns t.1 t.2.1 t.2.2 fn P Is Rs B K (K.length:Int) 0 0 D (s:Int))
 |0,s,h,_=>by
  have h2:¬ s<K.length:=by omega
  have e:K.drop s=[]:=by simp;omega
  refine⟨0,0,fun _=>⟨rfl,by rw[e];simp⟩,cz.succ (cz.of fun q k=>⟨⟨l,?_,by omega,fun _=>rfl⟩,fun D hr=>⟨D,?_,fun _=>hr⟩⟩)⟩
  ·simp only[go_sem,bP,Q5,h2]
  ·simp only[go_sem,aS,Q5,h2,reduceIte]
 |m+1,s,h,hn=>by
  have bf:s<K.length:=by omega
  have hd:K.drop s=K[s]::K.drop (s+1):=aLa bf;have hj:=hv _ (aQa bf);have hnj:=hn K[s] (by rw[hd];exact awa)
  have hjn:((K[s].toNat:Nat):Int)=K[s]:=aRa hj.1;obtain⟨c,p,hc,he⟩:=hnj.2 l (by omega)
  rw[hjn] at he;by_cases h0:c=0
  ·subst h0
   obtain⟨rfl,He⟩:=hc rfl;obtain⟨c2,p2,xS,he2⟩:=Bp hK hv hl hli m (s+1) (by omega) (fun j hj=>hn j (by rw[hd];exact Q8 _ hj))
   refine⟨c2,p2,fun hz=>⟨(xS hz).1,fun j hj=>?_⟩,cz.succ ((he.tn.and he2).mono fun q k e=>?_)⟩
   ·rw[hd] at hj
    rcases ala.1 hj with rfl|hj
    ·exact He
    ·exact(xS hz).2 j hj
   ·obtain⟨⟨⟨bl,e1,_,e2⟩,e3⟩,e4,e5⟩:=e
    obtain rfl:=e2 rfl;refine⟨?_,fun D hr=>?_⟩
    ·simp only[go_sem,bP,aa,Q5,bf,hK,cF bf,e1,ag (show s<_ by omega)]
     exact e4
    ·obtain⟨bm,e6,e7⟩:=e3 D hr
     simp only[go_sem,aS,Q5,bf,cF bf,e6,ag (show s<_ by omega)]
     exact e5 bm (e7 rfl)
  ·refine⟨c,p,fun hz=>absurd hz h0,cz.succ ((he.tn.and (Ev.tn (p:=fun q=>1≤q) ⟨1,fun k hk=>hk⟩ |>.and (Ev.agZ (p:=fun k=>m<k) ⟨m+1,fun k hk=>by omega⟩))).mono fun q k e=>?_)⟩
   obtain⟨⟨⟨bl,e1,eb,_⟩,e3⟩,hq,hk⟩:=e;obtain⟨q,rfl⟩:∃ j,q=j+1:=⟨q - 1,by omega⟩
   refine⟨⟨bl,?_,by have:=hnj.1;omega,fun hz=>absurd hz h0⟩,fun D hr=>?_⟩
   ·simp only[go_sem,bP,aa,Q5,bf,hK,cF bf,e1,ag (show s<_ by omega)]
    exact Kw h0 hK hv hl q m (s+1) k bl (by omega) hk
   ·obtain⟨bm,e6,e7⟩:=e3 D hr
    refine⟨bm,?_,fun hz=>absurd hz h0⟩;simp only[go_sem,aS,Q5,bf,cF bf,e6,a1a.2 h0,aBa h0]
theorem QB(ht:iQ t){i:Nat}{x:eu}(hx:ns[i]? = some x)(h23:x.1=23)(hk:x.2.2.2.2=[])(l:XS):Ev fun k=>∀ D,KY l D→cv k ns t.1 t.2.1 t.2.2 fn P Is Rs B D (i:Int)=some ((0,0),D,()):=by
 have hb:Ev fun k=>∀ D:AS,bN k ns t.1 t.2.1 t.2.2 fn P Is Rs B D (i:Int)=some ((0,0),D,()):=Ev.succ (Ev.succ (Ev.of fun k D=>by
  rw[VY (k+1)];simp only[go_sem,kF,bq hx,hk];simp only[go_sem,aS,aza,show decide ((0:Int)<((0:Nat):Int))=false from rfl]))
 refine Ev.succ ((hb.and (Hh (fn:=fn) ht l x)).mono fun k e D hr=>?_);have lw:=e.2 D hr;simp only[h23,show ¬ (23:Int)=9 by decide,aka,oY,Int.reduceEq,reduceIte,bka] at lw
 rw[kE];simp only[go_sem,a6,bq hx,aa,h23,show((23:Int)==9)=false from rfl,show((23:Int)==12)=false from rfl,show((23:Int)==22)=false from rfl,show((23:Int)==16)=false from rfl,lw,e.1]
theorem nk5{s:ab}(h:(nk t fn s).1=5):∃(n:Nat) (f:ab×Int×XS×XS×Int),(nk t fn s).2=(n:Int)∧t.2.2[n]? = some f∧f.1=s:=by
 have key:(OP t s).1=5→∃(n:Nat) (f:ab×Int×XS×XS×Int),(OP t s).2=(n:Int)∧t.2.2[n]? = some f∧f.1=s:=fun h=>by
  unfold OP at h ⊢;by_cases g1:0≤nR (fun x:ab×Int=>x.1==s) t.1 0
  ·simp[g1] at h
  ·by_cases g2:0≤nR (fun x=>x==s) t.2.1 0
   ·simp[g1,g2] at h
   ·by_cases g3:0≤nR (fun x:ab×Int×XS×XS×Int=>x.1==s) t.2.2 0
    ·obtain⟨n,f,e1,e2,e3⟩:=I0 g3
     exact⟨n,f,by simp[g1,g2,g3,e1],e2,a_a.1 e3⟩
    ·simp[g1,g2,g3] at h
 unfold nk at h ⊢;cases hf:t.2.2.find? (fun x=>x.1==fn) with
 |none=>simp only[hf] at h ⊢;exact key h
 |some x=>
  simp only[hf] at h ⊢;by_cases g1:0≤nR (fun y=>y==s) x.2.2.1 0
  ·simp[g1] at h
  ·by_cases g2:0≤nR (fun y=>y==s) x.2.2.2.1 0
   ·simp[g1,g2] at h
   ·simp only[go_sem,g1,g2] at h ⊢;exact key h
theorem Yk{s:ab}{a b:Int}(h:W t fn s a b=0):(nk t fn s).1=a∨(nk t fn s).1=b:=by
 unfold W at h;by_cases h0:(nk t fn s).1=0
 ·simp[h0] at h
 ·by_cases h1:(nk t fn s).1=a∨(nk t fn s).1=b
  ·exact h1
  ·simp[h0,h1] at h
end
end Go.Fx.R5
namespace Go.Fx.R5
open Go Go.Fx
section
variable {t:zo} {fn:ab} {ns:List eu} {P:Int} {Is Rs:XS} {B:Int}
structure Js(t:zo)(fn:ab)(ns:List eu)(P:Int)(Is Rs:XS)(B:Int)(i:Nat)(K:XI):Prop where
 v:∀ j∈K,0≤j∧j<(ns.length:Int)
 l:K.length≤5000
 n:∀ j∈K,j<(i:Int)∧NB t fn ns P Is Rs B j.toNat
theorem Ia{i:Nat}{x:eu}(hx:ns[i]? = some x){l:XS}{c p:Int}(hp:c=0→p=0)
  (he:Ev fun k=>∀ D,KY l D→Sl l c p (aS (bN k) (cv k) (bY k) k k ns t.1 t.2.1 t.2.2 fn P Is Rs B x.2.2.2.2 (x.2.2.2.2.length:Int) 0 0 D 0)):
  Ev fun k=>∀ D,KY l D→aaH l c p (bN k ns t.1 t.2.1 t.2.2 fn P Is Rs B D (i:Int)):=
 Ev.succ (he.mono fun k e D hr=>by
  obtain⟨bm,e1,e2⟩:=e D hr;refine⟨bm,?_,e2⟩;rw[VY];simp only[go_sem,kF,bq hx,e1];by_cases h0:c=0
  ·simp only[a8a h0];rw[h0,hp h0]
  ·simp only[aBa h0])
theorem GX{c a:Int}(h:c≠0):LT c a=a:=aBa h
theorem ZG(ht:iQ t){i:Nat}{x:eu}(hx:ns[i]? = some x)(h9:x.1≠9)(D6:x.1≠22)(Kx:x.1≠12)(F3:x.1≠16)(IH:Js t fn ns P Is Rs B i x.2.2.2.2):NB t fn ns P Is Rs B i:=by
 intro l hli;have jK:=WD (fn:=fn) ht (l:=l) (by omega) hx
 have lw:=Hh (fn:=fn) ht l x;simp only[aBa h9] at lw;have g9:=Q6.2 h9;have g22:=Q6.2 D6;have g12:=Q6.2 Kx;have g16:=Q6.2 F3;by_cases h0:oY t fn l x=0
 ·obtain⟨c,p,hc,he⟩:=Bp (nm:=x.2.2.2.1) g16 IH.v (by have:=IH.l;omega) hli x.2.2.2.2.length 0 rfl (fun j hj=>IH.n j (by simpa using hj))
  refine⟨c,p,fun hz=>⟨(hc hz).1,HR.mk i x hx (by simpa using (hc hz).2) (fun h=>absurd h D6) (fun h=>absurd h Kx)⟩,?_⟩
  have heS:=(he.mono fun _ _ e=>e.1).j9;have heI:=Ia hx (fun hz=>(hc hz).1) (he.mono fun _ _ e=>e.2).j9;refine Ev.succ ((jK.and (lw.and (heS.and heI))).mono fun k e=>?_);obtain⟨e1,e2,⟨bl,e3,e4,e5⟩,e6⟩:=e;refine⟨⟨bl,?_,by omega,e5⟩,fun D hr=>?_⟩
  ·rw[oe]
   rw[h0] at e1;simp only[go_sem,cQ,bq hx,g9,g22,g12,g16,e1,aa,show LT 0 x.2.1=0 from rfl,show bP _ _ _ k k x.1 x.2.2.2.1 x.2.2.2.2 t.1 t.2.1 t.2.2 ns fn l 0 0 0=_ from e3]
  ·obtain⟨bm,e7,e8⟩:=e6 D hr
   refine⟨bm,?_,e8⟩;have e2:=e2 D hr;rw[h0] at e2;rw[kE];simp only[go_sem,a6,bq hx,aa,g9,g22,g12,g16,e2,e7]
 ·refine⟨oY t fn l x,x.2.1,fun hz=>absurd hz h0,Ev.succ ((jK.and (lw.and (⟨5002,fun k hk=>hk⟩:Ev fun k=>5002≤k))).mono fun k e=>?_)⟩
  obtain⟨e1,e2,hk⟩:=e;have Aq:=IH.l;obtain⟨j,rfl⟩:∃ j,k=j+1:=⟨k - 1,by omega⟩
  refine⟨⟨l,?_,by omega,fun _=>rfl⟩,fun D hr=>⟨D,?_,fun _=>hr⟩⟩
  ·rw[oe (j+1)]
   rw[GX h0] at e1;have ef:=Kw (t:=t) (fn:=fn) (ns:=ns) (p:=x.2.1) h0 g16 (nm:=x.2.2.2.1) IH.v (by omega) j x.2.2.2.2.length 0 (j+1) l rfl (by omega)
   simp only[go_sem,cQ,bq hx,g9,g22,g12,g16,e1,aa];rw[show bP _ _ _ (j+1) (j+1) x.1 x.2.2.2.1 x.2.2.2.2 t.1 t.2.1 t.2.2 ns fn l (oY t fn l x) x.2.1 0=_ from ef]
   simp only[go_sem]
  ·have e2:=e2 D hr
   rw[kE (j+1)];simp only[go_sem,a6,bq hx,aa,g9,e2,a1a.2 h0]
theorem Hm{K:XI}{n:Nat}{j:Int}(hv:∀ j∈K,0≤j∧j<(ns.length:Int))(h:K[n]? = some j):∃ y,bL K (n:Int)=some j∧bL ns j=some y∧ns[j.toNat]? = some y∧kd ns j=y.1∧((j.toNat:Nat):Int)=j:=by have hj:=hv j (a2a h);obtain⟨y,e1,e2,e3⟩:=vq hj.1 hj.2;exact⟨y,bq h,e3,e1,e2,aRa hj.1⟩
theorem aez(ht:iQ t){c p:Int}(hc:c≠0){x:eu}{K:XI}(hxK:x.2.2.2.2=K){u:Int}(hu:K[0]? = some u)(hv:∀ j∈K,0≤j∧j<(ns.length:Int))(hl:K.length≤5000)(l:XS):
  Ev fun k=>eQ k t.1 t.2.1 t.2.2 ns fn l c p x=some (l,c,p,()):=by
 subst hxK;obtain⟨y,e1,e2,e3,e4,e5⟩:=Hm hv hu;have e1:bL x.2.2.2.2 0=some u:=e1;refine Ev.succ (((WF (fn:=fn) hc ht y.2.2.2.1 y.2.1 5 5 (p:=p)).and ((Vf ht fn y.2.2.2.1).and (⟨5002,fun k hk=>hk⟩:Ev fun k=>5002≤k))).mono fun k e=>?_);obtain⟨w1,w2,hk⟩:=e;obtain⟨j,rfl⟩:∃ j,k=j+1:=⟨k - 1,by omega⟩
 have t6:0<x.2.2.2.2.length:=(ama.1 hu).1;have ef:=Kw (t:=t) (fn:=fn) (ns:=ns) (p:=p) hc (Kd:=0) rfl (nm:=[]) hv (by omega) j (x.2.2.2.2.length - 1) 1 (j+1) l (by omega) (by omega)
 rw[←A6 (j+1) 0 rfl []] at ef;have ef:iP (dK (j+1)) (dG (j+1)) (eQ (j+1)) (j+1) (j+1) x.2.2.2.2 t.1 t.2.1 t.2.2 ns fn l c p 1=_:=ef;rw[Mc (j+1)];simp only[go_sem,mr,e1,e2,w1,show cW (j+1) (t.1,t.2.1,t.2.2) fn y.2.2.2.1=_ from w2,aa,cu,Q6.2 hc,ef]
 by_cases h5:(nk t fn y.2.2.2.1).1=5
 ·obtain⟨n,f,n1,n2,_⟩:=nk5 h5
  rw[n1];simp only[go_sem,h5,bq n2];cases (f.2.1 != bC ((x.2.2.2.2.length:Int) - 1))<;>rfl
 ·simp only[go_sem,Q6.2 h5]
theorem abh(ht:iQ t){i:Nat}{x:eu}(hx:ns[i]? = some x)(hn:oo ns i x)(fG:jC ns)(D6:x.1=22)(IH:Js t fn ns P Is Rs B i x.2.2.2.2):NB t fn ns P Is Rs B i:=by
 intro l hli;have jK:=WD (fn:=fn) ht (l:=l) (by omega) hx
 have lw:=Hh (fn:=fn) ht l x;have dz:=hn.shp;rw[D6] at dz;obtain⟨u,r,hK⟩:∃ u r,x.2.2.2.2=u::r:=by
  cases h:x.2.2.2.2 with
  |nil=>rw[h] at dz;simp[cm] at dz
  |cons u r=>exact⟨u,r,rfl⟩
 have hu:x.2.2.2.2[0]? = some u:=by rw[hK];rfl
 have Ly:kd ns u=23:=by rw[hK] at dz;simp[cm] at dz;exact dz.1
 obtain⟨y,e1,e2,e3,e4,e5⟩:=Hm IH.v hu;have e1:bL x.2.2.2.2 0=some u:=e1;rw[e4] at Ly;have hyk:y.2.2.2.2=[]:=by have:=(fG _ _ e3).shp;rw[Ly] at this;simpa[cm] using this
 have hoc:oY t fn l x=H0 t fn l x.2.2.2.1 3 2:=by simp only[oY,D6,Int.reduceEq,reduceIte,bya,bka]
 rw[hoc] at jK;simp only[D6,show ¬ (22:Int)=9 by decide,aka,hoc] at lw
 generalize H0 t fn l x.2.2.2.1 3 2=c0 at jK lw;have Aq:=IH.l;have ahd:l.length≤4000:=by omega
 by_cases h0:c0=0
 rotate_left
 ·refine⟨c0,x.2.1,fun hz=>absurd hz h0,Ev.succ ((jK.and (lw.and (aez (fn:=fn) ht (p:=x.2.1) h0 rfl hu IH.v IH.l l))).mono fun k e=>?_)⟩
  obtain⟨w1,w2,w3⟩:=e;rw[GX h0] at w1;refine⟨⟨l,?_,by omega,fun _=>rfl⟩,fun D hr=>⟨D,?_,fun _=>hr⟩⟩
  ·rw[oe];simp only[go_sem,cQ,bq hx,D6,show((22:Int)==9)=false from rfl,show((22:Int)==12)=false from rfl,show((22:Int)==22)=true from rfl,show((22:Int)==16)=false from rfl,w1,w3]
  ·rw[kE];simp only[go_sem,a6,bq hx,aa,D6,show((22:Int)==9)=false from rfl,show((22:Int)==12)=false from rfl,show((22:Int)==22)=true from rfl,show((22:Int)==16)=false from rfl,w2 D hr,a1a.2 h0]
 subst h0;have hW:=EF (fn:=fn) ht y.2.2.2.1 y.2.1 5 5;have hM:=EW (fn:=fn) ht y.2.2.2.1 5;have hN:=Vf ht fn y.2.2.2.1;have hNi:=Zg ht fn y.2.2.2.1;have t6:0<x.2.2.2.2.length:=by rw[hK];simp
 by_cases hw:W t fn y.2.2.2.1 5 5=0
 rotate_left
 ·have hn5:¬ (nk t fn y.2.2.2.1).1=5:=fun h=>hw (by simp[W,h])
  have hE:Ev fun k=>eQ k t.1 t.2.1 t.2.2 ns fn l 0 0 x=some (l,W t fn y.2.2.2.1 5 5,y.2.1,()):=Ev.succ ((hW.and (hN.and (⟨5002,fun k hk=>hk⟩:Ev fun k=>5002≤k))).mono fun k e=>by
   obtain⟨w1,w2,hk⟩:=e;obtain⟨j,rfl⟩:∃ j,k=j+1:=⟨k - 1,by omega⟩
   have ef:=Kw (t:=t) (fn:=fn) (ns:=ns) (p:=y.2.1) hw (Kd:=0) rfl (nm:=[]) IH.v (by omega) j (x.2.2.2.2.length - 1) 1 (j+1) l (by omega) (by omega)
   rw[←A6 (j+1) 0 rfl []] at ef;have ef:iP (dK (j+1)) (dG (j+1)) (eQ (j+1)) (j+1) (j+1) x.2.2.2.2 t.1 t.2.1 t.2.2 ns fn l (W t fn y.2.2.2.1 5 5) y.2.1 1=_:=ef;rw[GX hw] at w1;rw[Mc (j+1)];simp only[go_sem,mr,e1,e2,w1,show cW (j+1) (t.1,t.2.1,t.2.2) fn y.2.2.2.1=_ from w2,aa,Q6.2 hn5,ef])
  refine⟨W t fn y.2.2.2.1 5 5,y.2.1,fun hz=>absurd hz hw,Ev.succ ((jK.and (lw.and (hE.and hM))).mono fun k e=>?_)⟩;obtain⟨w1,w2,w3,w4⟩:=e;refine⟨⟨l,?_,by omega,fun _=>rfl⟩,fun D hr=>⟨D,?_,fun _=>hr⟩⟩
  ·rw[oe];simp only[go_sem,cQ,bq hx,D6,show((22:Int)==9)=false from rfl,show((22:Int)==12)=false from rfl,show((22:Int)==22)=true from rfl,show((22:Int)==16)=false from rfl,w1,show LT 0 x.2.1=0 from rfl,w3]
  ·rw[kE];simp only[go_sem,a6,lz,bq hx,aa,D6,show((22:Int)==9)=false from rfl,show((22:Int)==12)=false from rfl,show((22:Int)==22)=true from rfl,show((22:Int)==16)=false from rfl,w2 D hr,e1,e2,w4,a1a.2 hw]
 have h5:(nk t fn y.2.2.2.1).1=5:=(Yk hw).elim id id;obtain⟨n,f,n1,n2,n3⟩:=nk5 h5;by_cases aa4:f.2.1=bC ((x.2.2.2.2.length:Int) - 1)
 rotate_left
 ·have Dv:(f.2.1 != bC ((x.2.2.2.2.length:Int) - 1))=true:=a1a.2 aa4
  have PF:(bC ((x.2.2.2.2.length:Int) - 1) != f.2.1)=true:=a1a.2 (bDa aa4);have hE:Ev fun k=>eQ k t.1 t.2.1 t.2.2 ns fn l 0 0 x=some (l,12,y.2.1,()):=Ev.succ ((hW.and (hN.and (⟨5002,fun k hk=>hk⟩:Ev fun k=>5002≤k))).mono fun k e=>by
   obtain⟨w1,w2,hk⟩:=e;obtain⟨j,rfl⟩:∃ j,k=j+1:=⟨k - 1,by omega⟩
   have ef:=Kw (t:=t) (fn:=fn) (ns:=ns) (c:=12) (p:=y.2.1) (by decide) (Kd:=0) rfl (nm:=[]) IH.v (by omega) j (x.2.2.2.2.length - 1) 1 (j+1) l (by omega) (by omega)
   rw[←A6 (j+1) 0 rfl []] at ef;have ef:iP (dK (j+1)) (dG (j+1)) (eQ (j+1)) (j+1) (j+1) x.2.2.2.2 t.1 t.2.1 t.2.2 ns fn l 12 y.2.1 1=_:=ef;rw[hw] at w1;rw[Mc (j+1)];simp only[go_sem,mr,e1,e2,w1,show LT 0 y.2.1=0 from rfl,show cW (j+1) (t.1,t.2.1,t.2.2) fn y.2.2.2.1=_ from w2,aa,h5,n1,bq n2,Dv,cu,ef])
  refine⟨12,y.2.1,fun hz=>absurd hz (by decide),Ev.succ ((jK.and (lw.and (hE.and (hM.and hNi)))).mono fun k e=>?_)⟩
  obtain⟨w1,w2,w3,w4,w5⟩:=e;rw[hw] at w4;refine⟨⟨l,?_,by omega,fun _=>rfl⟩,fun D hr=>⟨D,?_,fun _=>hr⟩⟩
  ·rw[oe];simp only[go_sem,cQ,bq hx,D6,show((22:Int)==9)=false from rfl,show((22:Int)==12)=false from rfl,show((22:Int)==22)=true from rfl,show((22:Int)==16)=false from rfl,w1,show LT 0 x.2.1=0 from rfl,w3]
  ·rw[kE];simp only[go_sem,a6,lz,bq hx,aa,D6,show((22:Int)==9)=false from rfl,show((22:Int)==12)=false from rfl,show((22:Int)==22)=true from rfl,show((22:Int)==16)=false from rfl,w2 D hr,e1,e2,w4,show fQ k (t.1,t.2.1,t.2.2) fn y.2.2.2.1=_ from w5,n1,bq n2,PF,show((12:Int) != 0)=true from rfl]
 have Dv:(f.2.1 != bC ((x.2.2.2.2.length:Int) - 1))=false:=by rw[aa4];simp
 have PF:(bC ((x.2.2.2.2.length:Int) - 1) != f.2.1)=false:=by rw[aa4];simp
 obtain⟨c,p,hc,he⟩:=Bp (Kd:=0) rfl (nm:=[]) IH.v (by omega) hli (x.2.2.2.2.length - 1) 1 (by omega) (fun j hj=>IH.n j (List.mem_of_mem_drop hj))
 have hus:=QB (P:=P) (Is:=Is) (Rs:=Rs) (B:=B) (fn:=fn) ht e3 Ly hyk l;rw[e5] at hus;have heS:Ev fun k=>Ur l i c p (iP (dK k) (dG k) (eQ k) k k x.2.2.2.2 t.1 t.2.1 t.2.2 ns fn l 0 0 1):=(he.mono fun _ _ e=>e.1).j9.mono fun k e=>by rw[A6 k 0 rfl []];exact e
 have heL:Ev fun k=>∀ D,KY l D→Sl l c p (aS (bN k) (cv k) (bY k) k k ns t.1 t.2.1 t.2.2 fn P Is Rs B x.2.2.2.2 (x.2.2.2.2.length:Int) 0 0 D 0):=
  cz.j9 (p2:=fun q k=>∀ D,KY l D→Sl l c p (aS (bN q) (cv q) (bY q) q k ns t.1 t.2.1 t.2.2 fn P Is Rs B x.2.2.2.2 (x.2.2.2.2.length:Int) 0 0 D 0)) (cz.succ ((hus.tn.and (he.mono fun _ _ e=>e.2)).mono fun q k e D hr=>by
   have:=e.2 D hr;simp only[go_sem,aS,show decide ((0:Int)<(x.2.2.2.2.length:Int))=true from decide_eq_true (by omega),e1,e.1 D hr,show bC (0+1)=1 from rfl]
   exact this))
 have heI:=Ia (i:=i) hx (fun hz=>(hc hz).1) heL;have hE:Ev fun k=>Ur l i c p (eQ k t.1 t.2.1 t.2.2 ns fn l 0 0 x):=Ev.succ ((hW.and (hN.and heS)).mono fun k e=>by
  obtain⟨w1,w2,bl,w3,w4,w5⟩:=e;rw[hw] at w1;refine⟨bl,?_,w4,w5⟩;rw[Mc];simp only[go_sem,mr,e1,e2,w1,show LT 0 y.2.1=0 from rfl,show cW k (t.1,t.2.1,t.2.2) fn y.2.2.2.1=_ from w2,aa,h5,n1,bq n2,Dv,w3])
 refine⟨c,p,fun hz=>⟨(hc hz).1,HR.mk i x hx (fun j hj=>?_) (fun _ v hv=>?_) (fun h=>absurd (D6.symm.trans h) (by decide))⟩,Ev.succ ((jK.and (lw.and (hE.and (hM.and (hNi.and heI))))).mono fun k e=>?_)⟩
 ·rw[hK] at hj
  rcases ala.1 hj with rfl|hj
  ·exact HR.mk _ y e3 (by rw[hyk];simp) (fun h=>absurd (Ly.symm.trans h) (by decide)) (fun h=>absurd (Ly.symm.trans h) (by decide))
  ·exact(hc hz).2 j (by rw[hK];exact hj)
 ·rw[hK] at hv
  simp only[List.head?_cons,Ob] at hv;subst hv;simp only[Em,e3];exact h5
 ·obtain⟨w1,w2,⟨bl,w3,w3',ag1⟩,w4,w5,w6⟩:=e
  rw[hw] at w4;refine⟨⟨bl,?_,by omega,ag1⟩,fun D hr=>?_⟩
  ·rw[oe];simp only[go_sem,cQ,bq hx,D6,show((22:Int)==9)=false from rfl,show((22:Int)==12)=false from rfl,show((22:Int)==22)=true from rfl,show((22:Int)==16)=false from rfl,w1,show LT 0 x.2.1=0 from rfl,w3]
  ·obtain⟨bm,w7,w8⟩:=w6 D hr
   refine⟨bm,?_,w8⟩;rw[kE];simp only[go_sem,a6,lz,bq hx,aa,D6,show((22:Int)==9)=false from rfl,show((22:Int)==12)=false from rfl,show((22:Int)==22)=true from rfl,show((22:Int)==16)=false from rfl,w2 D hr,e1,e2,w4,show fQ k (t.1,t.2.1,t.2.2) fn y.2.2.2.1=_ from w5,n1,bq n2,PF,w7]
end
end Go.Fx.R5
