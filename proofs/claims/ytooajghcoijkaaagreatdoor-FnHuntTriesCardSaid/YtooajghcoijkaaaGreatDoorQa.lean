/- Proved here: laws.FnHuntTries returns true at every input (the tied card), no condition beyond the card. -/
import Derived.Test.YtooajghcoijkaaaGreatDoorCb
set_option linter.unusedVariables false
set_option linter.unusedSimpArgs false
set_option linter.unusedSectionVars false
set_option linter.defProp false
set_option maxRecDepth 100000
namespace Go.Fx.R5
open Go Go.Fx
attribute [go_sem] Option.bind_some cond_true cond_false Bool.false_eq_true Bool.not_true Bool.not_false beq_self_eq_true bne_self_eq_false decide_true decide_false
def Ev(p:Nat→Prop):Prop:=∃ K,∀ k,K≤k→p k
def cq(p:Nat→Nat→Prop):Prop:=∃ K,∀ q k,K≤q→K≤k→p q k
section
variable {p r:Nat→Prop} {p2 r2:Nat→Nat→Prop}
theorem Ev.of(h:∀ k,p k):Ev p:=⟨0,fun k _=>h k⟩
theorem Ev.mono(h:Ev p)(g:∀ k,p k→r k):Ev r:=h.imp fun _ h k hk=>g k (h k hk)
theorem Ev.and(h:Ev p)(g:Ev r):Ev fun k=>p k∧r k:=
 let⟨K,h⟩:=h;let⟨L,g⟩:=g;⟨K+L,fun k hk=>⟨h k (by omega),g k (by omega)⟩⟩
theorem Ev.succ(h:Ev fun k=>p (k+1)):Ev p:=
 let⟨K,h⟩:=h;⟨K+1,fun k hk=>by obtain⟨j,rfl⟩:∃ j,k=j+1:=⟨k - 1,by omega⟩;exact h j (by omega)⟩
theorem Ev.ack(h:Ev p):Ev fun k=>p (k+1):=let⟨K,h⟩:=h;⟨K,fun k hk=>h (k+1) (by omega)⟩
theorem Ev.tj(h:Ev p):cq fun q _=>p q:=let⟨K,h⟩:=h;⟨K,fun q _ hq _=>h q hq⟩
theorem Ev.ahW(h:Ev p):cq fun _ k=>p k:=let⟨K,h⟩:=h;⟨K,fun _ k _ hk=>h k hk⟩
theorem cq.of(h:∀ q k,p2 q k):cq p2:=⟨0,fun q k _ _=>h q k⟩
theorem cq.mono(h:cq p2)(g:∀ q k,p2 q k→r2 q k):cq r2:=h.imp fun _ h q k hq hk=>g q k (h q k hq hk)
theorem cq.and(h:cq p2)(g:cq r2):cq fun q k=>p2 q k∧r2 q k:=
 let⟨K,h⟩:=h;let⟨L,g⟩:=g;⟨K+L,fun q k hq hk=>⟨h q k (by omega) (by omega),g q k (by omega) (by omega)⟩⟩
theorem cq.succ(h:cq fun q k=>p2 q (k+1)):cq p2:=
 let⟨K,h⟩:=h;⟨K+1,fun q k hq hk=>by obtain⟨j,rfl⟩:∃ j,k=j+1:=⟨k - 1,by omega⟩;exact h q j (by omega) (by omega)⟩
theorem cq.jY(h:cq p2):Ev fun k=>p2 k k:=let⟨K,h⟩:=h;⟨K,fun k hk=>h k k hk hk⟩
theorem Ev.vK(h:Ev p):∃ k,p k:=let⟨K,h⟩:=h;⟨K,h K (awa _)⟩
end
theorem bw{x:Int}(h1:-4611686018427387904≤x)(h2:x≤4611686018427387904):bh x=x:=by unfold bh IntKind.wrap;simp[IntKind.bits,IntKind.signed];omega
theorem ag1{n:Nat}(h:n≤4611686018427387904):bh (n:Int)=n:=bw (by omega) (by omega)
theorem ai{n:Nat}(h:n<4611686018427387904):bh ((n:Int)+1)=((n+1:Nat):Int):=by rw[bw (by omega) (by omega)];rfl
section
variable {α:Type}
theorem bf{l:List α}{n:Nat}{x:α}(h:l[n]? = some x):bC l (n:Int)=some x:=by simp[bC,h]
theorem cB{l:List α}{n:Nat}(h:n<l.length):bC l (n:Int)=some l[n]:=bf (by simp[h])
theorem wV{l:List α}{m n:Nat}(h:m≤n)(hn:n≤l.length):sub l (m:Int) (n:Int)=some ((l.take n).drop m):=by simp[sub,h,hn]
theorem oj{l m:List α}(h:l.length+m.length≤4294967296):bD l m=some (l++m):=by simp[bD,h]
end
end Go.Fx.R5
namespace Go.Fx.R5
open Go Go.Fx
theorem Y9(b:UInt8)(n:Nat):((b.toNat:Int)==(n:Int))=(b.toNat==n):=by
 by_cases h:b.toNat=n
 ·simp[h]
 ·have:¬ (b.toNat:Int)=(n:Int):=by omega
  rw[Q6.2 h,Q6.2 this]
theorem WC(q:Nat):∀ k t a,pP q k t a=kh q k t a
 |0,_,_=>rfl
 |k+1,t,a=>by simp only[pP,kh,WC q k]
theorem OH(q:Nat):∀ k t a,oQ q k t a=ld q k t a
 |0,_,_=>rfl
 |k+1,t,a=>by simp only[oQ,ld,OH q k];rfl
theorem Nl(q:Nat):∀ k t a,oR q k t a=iL q k t a
 |0,_,_=>rfl
 |k+1,t,a=>by simp only[oR,iL,Nl q k];rfl
variable {t:ab}
theorem Xn(hl:t.length≤3000):∀ m lS,m+lS = t.length→∃ r:Nat,lS≤r∧r≤t.length∧(∀ b,t[lS]? = some b→b.toNat≠10→lS < r)∧
  cq fun q k=>kh q k t (lS:Int)=some ((r:Int),())
 |0,lS,h=>by
  refine⟨lS,by omega,by omega,fun b hb=>?_,cq.succ (cq.of fun q k=>?_)⟩
  ·have:=(aka.1 hb).1;omega
  ·have:¬ lS < t.length:=by omega
   simp[kh,aa,this]
 |m+1,lS,h=>by
  have bg:lS < t.length:=by omega
  by_cases hb:t[lS].toNat=10
  ·refine⟨lS,by omega,by omega,fun b hb'=>?_,cq.succ (cq.of fun q k=>?_)⟩
   ·rw[bja bg] at hb';cases hb';exact fun h=>absurd hb h
   ·simp[kh,aa,bg,cB bg,hb]
  ·obtain⟨r,h1,h2,_,h3⟩:=Xn hl m (lS + 1) (by omega)
   refine⟨r,by omega,h2,fun _ _ _=>by omega,cq.succ (h3.mono fun q k e=>?_)⟩
   have hb':((t[lS].toNat:Int)==10)=false:=by rw[show(10:Int)=((10:Nat):Int) from rfl,Y9];simp[hb]
   simp only[go_sem,kh,aa,Q5,bg,cB bg,bne,hb',ai (show lS < _ by omega),e]
theorem aa7(hl:t.length≤3000):∀ m lS,t.length - lS≤m→lS≤t.length→∃ r:Nat,∃ x,lS≤r∧r≤t.length∧(x=.inl ((r:Int),())∨x=.inr ((r:Int),()))∧
  cq fun q k=>jd q k t (lS:Int)=some x∧iC q k t (lS:Int)=some x:=by
 intro m;induction m with
 |zero=>
  intro lS hm h;have:¬ lS < t.length:=by omega
  exact⟨lS,.inl ((lS:Int),()),by omega,h,.inl rfl,cq.succ (cq.of fun q k=>by simp[jd,iC,this])⟩
 |succ m ih=>
  intro lS hm h;by_cases bg:lS < t.length
  ·have e32:((t[lS].toNat:Int)==32)=(t[lS].toNat==32):=Y9 _ 32
   have e10:((t[lS].toNat:Int)==10)=(t[lS].toNat==10):=Y9 _ 10;have e35:((t[lS].toNat:Int)==35)=(t[lS].toNat==35):=Y9 _ 35;by_cases h1:t[lS].toNat=32∨t[lS].toNat=10
   ·obtain⟨r,x,a1,a2,a3,a4⟩:=ih (lS + 1) (by omega) (by omega)
    refine⟨r,x,by omega,a2,a3,cq.succ (a4.mono fun q k e=>?_)⟩
    simp only[go_sem,jd,iC,aa,Q5,bg,cB bg,e32,e10,e35,ai (show lS < _ by omega),e.1,e.2]
    rcases h1 with h1|h1<;>simp[h1]
   ·have g1:(t[lS].toNat==32)=false:=by simp;omega
    have g2:(t[lS].toNat==10)=false:=by simp;omega
    by_cases h2:t[lS].toNat=35
    ·obtain⟨r1,b1,b2,b3,b4⟩:=Xn hl (t.length - lS) lS (by omega)
     have b5:lS < r1:=b3 t[lS] (by simp[bg]) (by omega)
     obtain⟨r,x,a1,a2,a3,a4⟩:=ih r1 (by omega) (by omega)
     obtain⟨K,b4⟩:=b4;refine⟨r,x,by omega,a2,a3,cq.succ ((a4.and (Ev.tj ⟨K,fun q hq=>b4 q q hq hq⟩)).mono fun q k e=>?_)⟩
     simp only[go_sem,jd,iC,aa,Q5,bg,cB bg,e32,e10,e35,g1,g2,show(t[lS].toNat==35)=true by simp[h2],WC,e.1.1,e.1.2,e.2,bne,aPa]
    ·have g3:(t[lS].toNat==35)=false:=by simp;omega
     refine⟨lS,.inr ((lS:Int),()),by omega,by omega,.inr rfl,cq.succ (cq.of fun q k=>?_)⟩
     simp only[go_sem,jd,iC,aa,Q5,bg,cB bg,e32,e10,e35,g1,g2,g3,bne,aPa]
  ·exact⟨lS,.inl ((lS:Int),()),by omega,h,.inl rfl,cq.succ (cq.of fun q k=>by simp[jd,iC,bg])⟩
theorem Ra(hl:t.length≤3000)(a:Nat)(h:a≤t.length):∃ r:Nat,a≤r∧r≤t.length∧Ev fun k=>pe k t (a:Int)=some ((r:Int),())∧nT k t (a:Int)=some ((r:Int),()):=by obtain⟨r,x,h1,h2,h3,h4⟩:=aa7 hl _ a (awa _) h;refine⟨r,h1,h2,h4.jY.mono fun k e=>?_⟩;simp only[go_sem,pe,nT,e.1,e.2];rcases h3 with h3|h3<;>simp[h3]
def Pv(b:UInt8):Bool:=decide (97≤b.toNat)&&decide (b.toNat≤122)
def F0(b:UInt8):Bool:=decide (48≤b.toNat)&&decide (b.toNat≤57)
theorem Jf(b:UInt8):sD (b.toNat:Int)=some (Pv b,()):=by
 simp only[sD,aa,Pv,show decide ((b.toNat:Int)≥97)=decide (97≤b.toNat) from caa.2 (by omega),show decide ((b.toNat:Int)≤122)=decide (b.toNat≤122) from caa.2 (by omega)]
 cases decide (97≤b.toNat)<;>simp
theorem IP(b:UInt8):rB (b.toNat:Int)=some (F0 b,()):=by
 simp only[rB,aa,F0,show decide ((b.toNat:Int)≥48)=decide (48≤b.toNat) from caa.2 (by omega),show decide ((b.toNat:Int)≤57)=decide (b.toNat≤57) from caa.2 (by omega)]
 cases decide (48≤b.toNat)<;>simp
theorem Qz(b:UInt8):uh (b.toNat:Int)=some (Pv b,()):=Jf b
theorem Wo(b:UInt8):sf (b.toNat:Int)=some (F0 b,()):=IP b
theorem aa0(hl:t.length≤3000):∀ m lS,m+lS = t.length→∃ r:Nat,lS≤r∧r≤t.length∧(∀ b,t[lS]? = some b→Pv b=true→lS < r)∧cq fun q k=>ld q k t (lS:Int)=some ((r:Int),())
 |0,lS,h=>by
  refine⟨lS,by omega,by omega,fun b hb=>?_,cq.succ (cq.of fun q k=>?_)⟩
  ·have:=(aka.1 hb).1;omega
  ·have:¬ lS < t.length:=by omega
   simp[ld,aa,this]
 |m+1,lS,h=>by
  have bg:lS < t.length:=by omega
  by_cases hb:Pv t[lS]=true∨F0 t[lS]=true
  ·obtain⟨r,h1,h2,_,h3⟩:=aa0 hl m (lS + 1) (by omega)
   refine⟨r,by omega,h2,fun _ _ _=>by omega,cq.succ (h3.mono fun q k e=>?_)⟩
   simp only[go_sem,ld,aa,Q5,bg,cB bg,Jf,IP,ai (show lS < _ by omega),e]
   rcases hb with hb|hb
   ·simp[hb]
   ·cases Pv t[lS]<;>simp[hb]
  ·refine⟨lS,by omega,by omega,fun b hb'=>?_,cq.succ (cq.of fun q k=>?_)⟩
   ·rw[bja bg] at hb';cases hb';exact fun h=>absurd (.inl h) hb
   ·simp only[cka,bya] at hb
    simp[ld,aa,bg,cB bg,Jf,IP,hb.1,hb.2]
theorem Wp(hl:t.length≤3000):∀ m lS,m+lS = t.length→∃ r:Nat,lS≤r∧r≤t.length∧(∀ b,t[lS]? = some b→F0 b=true→lS < r)∧((t.take r).drop lS).all F0=true∧cq fun q k=>iL q k t (lS:Int)=some ((r:Int),())
 |0,lS,h=>by
  refine⟨lS,by omega,by omega,fun b hb=>?_,?_,cq.succ (cq.of fun q k=>?_)⟩
  ·have:=(aka.1 hb).1;omega
  ·simp
  ·have:¬ lS < t.length:=by omega
   simp[iL,aa,this]
 |m+1,lS,h=>by
  have bg:lS < t.length:=by omega
  by_cases hb:F0 t[lS]=true
  ·obtain⟨r,h1,h2,_,h4,h3⟩:=Wp hl m (lS + 1) (by omega)
   refine⟨r,by omega,h2,fun _ _ _=>by omega,?_,cq.succ (h3.mono fun q k e=>?_)⟩
   ·have:(t.take r).drop lS = t[lS]::(t.take r).drop (lS + 1):=by
     rw[aQa (by simp;omega)];simp
    rw[this];simp only[bpa,hb,h4,bAa]
   ·simp only[go_sem,iL,aa,Q5,bg,cB bg,IP,ai (show lS < _ by omega),e,hb]
  ·refine⟨lS,by omega,by omega,fun b hb'=>?_,by simp,cq.succ (cq.of fun q k=>?_)⟩
   ·rw[bja bg] at hb';cases hb';exact fun h=>absurd h hb
   ·simp only[bya] at hb
    simp[iL,aa,bg,cB bg,IP,hb]
end Go.Fx.R5
namespace Go.Fx.R5
open Go Go.Fx
theorem u8w{x:Int}(h1:0≤x)(h2:x<256):IntKind.u8.wrap x=x:=by unfold IntKind.wrap;simp[IntKind.bits,IntKind.signed];omega
def JI(n:Int)(b:UInt8):Int:=n * 10+((b.toNat:Int) - 48)
theorem XY{b:UInt8}(h:F0 b=true):48≤b.toNat∧b.toNat≤57:=by simpa[F0] using h
theorem US{s:ab}(hs:s.all F0=true)(hl:s.length≤10):∀ m i (v:Int),m+i=s.length→0≤v→v<10 ^ i→
  0≤(s.drop i).foldl JI v∧cq fun q k=>ma q k s v (i:Int)=some ((s.drop i).foldl JI v,())
 |0,i,v,h,h0,h1=>by
  have:¬ i<s.length:=by omega
  have e:s.drop i=[]:=by simp;omega
  rw[e];exact⟨h0,cq.succ (cq.of fun q k=>by simp[ma,this])⟩
 |m+1,i,v,h,h0,h1=>by
  have bg:i<s.length:=by omega
  have hd:=XY (ana.1 hs s[i] (aRa bg));have e:s.drop i=s[i]::s.drop (i+1):=aQa bg;have hp:(10:Int) ^ (i+1)≤10 ^ 10:=by
   have:(10:Nat) ^ (i+1)≤10 ^ 10:=Nat.pow_le_pow_right (by omega) (by omega)
   exact_mod_cast this
  have hq:(10:Int) ^ (i+1)=10 ^ i * 10:=Int.pow_succ ..;have b1:0≤JI v s[i]:=by unfold JI;omega
  have b2:JI v s[i]<10 ^ (i+1):=by unfold JI;omega
  obtain⟨c1,c2⟩:=US hs hl m (i+1) (JI v s[i]) (by omega) b1 b2
  rw[e];refine⟨c1,cq.succ (c2.mono fun q k e=>?_)⟩;have w:bh (bh (v * 10)+bh (IntKind.u8.wrap ((s[i].toNat:Int) - 48)))=JI v s[i]:=by
   rw[u8w (by omega) (by omega),bw (x:=v * 10) (by omega) (by omega),bw (x:=(s[i].toNat:Int) - 48) (by omega) (by omega),bw (by omega) (by omega)]
   rfl
  simp only[go_sem,ma,Q5,bg,cB bg,w,ai (show i<_ by omega),e,b5a]
theorem aax{s:ab}(hs:s.all F0=true)(h0:0<s.length):∃(v:Int) (ok:Bool),pz s=some (v,ok,())∧(ok=true→0≤v∧v≤2147483647)∧
  Ev fun k=>pF k s=some (if ok=true then v else -1,()):=by
 have hz:s≠[]:=by intro e;rw[e] at h0;simp at h0
 have hd:To s=true:=hs;have e0:((s.length:Int) > 10)=(10<s.length):=by simp only[bTa,eq_iff_iff];omega
 have e1:((s.length:Int) > 1)=(1<s.length):=by simp only[bTa,eq_iff_iff];omega
 have hi:s.isEmpty=false:=by simp[hz]
 have hx:bC s 0=some s[0]:=cB (n:=0) h0;have hh:s.headD 0=s[0]:=by cases s with|nil=>exact absurd rfl hz|cons a b=>rfl
 have e48:((s[0].toNat:Int)==48)=(s[0]==48):=by
  rw[show(48:Int)=((48:Nat):Int) from rfl,Y9]
  by_cases h:s[0]=48
  ·simp[h]
  ·rw[Q6.2 h];simp;exact fun h'=>h (UInt8.toNat_inj.1 h')
 by_cases hl:10<s.length
 ·exact⟨0,false,by simp[pz,hd,hi,hl],by simp,Ev.of fun k=>by simp only[go_sem,pF,aa,e0,hl];rfl⟩
 ·by_cases h48:1<s.length∧s[0]=48
  ·exact⟨0,false,by simp only[pz,hd,hi,hh,h48.1,h48.2];rfl,by simp,Ev.of fun k=>by simp only[go_sem,pF,aa,e0,e1,hl,h48.1,hx,h48.2];rfl⟩
  ·obtain⟨c1,c2⟩:=US hs (by omega) s.length 0 0 (by omega) (by omega) (by simp)
   have hb:(decide (1<s.length)&&(s[0]==48))=false:=by
    simp only[Bool.and_eq_false_iff,cma,Q6];by_cases h:1<s.length
    ·exact .inr fun h'=>h48 ⟨h,h'⟩
    ·exact .inl h
   have hv:(s.drop 0).foldl JI 0=OU s:=rfl;rw[hv] at c1 c2;have sp:∀ k r,(ma k k s 0 0=some (r,()))→pF k s=some (if decide (r > 2147483647) then -1 else r,()):=fun k r e=>by
    simp only[go_sem,pF,aa,e0,e1,hl,hx,e48,e];cases h:decide (1<s.length) with
    |false=>simp only[go_sem];cases decide (r > 2147483647)<;>rfl
    |true=>
     have:(s[0]==48)=false:=by simpa[h] using hb
     rw[this];simp only[go_sem];cases decide (r > 2147483647)<;>rfl
   by_cases hm:2147483647<OU s
   ·refine⟨0,false,?_,by simp,c2.jY.mono fun k e=>?_⟩
    ·simp only[pz,hd,hi,hh,hb];simp[hl,hm]
    ·rw[sp k _ e];simp[hm]
   ·refine⟨OU s,true,?_,fun _=>⟨c1,by omega⟩,c2.jY.mono fun k e=>?_⟩
    ·simp only[pz,hd,hi,hh,hb];simp[hl,hm]
    ·rw[sp k _ e];simp[hm]
def kwL:XS:=[[97,114,114,97,121],[118,97,114],[114,101,102],[102,117,110,99],[105,102],[101,108,115,101],[119,104,105,108,101],[102,111,114],[114,101,97,100],[112,114,105,110,116],[97,115,115,101,114,116],[115,116,111,112],[114,101,116,117,114,110],[97,110,100],[111,114],[110,111,116],[110,117,108,108]]
theorem Ae{α:Type}{f:Bool→Option α}{b c:Bool}:(aa f fun jx=>bif b then jx true else jx c)=f (b||c):=by cases b<;>rfl
theorem acg{α:Type}{j:Bool→Option α}{b c:Bool}:(bif b then j b else j c)=j (b||c):=by cases b<;>rfl
theorem abq(t:ab):Aj t=some (kwL.contains t,()):=by simp only[Aj,Ae,kwL,List.contains_cons,Bool.or_assoc];simp
theorem ae9(t:ab):zV t=some (kwL.contains t,()):=by
 simp only[zV,acg,kwL,List.contains_cons];rw[show ∀ b:Bool,(aa (fun v:Bool=>bif v then some (true,()) else some (false,())) fun jx=>jx b)=some (b,()) from fun b=>by cases b<;>rfl]
 simp
def wT(t:ab):ab:=(xW.find? (·.isPrefixOf t)).getD []
def OI(o:Option ab):Unit⊕(ab×Unit):=match o with|none=>.inl ()|some s=>.inr (s,())
theorem aaM(s r:ab):(decide (s.length≤r.length)&&(r.take s.length==s))=s.isPrefixOf r:=by
 have:s.isPrefixOf r=true↔s <+: r:=List.isPrefixOf_iff_prefix;rw[Bool.eq_iff_iff,this,List.prefix_iff_eq_take];simp only[Q3,bQa,a9a];constructor
 ·rintro⟨_,h⟩;exact h.symm
 ·intro h;refine⟨?_,h.symm⟩
  have:=bLa List.length h;simp at this;omega
theorem Q0{t:ab}(hl:t.length≤3000){a:Nat}(ha:a≤t.length):∀ m i:Nat,m+i=30→
  cq fun q k=>np q k t (a:Int) xW (i:Int)=some (OI ((xW.drop i).find? (·.isPrefixOf (t.drop a))))∧mZ q k t (a:Int) xW (i:Int)=some (OI ((xW.drop i).find? (·.isPrefixOf (t.drop a))))
 |0,i,h=>by
  have e:xW.drop i=[]:=by rw[show i=30 by omega];rfl
  have h1:¬ i<xW.length:=by rw[show i=30 by omega];decide
  have h2:¬ (i:Int)<30:=by omega
  rw[e];exact cq.succ (cq.of fun q k=>by simp[np,mZ,h1,h2,OI])
 |m+1,i,h=>by
  have bg:i<xW.length:=by show i<30;omega
  have h2:(i:Int)<30:=by omega
  have e:xW.drop i=xW[i]::xW.drop (i+1):=aQa bg;have ih:=Q0 hl ha m (i+1) (by omega)
  have es:sub t (a:Int) (t.length:Int)=some (t.drop a):=by rw[wV ha (awa _),cta]
  have ew:bh ((t.length:Int) - a)=((t.drop a).length:Int):=by rw[bw (by omega) (by omega)];simp;omega
  rw[e,List.find?_cons];have hp:=aaM xW[i] (t.drop a);refine cq.succ (ih.mono fun q k e=>?_);simp only[go_sem,np,mZ,aa,Q5,bg,h2,cB bg,es,HK,ew,ai (show i<_ by omega),e.1,e.2,Int.ofNat_le]
  by_cases hc:xW[i].length≤(t.drop a).length
  ·have hc':a+xW[i].length≤t.length:=by simp at hc;omega
   have e3:sub t (a:Int) (bh ((a:Int)+(xW[i].length:Int)))=some ((t.drop a).take xW[i].length):=by
    rw[bw (by omega) (by omega),show(a:Int)+(xW[i].length:Int)=((a+xW[i].length:Nat):Int) from rfl,wV (by omega) hc']
    rw[List.drop_take];congr 2;omega
   simp only[go_sem,hc,e3];rw[show(List.take xW[i].length (List.drop a t)==xW[i])=xW[i].isPrefixOf (t.drop a) by rw[←hp,decide_eq_true hc,Bool.true_and]]
   cases xW[i].isPrefixOf (t.drop a)<;>simp[OI]
  ·have:xW[i].isPrefixOf (t.drop a)=false:=by rw[←hp];simp;intro h;simp at hc;omega
   simp only[go_sem,hc,this,aPa]
theorem YA{t:ab}(hl:t.length≤3000){a:Nat}(ha:a<t.length):
  Ev fun k=>Ai k t (a:Int)=some (wT (t.drop a),())∧zU k t (a:Int)=some (wT (t.drop a),()):=by
 refine(Q0 hl (Nat.le_of_lt ha) 30 0 rfl).jY.mono fun k e=>?_;have h0:¬ (a:Int)<0:=by omega
 have h1:¬ (a:Int)≥t.length:=by omega
 have e1:np k k t (a:Int) xW 0=some (OI (xW.find? (·.isPrefixOf (t.drop a)))):=e.1
 have e2:mZ k k t (a:Int) xW 0=some (OI (xW.find? (·.isPrefixOf (t.drop a)))):=e.2
 have e3:xT=some (xW,()):=rfl;simp only[go_sem,Ai,zU,aa,h0,h1,e3,e1,e2,wT];cases xW.find? (·.isPrefixOf (t.drop a))<;>simp[OI]
theorem aa6{t:ab}(h:wT t≠[]):wT t∈xW∧wT t <+: t:=by
 unfold wT at h ⊢;cases hf:xW.find? (·.isPrefixOf t) with
 |none=>simp[hf] at h
 |some s=>have h2:s.isPrefixOf t=true:=cxa (p:=fun x:ab=>x.isPrefixOf t) hf;exact⟨b0a hf,List.isPrefixOf_iff_prefix.1 h2⟩
end Go.Fx.R5
namespace Go.Fx.R5
open Go Go.Fx
abbrev zK:=Int×Int×ab×Int
structure MU(x:zK):Prop where
 k:(x.1=1∧kwL.contains x.2.2.1=false∧xW.contains x.2.2.1=false∧x.2.2.1≠[])∨(x.1=2∧kwL.contains x.2.2.1=false∧xW.contains x.2.2.1=false)∨
  (x.1=3∧kwL.contains x.2.2.1=true∧xW.contains x.2.2.1=false)∨(x.1=4∧xW.contains x.2.2.1=true∧kwL.contains x.2.2.1=false)
 num:0≤x.2.2.2∧x.2.2.2≤2147483647
 lS:0≤x.2.1∧x.2.1≤3000
theorem acA:∀ s∈xW,(s.head?.map fun c=>Pv c||F0 c)=some false:=by decide +kernel
theorem agZ:∀ s∈kwL,(s.head?.map Pv)=some true:=by decide +kernel
theorem aer:∀ s∈kwL,(s.head?.map F0)=some false:=by decide +kernel
theorem aeT:∀ s∈xW,0<s.length∧s.length≤2:=by decide +kernel
theorem agv:∀ s∈xW,kwL.contains s=false:=by decide +kernel
theorem aau{s:ab}{c:UInt8}(h:s.head? = some c)(hc:Pv c=true∨F0 c=true):xW.contains s=false:=by
 cases h':xW.contains s with
 |false=>rfl
 |true=>
  have:=acA s (by simpa using h')
  rw[h] at this;simp only[bIa,OQ,aGa] at this;rcases hc with hc|hc
  ·rw[this.1] at hc;cases hc
  ·rw[this.2] at hc;cases hc
theorem aeE{s:ab}{c:UInt8}(h:s.head? = some c)(hc:F0 c=true):kwL.contains s=false:=by
 cases h':kwL.contains s with
 |false=>rfl
 |true=>
  have:=aer s (by simpa using h')
  rw[h] at this;simp only[bIa,OQ] at this;rw[this] at hc;cases hc
theorem Tm{t:ab}{a r:Nat}(h:a<r)(hr:r≤t.length):((t.take r).drop a).head? = t[a]?:=by rw[List.head?_drop,bqa h]
theorem Mq{t:ab}{a r:Nat}(hr:r≤t.length):((t.take r).drop a).length=r - a:=by simp;omega
theorem PZ{t:ab}{a r:Nat}(h:t.length≤3000):Ch ((t.take r).drop a)=some ((t.take r).drop a,()):=by unfold Ch;rw[show decide (((t.take r).drop a).length≤281474976710656)=true by simp;omega];rfl
theorem V5{t:ab}(hl:t.length≤3000){a:Nat}(ha:a<t.length):∃(x y:zK) (e:Nat) (c:Int),
  (Ev fun k=>ou k t (a:Int)=some (x,(e:Int),c,())∧jU k t (a:Int)=some (y,c,()))∧
  (c=0→x=y∧e=a+y.2.2.1.length∧a<e∧e≤t.length∧MU y):=by
 have hx:bC t (a:Int)=some t[a]:=cB ha;have hg:t[a]? = some t[a]:=by simp[ha]
 cases bg:Pv t[a] with
 |true=>
  obtain⟨r,h1,h2,h3,h4⟩:=aa0 hl (t.length - a) a (by omega)
  have h5:a<r:=h3 _ hg bg;have es:sub t (a:Int) (r:Int)=some ((t.take r).drop a):=wV h1 h2;have jy:(((t.take r).drop a).length:Int)=(r:Int) - a:=by rw[Mq h2];omega
  have hh:((t.take r).drop a).head? = some t[a]:=by rw[Tm h5 h2,hg]
  have h4:=h4.jY;by_cases h8:(r:Int) - a > 8
  ·refine⟨(if kwL.contains ((t.take r).drop a) then 3 else 1,a,(t.take r).drop a,0),(0,0,[],0),r,3,h4.mono fun k e=>?_,fun h=>by cases h⟩
   simp only[go_sem,ou,jU,CF,hx,Jf,Qz,bg,OH,e,es,jy,h8,bw (x:=(r:Int) - a) (by omega) (by omega),abq,aa]
   cases kwL.contains ((t.take r).drop a)<;>simp
  ·refine⟨(if kwL.contains ((t.take r).drop a) then 3 else 1,a,(t.take r).drop a,0),(if kwL.contains ((t.take r).drop a) then 3 else 1,a,(t.take r).drop a,0),r,0,h4.mono fun k e=>?_,fun _=>⟨rfl,?_,h5,h2,?_,by simp,by simp;omega⟩⟩
   ·simp only[go_sem,ou,jU,CF,hx,Jf,Qz,bg,OH,e,es,jy,h8,bw (x:=(r:Int) - a) (by omega) (by omega),abq,ae9,aa,PZ hl]
    cases kwL.contains ((t.take r).drop a)<;>simp
   ·simp only[Mq h2];omega
   ·have hs:=aau hh (.inl bg)
    cases hk:kwL.contains ((t.take r).drop a) with
    |true=>exact .inr (.inr (.inl ⟨by simp,rfl,hs⟩))
    |false=>exact .inl ⟨by simp,rfl,hs,fun e=>by have e:(t.take r).drop a=[]:=e;rw[e] at hh;cases hh⟩
 |false=>
  cases hdg:F0 t[a] with
  |true=>
   obtain⟨r,h1,h2,h3,h6,h4⟩:=Wp hl (t.length - a) a (by omega)
   have h5:a<r:=h3 _ hg hdg;have es:sub t (a:Int) (r:Int)=some ((t.take r).drop a):=wV h1 h2;have hh:((t.take r).drop a).head? = some t[a]:=by rw[Tm h5 h2,hg]
   obtain⟨v,ok,g1,g2,g3⟩:=aax h6 (by rw[Mq h2];omega)
   have h4:=h4.jY;cases ok with
   |false=>
    refine⟨(2,a,(t.take r).drop a,-1),(0,0,[],0),r,4,(h4.and g3).mono fun k e=>?_,fun h=>by cases h⟩
    simp only[go_sem,ou,jU,vS,hx,Jf,Qz,bg,Nl,e.1,e.2,es,IP,Wo,hdg,g1];simp
   |true=>
    have gv:=g2 rfl;refine⟨(2,a,(t.take r).drop a,v),(2,a,(t.take r).drop a,v),r,0,(h4.and g3).mono fun k e=>?_,fun _=>⟨rfl,?_,h5,h2,.inr (.inl ⟨rfl,aeE hh hdg,aau hh (.inr hdg)⟩),gv,by simp;omega⟩⟩
    ·have:¬ v<0:=by omega
     simp only[go_sem,ou,jU,vS,hx,Jf,Qz,bg,Nl,e.1,e.2,es,IP,Wo,hdg,g1,PZ hl];simp[this]
    ·simp only[Mq h2];omega
  |false=>
   have hs:=YA hl ha;by_cases hz:wT (t.drop a)=[]
   ·refine⟨(4,a,[],0),(0,0,[],0),a,2,hs.mono fun k e=>?_,fun h=>by cases h⟩
    simp only[go_sem,ou,jU,hx,Jf,Qz,bg,IP,Wo,hdg,e.1,e.2,hz];simp
   ·obtain⟨m1,m2⟩:=aa6 hz
    have Cm:=m2.length_le;have h2:=aeT _ m1;refine⟨(4,a,wT (t.drop a),0),(4,a,wT (t.drop a),0),a+(wT (t.drop a)).length,0,hs.mono fun k e=>?_,fun _=>⟨rfl,rfl,by omega,by simp at Cm;omega,.inr (.inr (.inr ⟨rfl,by simpa using m1,agv _ m1⟩)),by simp,by simp;omega⟩⟩
    have:(wT (t.drop a)==[])=false:=by simpa using hz
    simp only[go_sem,ou,jU,hx,Jf,Qz,bg,IP,Wo,hdg,e.1,e.2,this];rw[bw (by omega) (by omega)]
    simp
theorem aae{t:ab}(hl:t.length≤3000):∀ m (a:Nat) (out:List zK),t.length - a≤m→a≤t.length→out.length≤700→(∀ x∈out,MU x)→
  (∃ PI:List zK,PI.length≤700∧(∀ x∈PI,MU x)∧cq fun q k=>eT q k t 0 0 [] out (a:Int)=some (.inl (0,0,PI,()))∧eR q k t 0 0 out (a:Int)=some (.inl (0,0,PI,())))∨
  ∃(c:Int) (a':Int),c≠0∧cq fun q k=>eT q k t 0 0 [] out (a:Int)=some (.inr (c,a',[],()))∧eR q k t 0 0 out (a:Int)=some (.inr (c,a',())):=by
 intro m;induction m with
 |zero=>
  intro a out hm ha ho hok;have:¬ a<t.length:=by omega
  exact .inl ⟨out,ho,hok,cq.succ (cq.of fun q k=>by simp[eT,eR,this])⟩
 |succ m ih=>
  intro a out hm ha ho hok;by_cases bg:a<t.length
  ·obtain⟨x,y,e,c,h1,h2⟩:=V5 hl bg
   by_cases hc:c=0
   ·subst hc
    obtain⟨rfl,he,h3,h4,h5⟩:=h2 rfl;by_cases h7:out.length=700
    ·refine .inr ⟨5,a,by omega,cq.succ (h1.tj.mono fun q k e=>?_)⟩
     simp only[go_sem,eT,eR,Q5,bg,e.1,e.2,aa];simp[h7]
    ·obtain⟨r,g1,g2,g3⟩:=Ra hl e h4
     have e7:((out.length:Int)==700)=false:=by simp;omega
     have e8:¬ (out.length:Int)≥700:=by omega
     have ea:bD out [x]=some (out++[x]):=oj (by simp;omega)
     have ew:bh ((a:Int)+(x.2.2.1.length:Int))=(e:Int):=by rw[he,bw (by omega) (by omega)];simp
     have DM:∀{q k:Nat} {s1 s2},(ou q t (a:Int)=some (x,(e:Int),0,())∧jU q t (a:Int)=some (x,0,()))→(pe q t (e:Int)=some ((r:Int),())∧nT q t (e:Int)=some ((r:Int),()))→
       (eT q k t 0 0 [] (out++[x]) (r:Int)=s1∧eR q k t 0 0 (out++[x]) (r:Int)=s2)→
       eT q (k+1) t 0 0 [] out (a:Int)=s1∧eR q (k+1) t 0 0 out (a:Int)=s2:=by
      intro q k s1 s2 i1 i2 i3;simp only[go_sem,eT,eR,Q5,bg,i1.1,i1.2,aa,e7,e8,ea,ew,i2.1,i2.2,i3.1,i3.2];simp
     have ahw:∀ z∈out++[x],MU z:=by
      intro z hz;rcases aoa.1 hz with hz|hz
      ·exact hok z hz
      ·rw[Q7.1 hz];exact h5
     rcases ih r (out++[x]) (by omega) (by omega) (by simp;omega) ahw with ⟨PI,o1,o2,o3⟩|⟨c,a',o1,o2⟩
     ·exact .inl ⟨PI,o1,o2,cq.succ (((h1.tj.and g3.tj).and o3).mono fun q k e=>DM e.1.1 e.1.2 e.2)⟩
     ·exact .inr ⟨c,a',o1,cq.succ (((h1.tj.and g3.tj).and o2).mono fun q k e=>DM e.1.1 e.1.2 e.2)⟩
   ·refine .inr ⟨c,a,hc,cq.succ (h1.tj.mono fun q k e=>?_)⟩
    have Mu:(c==0)=false:=by simpa using hc
    simp only[go_sem,eT,eR,Q5,bg,e.1,e.2,aa,bne,Mu];simp
  ·exact .inl ⟨out,ho,hok,cq.succ (cq.of fun q k=>by simp[eT,eR,bg])⟩
theorem aad(t:ab):(∃ ts:List zK,t.length≤3000∧ts.length≤700∧(∀ x∈ts,MU x)∧Ev fun k=>nj k t=some (ts,(0,0),())∧mY k t=some (ts,(0,0),()))∨
  ∃(c:Int) (a:Int),c≠0∧Ev fun k=>nj k t=some ([],(c,a),())∧mY k t=some ([],(c,a),()):=by
 by_cases hl:t.length≤3000
 ·have h0:¬ (t.length:Int) > 3000:=by omega
  obtain⟨r,g1,g2,g3⟩:=Ra hl 0 (by omega)
  rcases aae hl _ r [] (awa _) g2 (by simp) (by simp) with ⟨o,o1,o2,o3⟩|⟨c,a,o1,o3⟩
  ·refine .inl ⟨o,hl,o1,o2,(g3.and o3.jY).mono fun k e=>?_⟩
   have e1:pe k t 0=some ((r:Int),()):=e.1.1;have e2:nT k t 0=some ((r:Int),()):=e.1.2;simp only[go_sem,nj,mY,h0,e1,e2,e.2.1,e.2.2,aPa]
  ·refine .inr ⟨c,a,o1,(g3.and o3.jY).mono fun k e=>?_⟩
   have e1:pe k t 0=some ((r:Int),()):=e.1.1;have e2:nT k t 0=some ((r:Int),()):=e.1.2;simp only[go_sem,nj,mY,h0,e1,e2,e.2.1,e.2.2,aPa]
 ·have h0:(t.length:Int) > 3000:=by omega
  exact .inr ⟨1,0,by omega,Ev.of fun k=>by simp[nj,mY,h0]⟩
end Go.Fx.R5
namespace Go.Fx.R5
open Go Go.Fx
abbrev eu:=Int×Int×Int×ab×XI
def a6(ts:List zK)(a:Nat)(w:ab):Bool:=match ts[a]? with|some x=>x.2.2.1==w|none=>false
def uk(ts:List zK)(a:Nat)(k:Int):Bool:=match ts[a]? with|some x=>x.1==k|none=>false
def pl(ts:List zK)(en:Int)(a:Nat):Int:=match ts[a]? with|some x=>x.2.1|none=>en
def tk(ts:List zK)(a:Nat):zK:=(ts[a]?).getD (0,0,[],0)
def sg(ts:List zK)(a:Nat):ab:=bif uk ts a 4 then(tk ts a).2.2.1 else []
structure pp(ts:List zK):Prop where
 len:ts.length≤700
 ok:∀ x∈ts,MU x
def isW(w:ab):Bool:=kwL.contains w||xW.contains w
section
variable {ts:List zK} {a:Nat} {w:ab} {en:Int} {k:Int} {d:Nat} {ns:List eu} {c p:Int}
theorem bz(h:a6 ts a w=true):a<ts.length:=by
 unfold a6 at h;cases hx:ts[a]? with
 |none=>simp[hx] at h
 |some x=>exact(aka.1 hx).1
theorem jQ(h:uk ts a k=true):a<ts.length:=by
 unfold uk at h;cases hx:ts[a]? with
 |none=>simp[hx] at h
 |some x=>exact(aka.1 hx).1
theorem iA(h:a<ts.length):ts[a]? = some (tk ts a):=by simp[tk,h]
theorem Ri(hs:pp ts)(h:a<ts.length):MU (tk ts a):=hs.ok _ (a1a (iA h))
theorem Ks(h:uk ts a k=true):(tk ts a).1=k:=by have:=jQ h;simp only[uk,iA this,a9a] at h;exact h
theorem Xk(h:a6 ts a w=true):(tk ts a).2.2.1=w:=by have:=bz h;simp only[a6,iA this,a9a] at h;exact h
theorem ww(h:¬ a<ts.length):ts[a]? = none:=by simp;omega
theorem UD(hs:pp ts)(hw:isW w=true)(hk:k=1∨k=2)(h:a6 ts a w=true):uk ts a k=false:=by
 cases hi:uk ts a k with
 |false=>rfl
 |true=>
  have h1:=bz h;have h2:=(Ri hs h1).k;rw[Ks hi,Xk h] at h2;simp only[isW,a5a] at hw;rcases h2 with ⟨e,f,g,_⟩|⟨e,f,g⟩|⟨e,_⟩|⟨e,_⟩
  ·rw[f,g] at hw;simp at hw
  ·rw[f,g] at hw;simp at hw
  ·omega
  ·omega
theorem agc(hs:pp ts)(hw:isW w=true)(hk:k=1∨k=2)(h:uk ts a k=true):a6 ts a w=false:=by
 cases hi:a6 ts a w with
 |false=>rfl
 |true=>rw[UD hs hw hk hi] at h;cases h
theorem agX(h:uk ts a 1=true):uk ts a 2=false:=by have h1:=jQ h;have:=Ks h;simp only[uk,iA h1];rw[this];rfl
theorem agY(h:uk ts a 2=true):uk ts a 1=false:=by have h1:=jQ h;have:=Ks h;simp only[uk,iA h1];rw[this];rfl
theorem aZ{w':ab}(h:a6 ts a w=true)(hw:(w==w')=false):a6 ts a w' = false:=by have h1:=bz h;have:=Xk h;simp only[a6,iA h1];rw[this];exact hw
theorem tu(hl:a≤4000000000000000000):eN ts (a:Int) 0 w=some (a6 ts a w,()):=by
 have:bh ((a:Int)+0)=(a:Int):=by rw[bw (by omega) (by omega)];simp
 simp only[eN,this,aa,Q5];by_cases h:a<ts.length
 ·simp only[go_sem,h,bf (iA h),a6,iA h]
 ·simp only[go_sem,h,a6,ww h]
theorem zT(hl:a≤4000000000000000000):eN ts (a:Int) 1 w=some (a6 ts (a+1) w,()):=by
 have:bh ((a:Int)+1)=((a+1:Nat):Int):=ai (by omega)
 simp only[eN,this,aa,Q5];by_cases h:a+1<ts.length
 ·simp only[go_sem,h,bf (iA h),a6,iA h]
 ·simp only[go_sem,h,a6,ww h]
theorem aG(hl:a≤4000000000000000000):aE ts (a:Int) w=some (a6 ts a w,((if a6 ts a w=true then a+1 else a:Nat):Int),()):=by
 simp only[go_sem,aE,tu hl,ai (show a<_ by omega)]
 cases a6 ts a w<;>simp
theorem bq:df ts en (a:Int)=some (pl ts en a,()):=by
 simp only[df,Q5];by_cases h:a<ts.length
 ·simp only[go_sem,h,bf (iA h),pl,iA h]
 ·simp only[go_sem,h,pl,ww h]
theorem AG:gT ts en (a:Int) c=some (c,pl ts en a,()):=by simp only[go_sem,gT,bq]
theorem gG:iw ts (a:Int) k=some (uk ts a k,()):=by
 simp only[iw,aa,Q5];by_cases h:a<ts.length
 ·simp only[go_sem,h,bf (iA h),uk,iA h]
 ·simp only[go_sem,h,uk,ww h]
theorem cW(hl:a≤4000000000000000000):dh ts en (a:Int) k=some (if uk ts a k=true then .inl (tk ts a,((a+1:Nat):Int),()) else .inr (6,pl ts en a,())):=by
 have e:bh (bh ((a:Int)+1) - 1)=(a:Int):=by rw[bw (x:=(a:Int)+1) (by omega) (by omega),bw (by omega) (by omega)];omega
 simp only[go_sem,dh,gG,AG,e];simp only[ai (show a<_ by omega)]
 cases h:uk ts a k with
 |true=>simp[bf (iA (jQ h))]
 |false=>simp
theorem bE(hl:a≤4000000000000000000):aW ts en (a:Int) w=some (if a6 ts a w=true then .inl (((a+1:Nat):Int),()) else .inr (6,pl ts en a,())):=by
 simp only[go_sem,aW,aG hl];cases h:a6 ts a w with
 |true=>simp
 |false=>simp[AG]
theorem Mn(h:ns.length≤4000000)(n:eu):bD ns [n]=some (ns++[n])∧bh (((ns++[n]).length:Int) - 1)=(ns.length:Int):=
 ⟨oj (by simp;omega),by rw[aua,b9a,bw (by omega) (by omega)];omega⟩
theorem ii(h:ns.length≤4000000)(n:eu):bG ns n=some ((ns.length:Int),ns++[n],()):=by simp only[go_sem,bG,(Mn h n).1,(Mn h n).2]
theorem jO(hl:a≤4000000000000000000)(h:ns.length≤4000000):eS ts en (a:Int) ns k =
  some (if uk ts a 1=true then .inl ((ns.length:Int),((a+1:Nat):Int),ns++[(k,(tk ts a).2.1,0,(tk ts a).2.2.1,[])],()) else .inr (6,pl ts en a,())):=by
 simp only[go_sem,eS,cW hl];cases uk ts a 1 with
 |true=>simp[ii h]
 |false=>simp
theorem gN(hd:d≤10):fG ts en (a:Int) (d:Int)=some (if d<10 then .inl (((d+1:Nat):Int),()) else .inr (7,pl ts en a,())):=by
 simp only[go_sem,fG,ai (show d<_ by omega),AG]
 by_cases h2:d<10
 ·have:¬ ((d+1:Nat):Int) > 10:=by omega
  simp only[go_sem,this,h2,ava]
 ·have:((d+1:Nat):Int) > 10:=by omega
  simp only[go_sem,this,h2,Q9]
theorem gM(hs:pp ts)(hw:isW w=true):fw ts (a:Int) 0 w=some (a6 ts a w,()):=by
 simp only[go_sem,fw,aa,Q5];by_cases h:a<ts.length
 ·simp only[go_sem,h,bf (iA h),a6,iA h]
  cases hx:((tk ts a).2.2.1==w) with
  |false=>rfl
  |true=>
   have h2:=(Ri hs h).k;rw[a9a.1 hx] at h2;simp only[isW,a5a] at hw;have:(tk ts a).1≥3:=by
    rcases h2 with ⟨e,f,g,_⟩|⟨e,f,g⟩|⟨e,_⟩|⟨e,_⟩
    ·rw[f,g] at hw;simp at hw
    ·rw[f,g] at hw;simp at hw
    ·omega
    ·omega
   simp[this]
 ·simp only[go_sem,h,a6,ww h]
theorem af(hs:pp ts)(hw:isW w=true)(hl:a≤4000000000000000000):bX ts (a:Int) 0 w=some (a6 ts a w,((if a6 ts a w=true then a+1 else a:Nat):Int),()):=by
 simp only[go_sem,bX,gM hs hw,ai (show a<_ by omega)]
 cases a6 ts a w<;>simp
theorem dO:dd ts (a:Int) en=some (pl ts en a,()):=bq
theorem gb:jg ts (a:Int) 0 k=some (uk ts a k,()):=by
 simp only[go_sem,jg,aa,Q5];by_cases h:a<ts.length
 ·simp only[go_sem,h,bf (iA h),uk,iA h]
 ·simp only[go_sem,h,uk,ww h]
theorem KO:jf ts (a:Int) en 0 0 c=some (c,pl ts en a,()):=by simp only[go_sem,jf,dO]
theorem dj(hl:a≤4000000000000000000):dD ts (a:Int) en 0 0=some (if uk ts a 1=true then((tk ts a).2.2.1,((a+1:Nat):Int),0,0,()) else([],(a:Int),6,pl ts en a,())):=by
 have e:bh (bh ((a:Int)+1) - 1)=(a:Int):=by rw[bw (x:=(a:Int)+1) (by omega) (by omega),bw (by omega) (by omega)];omega
 simp only[go_sem,dD,gb,KO,e];simp only[ai (show a<_ by omega)]
 cases h:uk ts a 1 with
 |true=>simp[bf (iA (jQ h))]
 |false=>simp
theorem E0(hl:a≤4000000000000000000):mh ts (a:Int) en 0 0=some (if uk ts a 2=true then((tk ts a).2.2.2,((a+1:Nat):Int),0,0,()) else(0,(a:Int),6,pl ts en a,())):=by
 have e:bh (bh ((a:Int)+1) - 1)=(a:Int):=by rw[bw (x:=(a:Int)+1) (by omega) (by omega),bw (by omega) (by omega)];omega
 simp only[go_sem,mh,gb,KO,e];simp only[ai (show a<_ by omega)]
 cases h:uk ts a 2 with
 |true=>simp[bf (iA (jQ h))]
 |false=>simp
theorem aI(hs:pp ts)(hw:isW w=true)(hl:a≤4000000000000000000):aK ts (a:Int) en 0 0 w=some (if a6 ts a w=true then(((a+1:Nat):Int),0,0,()) else((a:Int),6,pl ts en a,())):=by
 simp only[go_sem,aK,af hs hw hl];cases h:a6 ts a w with
 |true=>simp
 |false=>simp[KO]
theorem fv(h:ns.length≤4000000)(n:eu):aQ ns 0 n=some ((ns.length:Int),ns++[n],()):=by simp only[go_sem,aQ,(Mn h n).1,(Mn h n).2]
theorem lY(hd:d≤10):iD ts (a:Int) en (d:Int) 0 0=some (if d<10 then(true,((d+1:Nat):Int),0,0,()) else(false,((d+1:Nat):Int),7,pl ts en a,())):=by
 simp only[iD,aa,ai (show d<_ by omega),KO,bza]
 by_cases h2:d<10
 ·have:¬ ((d+1:Nat):Int) > 10:=by omega
  simp only[this,cga,aqa,h2,ava];rfl
 ·have:((d+1:Nat):Int) > 10:=by omega
  simp only[this,decide_true,aja,h2,Q9];rfl
theorem H7:mM ts (a:Int) 0=some (sg ts a,()):=by
 simp only[go_sem,mM,gb,sg];cases h:uk ts a 4 with
 |true=>simp[bf (iA (jQ h))]
 |false=>simp
theorem Li(hl:a≤4000000000000000000)(h:ns.length≤4000000)(hk:uk ts a 1=true):oc ts (a:Int) en ns 0 0=some ((ns.length:Int),((a+1:Nat):Int),ns++[(23,pl ts en a,0,(tk ts a).2.2.1,[])],0,0,()):=by simp only[go_sem,oc,dO,dj hl,hk,ava,fv h]
theorem EZ(hs:pp ts)(hw:xW.contains w=true)(hl:a≤4000000000000000000):vT ts (a:Int) w=some (a6 ts (a+1) w,()):=by
 simp only[vT,aa,ai (show a<_ by omega),Q5]
 by_cases h:a+1<ts.length
 ·simp only[go_sem,h,bf (iA h),a6,iA h]
  cases hx:((tk ts (a+1)).2.2.1==w) with
  |false=>rfl
  |true=>
   have h2:=(Ri hs h).k;rw[a9a.1 hx] at h2;have:(tk ts (a+1)).1=4:=by
    rcases h2 with ⟨e,f,g,_⟩|⟨e,f,g⟩|⟨e,_,g⟩|⟨e,_⟩
    ·rw[g] at hw;cases hw
    ·rw[g] at hw;cases hw
    ·rw[g] at hw;cases hw
    ·exact e
   simp[this]
 ·simp only[go_sem,h,a6,ww h]
variable (hc:c≠0)
include hc
theorem Nr:fw ts (a:Int) c w=some (false,()):=by simp[fw,aa,Q6.2 hc]
theorem Ax:bX ts (a:Int) c w=some (false,(a:Int),()):=by simp[bX,Nr hc]
theorem Ns:jg ts (a:Int) c k=some (false,()):=by simp[jg,aa,Q6.2 hc]
theorem Kf{c':Int}:jf ts (a:Int) en c p c' = some (c,p,()):=by simp[jf,Q6.2 hc]
theorem Nt:dD ts (a:Int) en c p=some ([],(a:Int),c,p,()):=by simp[dD,Ns hc,Kf hc]
theorem Tv:mh ts (a:Int) en c p=some (0,(a:Int),c,p,()):=by simp[mh,Ns hc,Kf hc]
theorem fE:aK ts (a:Int) en c p w=some ((a:Int),c,p,()):=by simp[aK,Ax hc,Kf hc]
theorem cg(n:eu):aQ ns c n=some (0,ns,()):=by simp[aQ,bne,Q6.2 hc]
theorem Hx{d:Int}:iD ts (a:Int) en d c p=some (false,bh (d+1),c,p,()):=by
 have:(c==0)=false:=by simpa using hc
 simp only[go_sem,iD,aa,Kf hc,this];cases decide (bh (d+1) > 10)<;>rfl
theorem Zs:mM ts (a:Int) c=some ([],()):=by simp[mM,Ns hc]
theorem afv:oc ts (a:Int) en ns c p=some (0,(a:Int),ns,c,p,()):=by simp[oc,dO,Nt hc,cg hc]
end
end Go.Fx.R5
namespace Go.Fx.R5
open Go Go.Fx
def kd(ns:List eu)(j:Int):Int:=match ns[j.toNat]? with|some x=>x.1|none=>0
def Bx(k:Int):Bool:=k==24||k==25||k==26||k==27||k==28
def tW(k:Int):Bool:=k==30||k==31||k==32||k==33||k==34
def Pt(k:Int):Bool:=decide (9≤k)&&decide (k≤22)
def wO(k:Int):Bool:=k==5||k==6||k==7
def F9(k:Int):Bool:=k==2||k==3||k==4
def cf(k:Int)(l:XI):Bool:=
 if k=24∨k=25∨k=27∨k=29∨k=23∨k=34∨k=17∨k=20∨k=2∨k=3∨k=5∨k=6∨k=7 then l.isEmpty
 else if k=26∨k=11∨k=13∨k=18∨k=21 then(match l with|[a]=>Bx a|_=>false)
 else if k=9 then(match l with|[a]=>Bx a||a==29|_=>false)
 else if k=28∨k=30∨k=10 then(match l with|[a,b]=>Bx a&&Bx b|_=>false)
 else if k=12 then(match l with|[a,b]=>a==23&&Bx b|_=>false)
 else if k=22 then(match l with|a::r=>a==23&&r.all Bx|_=>false)
 else if k=31∨k=32 then(match l with|[a,b]=>tW a&&tW b|_=>false)
 else if k=33∨k=19 then(match l with|[a]=>tW a|_=>false)
 else if k=14 then(match l with|[a,b]=>tW a&&b==8|[a,b,c]=>tW a&&b==8&&c==8|_=>false)
 else if k=15 then(match l with|[a,b]=>tW a&&b==8|_=>false)
 else if k=16 then(match l with|[a,b,c]=>Bx a&&Bx b&&c==8|_=>false)
 else if k=8 then l.all Pt
 else if k=4 then l.dropLast.all wO&&l.getLast?==some 8
 else if k=1 then l.all F9
 else false
structure oi(ns:List eu)(i:Nat)(x:eu):Prop where
 cG:∀ j∈x.2.2.2.2,0≤j∧j<(i:Int)
 shp:cf x.1 (x.2.2.2.2.map (kd ns))=true
 nm:(x.1=4→x.2.2.2.1≠[])∧x.2.2.2.2.length≤5000
def jz(ns:List eu):Prop:=∀ i x,ns[i]? = some x→oi ns i x
theorem qA{ns et:List eu}(h:ns <+: et){j:Int}(h0:0≤j)(h1:j<ns.length):kd et j=kd ns j:=by
 obtain⟨r,rfl⟩:=h;have:j.toNat<ns.length:=by omega
 simp only[kd,aVa this]
theorem rk{ns:List eu}{x:eu}:kd (ns++[x]) (ns.length:Int)=x.1:=by simp[kd]
theorem oi.up{ns et:List eu}{i:Nat}{x:eu}(h:oi ns i x)(hp:ns <+: et)(hi:i≤ns.length):oi et i x:=by
 refine⟨h.cG,?_,h.nm⟩;rw[show x.2.2.2.2.map (kd et)=x.2.2.2.2.map (kd ns) from b3a fun j hj=>by
  have:=h.cG j hj;exact qA hp this.1 (by omega)]
 exact h.shp
theorem jz.add{ns:List eu}{x:eu}(h:jz ns)(hx:oi ns ns.length x):jz (ns++[x]):=by
 intro i y hy;by_cases hi:i<ns.length
 ·rw[aVa hi] at hy
  exact(h i y hy).up ⟨[x],rfl⟩ (by omega)
 ·rw[aTa (by omega)] at hy
  have:i - ns.length=0:=by have:=(aka.1 hy).1;simp at this;omega
  rw[this] at hy;simp only[bda,OQ] at hy;subst hy;have hi:i=ns.length:=by omega
  subst hi;exact hx.up ⟨[x],rfl⟩ (by omega)
theorem jz.nil:jz []:=fun i x h=>by simp at h
def wts(ns:List eu):List Nat:=ns.foldl (fun ws x=>ws++[1+(x.2.2.2.2.map fun j=>ws.getD j.toNat 0).sum]) []
def wt(ns:List eu)(j:Int):Nat:=(wts ns).getD j.toNat 0
def jM(ns:List eu)(l:XI):Nat:=(l.map (wt ns)).sum
theorem SJ(ns:List eu)(x:eu):wts (ns++[x])=wts ns++[1+jM ns x.2.2.2.2]:=by simp only[wts,List.foldl_append,b5a,List.foldl_nil];rfl
theorem SK(ns:List eu):(wts ns).length=ns.length:=by
 have key:∀(n:Nat) (ns:List eu),ns.length=n→(wts ns).length=ns.length:=by
  intro n;induction n with
  |zero=>intro ns h;rw[List.length_eq_zero_iff.1 h];rfl
  |succ n ih=>
   intro ns h;have hG:ns≠[]:=by intro e;rw[e] at h;cases h
   have e:=List.dropLast_concat_getLast hG;rw[←e,SJ,aua,aua,ih ns.dropLast (by simp;omega)];rfl
 exact key _ ns rfl
theorem acP{ns et:List eu}(h:ns <+: et):wts ns <+: wts et:=by
 obtain⟨r,rfl⟩:=h;induction r generalizing ns with
 |nil=>simp
 |cons x r ih=>have:=ih (ns:=ns++[x]);rw[SJ,a3a] at this;exact(aLa _ _).trans this
theorem rT{ns et:List eu}(h:ns <+: et){j:Int}(h0:0≤j)(h1:j<ns.length):wt et j=wt ns j:=by
 obtain⟨r,e⟩:=acP h;have:j.toNat<(wts ns).length:=by rw[SK];omega
 simp only[wt,←e,a8a,aVa this]
theorem og{ns:List eu}{x:eu}:wt (ns++[x]) (ns.length:Int)=1+jM ns x.2.2.2.2:=by simp only[wt,SJ,aAa,a8a];rw[aTa (by rw[SK];omega),SK];simp
theorem zW(ns:List eu):jM ns []=0:=rfl
theorem o9(ns:List eu)(a:Int):jM ns [a]=wt ns a:=by simp[jM]
theorem yG(ns:List eu)(a b:Int):jM ns [a,b]=wt ns a+wt ns b:=by simp[jM]
theorem Qw(ns:List eu)(a b c:Int):jM ns [a,b,c]=wt ns a+(wt ns b+wt ns c):=by simp[jM]
theorem qB(ns:List eu)(l m:XI):jM ns (l++m)=jM ns l+jM ns m:=by simp[jM]
theorem pS{ns et:List eu}(h:ns <+: et){l:XI}(hl:∀ j∈l,0≤j∧j<(ns.length:Int)):jM et l=jM ns l:=by simp only[jM];rw[b3a fun j hj=>rT h (hl j hj).1 (hl j hj).2]
inductive Res|ok (v:Int) (a d:Nat) (ns:List eu)|er (c p:Int)
structure yn(ts:List zK)(C:Int→Bool)(s a d:Nat)(ns:List eu)(v:Int)(a' d':Nat)(et:List eu)(w0:Nat:=0):Prop where
 lo:a+s≤a'
 hi:a'≤ts.length
 dp:d' = d
 ln:et.length+2 * a≤ns.length+2 * a'
 pre:ns <+: et
 all:jz et
 v0:0≤v
 vl:v<et.length
 vc:C (kd et v)=true
 w:wt et v+ns.length≤et.length+w0
def Inv(ts:List zK)(C:Int→Bool)(s a d:Nat)(ns:List eu)(r:Res)(w0:Nat:=0):Prop:=match r with
 |.ok v a' d' et=>yn ts C s a d ns v a' d' et w0
 |.er c _=>c≠0
structure yo(ts:List zK)(a d:Nat)(ns:List eu):Prop where
 hi:a≤ts.length
 dp:d≤10
 ln:ns.length≤2 * a
 all:jz ns
theorem kS{ts:List zK}{C:Int→Bool}{s a d a':Nat}{ns qt:List eu}{x:eu}(lo:a+s≤a')(hi:a'≤ts.length)(ln:qt.length+1+2 * a≤ns.length+2 * a')(pre:ns <+: qt)(all:jz qt)
  (hx:oi qt qt.length x) (hC:C x.1=true) (hw:jM qt x.2.2.2.2+ns.length≤qt.length):yn ts C s a d ns (qt.length:Int) a' d (qt++[x]):=
 ⟨lo,hi,rfl,by simp;omega,pre.trans ⟨[x],rfl⟩,all.add hx,by omega,by simp;omega,by rw[rk];exact hC,by rw[og];simp;omega⟩
theorem te{ns:List eu}{i:Nat}{k a n:Int}{s:ab}(hk:cf k []=true)(h4:k≠4):oi ns i (k,a,n,s,[]):=⟨by simp,hk,fun h=>absurd h h4,by simp⟩
abbrev IT:=Option ((Int×Int×Int×List eu×Unit)⊕(Int×Int×Unit))
abbrev ST:=Option (Int×Int×List eu×Int×Int×Int×Unit)
def uJ(r:Res)(o:IT):Prop:=match r with
 |.ok v a d ns=>o=some (.inl (v,(a:Int),(d:Int),ns,()))
 |.er c p=>o=some (.inr (c,p,()))
def NZ(r:Res)(o:ST):Prop:=match r with
 |.ok v a d ns=>o=some (v,(a:Int),ns,(d:Int),0,0,())
 |.er c p=>∃(v:Int) (a:Nat) (ns:List eu) (d:Int),o=some (v,(a:Int),ns,d,c,p,())
def SQ(ts:List zK)(C:Int→Bool)(s a d:Nat)(ns:List eu)(i:Nat→IT)(sp:Nat→ST):Prop:=
 ∃ r,Inv ts C s a d ns r∧Ev fun k=>uJ r (i k)∧NZ r (sp k)
def fnd(s:ab):XS→Int→Int
 |[],_=>0
 |x::r,i=>if x=s then i else fnd s r (i+1)
def Ol(s:ab):Int:=fnd s Pm.tail 1
def IN(s:ab):Int:=fnd s gl4.tail 1
def lvF(o:Int):Int:=if o=7 then 1 else if o=8 then 2 else if o=6 then 3 else if o=9∨o=10 then 4 else if o=1∨o=2∨o=11∨o=12 then 5 else 6
theorem RS(s:ab):∀(l:XS) (i:Int),1≤i→(fnd s l i=0∧s∉l)∨(i≤fnd s l i∧s∈l)
 |[],i,h=>.inl ⟨rfl,by simp⟩
 |x::r,i,h=>by
  simp only[fnd];by_cases hx:x=s
  ·exact .inr (by simp[hx])
  ·rcases RS s r (i+1) (by omega) with ⟨e,f⟩|⟨e,f⟩
   ·exact .inl (by simp[hx,e,f,bBa hx])
   ·exact .inr (by simp[hx,f];omega)
def fX(n:Int):Unit⊕(Int×Unit):=if n=0 then .inl () else .inr (n,())
theorem QJ(s:ab):∀ m i:Nat,m+i=14→1≤i→cq fun q k=>mE q k s Pm (i:Int)=some (fX (fnd s (Pm.drop i) i))
 |0,i,h,h1=>by
  have e:Pm.drop i=[]:=by rw[show i=14 by omega];rfl
  have h2:¬ (i:Int)<14:=by omega
  rw[e];exact cq.succ (cq.of fun q k=>by simp[mE,h2,fX,fnd])
 |m+1,i,h,h1=>by
  have bg:i<Pm.length:=by show i<14;omega
  have h2:(i:Int)<14:=by omega
  have h3:(i:Int) > 0:=by omega
  have e:Pm.drop i=Pm[i]::Pm.drop (i+1):=aQa bg;rw[e];refine cq.succ ((QJ s m (i+1) (by omega) (by omega)).mono fun q k e=>?_)
  simp only[go_sem,mE,aa,h2,h3,cB bg,ai (show i<_ by omega),e,fnd]
  by_cases hx:Pm[i]=s
  ·have:¬ (i:Int)=0:=by omega
   simp[hx,fX,show i≠0 by omega]
  ·simp only[go_sem,Q6.2 hx,aza hx];rfl
theorem aeq(s:ab):Ev fun k=>Fm k s=some (Ol s,()):=by
 refine(cq.succ (p2:=fun q k=>mE q k s Pm 0=some (fX (Ol s))) ((QJ s 13 1 rfl (by omega)).mono fun q k e=>?_)).jY.mono fun k e=>?_
 ·have:mE q k s Pm (bh (0+1))=some (fX (Ol s)):=e
  simp only[go_sem,mE,aa,show(0:Int)<14 by omega,show ¬ (0:Int) > 0 by omega,this];rfl
 ·simp only[go_sem,Fm,e,fX]
  by_cases h:Ol s=0<;>simp[h]
theorem Nj(s:ab):∀ m i:Nat,m+i=7→1≤i→cq fun q k=>lb q k s gl4 (i:Int)=some (fX (fnd s (gl4.drop i) i))
 |0,i,h,h1=>by
  have e:gl4.drop i=[]:=by rw[show i=7 by omega];rfl
  have h2:¬ (i:Int)<7:=by omega
  rw[e];exact cq.succ (cq.of fun q k=>by simp[lb,h2,fX,fnd])
 |m+1,i,h,h1=>by
  have bg:i<gl4.length:=by show i<7;omega
  have h2:(i:Int)<7:=by omega
  have h3:(i:Int) > 0:=by omega
  have e:gl4.drop i=gl4[i]::gl4.drop (i+1):=aQa bg;rw[e];refine cq.succ ((Nj s m (i+1) (by omega) (by omega)).mono fun q k e=>?_)
  simp only[go_sem,lb,aa,h2,h3,cB bg,ai (show i<_ by omega),e,fnd]
  by_cases hx:gl4[i]=s
  ·simp[hx,fX,show i≠0 by omega]
  ·simp only[go_sem,Q6.2 hx,aza hx];rfl
theorem ZY(s:ab):Ev fun k=>Cr k s=some (IN s,()):=by
 refine(cq.succ (p2:=fun q k=>lb q k s gl4 0=some (fX (IN s))) ((Nj s 6 1 rfl (by omega)).mono fun q k e=>?_)).jY.mono fun k e=>?_
 ·have:lb q k s gl4 (bh (0+1))=some (fX (IN s)):=e
  simp only[go_sem,lb,aa,show(0:Int)<7 by omega,show ¬ (0:Int) > 0 by omega,this];rfl
 ·simp only[go_sem,Cr,e,fX]
  by_cases h:IN s=0<;>simp[h]
theorem aeo(o:Int):xI o=some (lvF o,()):=by
 by_cases h7:o=7
 ·subst h7;rfl
 by_cases h8:o=8
 ·subst h8;rfl
 by_cases h6:o=6
 ·subst h6;rfl
 by_cases h9:o=9
 ·subst h9;rfl
 by_cases h10:o=10
 ·subst h10;rfl
 by_cases h1:o=1
 ·subst h1;rfl
 by_cases h2:o=2
 ·subst h2;rfl
 by_cases h11:o=11
 ·subst h11;rfl
 by_cases K5:o=12
 ·subst K5;rfl
 simp[xI,aa,lvF,Bool.cond_eq_ite,h7,h8,h6,h9,h10,h1,h2,h11,K5]
theorem UA(s:ab):CG s=some (IN s,()):=by
 simp only[CG,IN,gl4,List.tail,fnd,cea (b:=s),a9a,Bool.cond_eq_ite]
 repeat' split
 all_goals first|rfl|simp_all
theorem acy(s:ab)(n:Nat)(h1:1≤n)(h6:n≤6):vI s (n:Int)=some (if Ol s≠0∧lvF (Ol s)=n then Ol s else 0,()):=by
 by_cases hm:s∈Pm.tail
 ·have:∀ s∈Pm.tail,∀ n:Nat,n<7→1≤n→vI s (n:Int)=some (if Ol s≠0∧lvF (Ol s)=n then Ol s else 0,()):=by decide +kernel
  exact this s hm n (by omega) h1
 ·have h0:Ol s=0:=by
   rcases RS s Pm.tail 1 (by omega) with ⟨e,_⟩|⟨_,f⟩
   ·exact e
   ·exact absurd f hm
  simp only[Pm,List.tail,ama,bUa,bDa,cka] at hm;have g:∀ w:ab,¬ s=w→(s==w)=false:=fun w h=>Q6.2 h;simp only[go_sem,vI,aa,g _ hm.1,g _ hm.2.1,g _ hm.2.2.1,g _ hm.2.2.2.1,g _ hm.2.2.2.2.1,g _ hm.2.2.2.2.2.1,g _ hm.2.2.2.2.2.2.1,g _ hm.2.2.2.2.2.2.2.1,g _ hm.2.2.2.2.2.2.2.2.1,g _ hm.2.2.2.2.2.2.2.2.2.1,g _ hm.2.2.2.2.2.2.2.2.2.2.1,g _ hm.2.2.2.2.2.2.2.2.2.2.2.1,g _ hm.2.2.2.2.2.2.2.2.2.2.2.2];simp[h0]
theorem agp:∀ s∈Pm.tail,xW.contains s=true:=by decide +kernel
theorem adV:∀ s∈gl4.tail,xW.contains s=true:=by decide +kernel
section
variable {ts:List zK} {a:Nat}
theorem WY(hs:pp ts)(h:a<ts.length):Ol (tk ts a).2.2.1=Ol (sg ts a):=by
 simp only[sg];cases hk:uk ts a 4 with
 |true=>rfl
 |false=>
  show _=Ol [];rcases RS (tk ts a).2.2.1 Pm.tail 1 (by omega) with ⟨e,_⟩|⟨_,f⟩
  ·exact e
  ·have h2:=(Ri hs h).k
   have h3:=agp _ f;simp only[uk,iA h] at hk;rcases h2 with ⟨e,_,g,_⟩|⟨e,_,g⟩|⟨e,_,g⟩|⟨e,_⟩
   ·rw[g] at h3;cases h3
   ·rw[g] at h3;cases h3
   ·rw[g] at h3;cases h3
   ·rw[e] at hk;simp at hk
theorem Vb(hs:pp ts)(h:a<ts.length):IN (tk ts a).2.2.1=IN (sg ts a):=by
 simp only[sg];cases hk:uk ts a 4 with
 |true=>rfl
 |false=>
  show _=IN [];rcases RS (tk ts a).2.2.1 gl4.tail 1 (by omega) with ⟨e,_⟩|⟨_,f⟩
  ·exact e
  ·have h2:=(Ri hs h).k
   have h3:=adV _ f;simp only[uk,iA h] at hk;rcases h2 with ⟨e,_,g,_⟩|⟨e,_,g⟩|⟨e,_,g⟩|⟨e,_⟩
   ·rw[g] at h3;cases h3
   ·rw[g] at h3;cases h3
   ·rw[g] at h3;cases h3
   ·rw[e] at hk;simp at hk
theorem VV(h:¬ a<ts.length):sg ts a=[]:=by simp[sg,uk,ww h]
end
end Go.Fx.R5
namespace Go.Fx.R5
open Go Go.Fx
section
theorem CB(k:Nat):am (k+1)=gV (am k) (iz k) (gW k) k:=rfl
theorem FC(k:Nat):iz (k+1)=iM (am k) (iz k) (gW k) k:=rfl
theorem qn(k:Nat):gW (k+1)=cE (am k) (iz k) (gW k) k:=rfl
theorem I7(k:Nat):aj (k+1)=ix (aj k) (fq k) (fU k) k:=rfl
theorem Jb(k:Nat):fq (k+1)=hZ (aj k) (fq k) (fU k) k:=rfl
theorem rj(k:Nat):fU (k+1)=bS (aj k) (fq k) (fU k) k:=rfl
variable {ts:List zK} {en:Int} {c p:Int}
theorem fp(hc:c≠0)(k a:Nat)(ns:List eu)(d:Int):gW (k+1) ts (a:Int) en ns d c p=some (0,(a:Int),ns,d,c,p,()):=by rw[qn];simp only[go_sem,cE,dO,Ns hc,Ax hc,Nt hc,cg hc]
theorem fu(hc:c≠0)(k a:Nat)(ns:List eu)(d:Int):iz (k+2) ts (a:Int) en ns d c p=some (0,(a:Int),ns,d,c,p,()):=by rw[FC];simp only[go_sem,iM,dO,Ax hc,fp hc]
theorem fl(hc:c≠0):∀(j k n a:Nat) (ns:List eu) (d:Int),n+j=7→am (k+3+j) ts (a:Int) en ns d c p (n:Int)=some (0,(a:Int),ns,d,c,p,())
 |0,k,n,a,ns,d,h=>by
  have:(n:Int) > 6:=by omega
  show am (k+2+1) ts (a:Int) en ns d c p (n:Int)=_;rw[CB];simp only[go_sem,gV,this,fu hc]
 |j+1,k,n,a,ns,d,h=>by
  have:¬ (n:Int) > 6:=by omega
  have hz:(c==0)=false:=Q6.2 hc;show am (k+3+j+1) ts (a:Int) en ns d c p (n:Int)=_;rw[CB];simp only[go_sem,gV,this,ai (show n<_ by omega),fl hc j k (n+1) a ns d (by omega)]
  rw[show k+3+j=k+2+j+1 by omega]
  simp only[go_sem,fy,aa,hz]
theorem fl1(hc:c≠0):Ev fun k=>∀(a:Nat) (ns:List eu) (d:Int),am k ts (a:Int) en ns d c p 1=some (0,(a:Int),ns,d,c,p,()):=
 ⟨9,fun k hk a ns d=>by rw[show k=k - 9+3+6 by omega];exact fl hc 6 (k - 9) 1 a ns d rfl⟩
variable {a d:Nat} {ns:List eu}
abbrev KV(ts:List zK)(en:Int)(a d:Nat)(ns:List eu)(n:Nat):Prop:=SQ ts Bx 1 a d ns (fun k=>aj k ts en (a:Int) (d:Int) ns (n:Int)) (fun k=>am k ts (a:Int) en ns (d:Int) 0 0 (n:Int))
abbrev UnB(ts:List zK)(en:Int)(a d:Nat)(ns:List eu):Prop:=SQ ts Bx 1 a d ns (fun k=>fq k ts en (a:Int) (d:Int) ns) (fun k=>iz k ts (a:Int) en ns (d:Int) 0 0)
abbrev PrB(ts:List zK)(en:Int)(a d:Nat)(ns:List eu):Prop:=SQ ts Bx 1 a d ns (fun k=>fU k ts en (a:Int) (d:Int) ns) (fun k=>gW k ts (a:Int) en ns (d:Int) 0 0)
theorem kC{d:Nat}(h:d≤4000000000000000000):bh (((d+1:Nat):Int) - 1)=(d:Int):=by rw[bw (by omega) (by omega)];omega
theorem QN(hs:pp ts)(hp:yo ts a d ns)(IH:∀ a' d' et,a<a'→yo ts a' d' et→KV ts en a' d' et 1):PrB ts en a d ns:=by
 have h7:=hs.len;obtain⟨p1,p2,p3,p4⟩:=hp;have b0:a≤4000000000000000000:=by omega
 have b1:a+1≤4000000000000000000:=by omega
 have b2:a+1+1≤4000000000000000000:=by omega
 have bn:ns.length≤4000000:=by omega
 cases vo:uk ts a 2 with
 |true=>
  have bg:=jQ vo;refine⟨.ok _ (a+1) d (ns++[(24,pl ts en a,(tk ts a).2.2.2,[],[])]),kS (by omega) (by omega) (by omega) (aXa _) p4 (te rfl (by decide)) rfl (by simp[jM]),Ev.succ (Ev.of fun k=>⟨?_,?_⟩)⟩
  ·simp only[go_sem,uJ,rj,bS,bq,gG,reduceIte,cW b0,ii bn,vo]
  ·simp only[go_sem,NZ,qn,cE,dO,gb,reduceIte,E0 b0,fv bn,vo]
 |false=>
 cases xH:a6 ts a [42] with
 |true=>
  have bg:=bz xH;have JM:a6 ts a [40]=false:=aZ xH rfl;cases hn:uk ts (a+1) 1 with
  |true=>
   have bg:=jQ hn;refine⟨.ok _ (a+1+1) d (ns++[(27,pl ts en a,0,(tk ts (a+1)).2.2.1,[])]),kS (by omega) (by omega) (by omega) (aXa _) p4 (te rfl (by decide)) rfl (by simp[jM]),Ev.succ (Ev.of fun k=>⟨?_,?_⟩)⟩
   ·simp only[go_sem,uJ,rj,bS,bq,gG,reduceIte,cW b1,aG b0,ii bn,vo,xH,hn]
   ·simp only[go_sem,NZ,qn,cE,dO,gb,reduceIte,af hs (w:=[40]) rfl b0,af hs (w:=[42]) rfl b0,dj b1,fv bn,vo,xH,JM,hn]
  |false=>
   refine⟨.er 6 (pl ts en (a+1)),(show(6:Int)≠0 by decide),Ev.succ (Ev.of fun k=>⟨?_,0,a+1,ns,d,?_⟩)⟩
   ·simp only[go_sem,uJ,rj,bS,bq,gG,reduceIte,cW b1,aG b0,ii bn,vo,xH,hn]
   ·simp only[go_sem,qn,cE,dO,gb,reduceIte,af hs (w:=[40]) rfl b0,af hs (w:=[42]) rfl b0,dj b1,cg (show(6:Int)≠0 by decide),vo,xH,JM,hn]
 |false=>
 cases JM:a6 ts a [40] with
 |true=>
  have bg:=bz JM;by_cases hd:d<10
  ·obtain⟨r,hi,hr⟩:=IH (a+1) (d+1) ns (by omega) ⟨by omega,by omega,by omega,p4⟩
   cases r with
   |er c p=>
    refine⟨.er c p,hi,Ev.succ (hr.mono fun k e=>?_)⟩;obtain⟨e1,v,a',et,d',e2⟩:=e;refine⟨?_,0+v,a',et,bh (d' - 1),?_⟩
    ·simp only[go_sem,uJ,rj,bS,bq,gG,reduceIte,aG b0,gN p2,vo,xH,JM,hd,show aj k ts en ((a+1:Nat):Int) ((d+1:Nat):Int) ns 1=_ from e1]
    ·simp only[go_sem,qn,cE,dO,gb,reduceIte,af hs (w:=[40]) rfl b0,lY p2,vo,JM,hd,show am k ts ((a+1:Nat):Int) en ns ((d+1:Nat):Int) 0 0 1=_ from e2,fE (show c≠0 from hi),Int.zero_add]
   |ok v a' d' et=>
    obtain⟨q1,q2,rfl,q3,q4,q5,q6,q7,q8,q9⟩:=hi;have b4:a'≤4000000000000000000:=by omega
    cases mD:a6 ts a' [41] with
    |true=>
     have HN:=bz mD;refine⟨.ok v (a' + 1) d et,⟨by omega,by omega,rfl,by omega,q4,q5,q6,q7,q8,q9⟩,Ev.succ (hr.mono fun k e=>⟨?_,?_⟩)⟩
     ·simp only[go_sem,uJ,rj,bS,bq,gG,reduceIte,aG b0,bE b4,gN p2,vo,xH,JM,hd,mD,show aj k ts en ((a+1:Nat):Int) ((d+1:Nat):Int) ns 1=_ from e.1,kC (show d≤_ by omega)]
     ·simp only[go_sem,NZ,qn,cE,dO,gb,reduceIte,af hs (w:=[40]) rfl b0,lY p2,aI hs (w:=[41]) rfl b4,vo,JM,hd,mD,show am k ts ((a+1:Nat):Int) en ns ((d+1:Nat):Int) 0 0 1=_ from e.2,kC (show d≤_ by omega)]
    |false=>
     refine⟨.er 6 (pl ts en a'),(show(6:Int)≠0 by decide),Ev.succ (hr.mono fun k e=>⟨?_,v,a',et,d,?_⟩)⟩
     ·simp only[go_sem,uJ,rj,bS,bq,gG,reduceIte,aG b0,bE b4,gN p2,vo,xH,JM,hd,mD,show aj k ts en ((a+1:Nat):Int) ((d+1:Nat):Int) ns 1=_ from e.1]
     ·simp only[go_sem,qn,cE,dO,gb,reduceIte,af hs (w:=[40]) rfl b0,lY p2,aI hs (w:=[41]) rfl b4,vo,JM,hd,mD,show am k ts ((a+1:Nat):Int) en ns ((d+1:Nat):Int) 0 0 1=_ from e.2,kC (show d≤_ by omega)]
  ·refine⟨.er 7 (pl ts en (a+1)),(show(7:Int)≠0 by decide),Ev.succ (Ev.of fun k=>⟨?_,0,a+1,ns,((d+1:Nat):Int),?_⟩)⟩
   ·simp only[go_sem,uJ,rj,bS,bq,gG,reduceIte,aG b0,gN p2,vo,xH,JM,hd]
   ·simp only[go_sem,qn,cE,dO,gb,reduceIte,af hs (w:=[40]) rfl b0,lY p2,vo,JM,hd]
 |false=>
 cases hn:uk ts a 1 with
 |false=>
  refine⟨.er 6 (pl ts en a),(show(6:Int)≠0 by decide),Ev.succ (Ev.of fun k=>⟨?_,0,a,ns,d,?_⟩)⟩
  ·simp only[go_sem,uJ,rj,bS,bq,gG,reduceIte,cW b0,aG b0,vo,xH,JM,hn]
  ·simp only[go_sem,qn,cE,dO,gb,reduceIte,af hs (w:=[40]) rfl b0,af hs (w:=[42]) rfl b0,dj b0,Ax (show(6:Int)≠0 by decide),cg (show(6:Int)≠0 by decide),vo,xH,JM,hn]
 |true=>
 have bg:=jQ hn;cases rU:a6 ts (a+1) [91] with
 |false=>
  refine⟨.ok _ (a+1) d (ns++[(25,pl ts en a,0,(tk ts a).2.2.1,[])]),kS (by omega) (by omega) (by omega) (aXa _) p4 (te rfl (by decide)) rfl (by simp[jM]),Ev.succ (Ev.of fun k=>⟨?_,?_⟩)⟩
  ·simp only[go_sem,uJ,rj,bS,bq,gG,reduceIte,cW b0,aG b0,aG b1,ii bn,vo,xH,JM,hn,rU]
  ·simp only[go_sem,NZ,qn,cE,dO,gb,reduceIte,af hs (w:=[40]) rfl b0,af hs (w:=[42]) rfl b0,af hs (w:=[91]) rfl b1,dj b0,fv bn,vo,xH,JM,hn,rU]
 |true=>
 have ZJ:=bz rU;by_cases hd:d<10
 ·obtain⟨r,hi,hr⟩:=IH (a+1+1) (d+1) ns (by omega) ⟨by omega,by omega,by omega,p4⟩
  cases r with
  |er c p=>
   refine⟨.er c p,hi,Ev.succ (hr.mono fun k e=>?_)⟩;obtain⟨e1,v,a',et,d',e2⟩:=e;refine⟨?_,0,a',et,bh (d' - 1),?_⟩
   ·simp only[go_sem,uJ,rj,bS,bq,gG,reduceIte,cW b0,aG b0,aG b1,gN p2,vo,xH,JM,hn,rU,hd,show aj k ts en ((a+1+1:Nat):Int) ((d+1:Nat):Int) ns 1=_ from e1]
   ·simp only[go_sem,qn,cE,dO,gb,reduceIte,af hs (w:=[40]) rfl b0,af hs (w:=[42]) rfl b0,af hs (w:=[91]) rfl b1,dj b0,lY p2,vo,xH,JM,hn,rU,hd,show am k ts ((a+1+1:Nat):Int) en ns ((d+1:Nat):Int) 0 0 1=_ from e2,fE (show c≠0 from hi),cg (show c≠0 from hi)]
  |ok v a' d' et=>
   obtain⟨q1,q2,rfl,q3,q4,q5,q6,q7,q8,q9⟩:=hi;have b4:a'≤4000000000000000000:=by omega
   have M0:et.length≤4000000:=by omega
   cases mD:a6 ts a' [93] with
   |true=>
    have HN:=bz mD;refine⟨.ok _ (a' + 1) d (et++[(26,pl ts en a,0,(tk ts a).2.2.1,[v])]),kS (by omega) (by omega) (by omega) q4 q5 ⟨by simp;omega,by simpa[cf] using q8,by simp⟩ rfl (by rw[o9];exact q9),Ev.succ (hr.mono fun k e=>⟨?_,?_⟩)⟩
    ·simp only[go_sem,uJ,rj,bS,bq,gG,reduceIte,cW b0,aG b0,aG b1,bE b4,ii M0,gN p2,vo,xH,JM,hn,rU,hd,mD,show aj k ts en ((a+1+1:Nat):Int) ((d+1:Nat):Int) ns 1=_ from e.1,kC (show d≤_ by omega)]
    ·simp only[go_sem,NZ,qn,cE,dO,gb,reduceIte,af hs (w:=[40]) rfl b0,af hs (w:=[42]) rfl b0,af hs (w:=[91]) rfl b1,dj b0,lY p2,aI hs (w:=[93]) rfl b4,fv M0,vo,xH,JM,hn,rU,hd,mD,show am k ts ((a+1+1:Nat):Int) en ns ((d+1:Nat):Int) 0 0 1=_ from e.2,kC (show d≤_ by omega)]
   |false=>
    refine⟨.er 6 (pl ts en a'),(show(6:Int)≠0 by decide),Ev.succ (hr.mono fun k e=>⟨?_,0,a',et,d,?_⟩)⟩
    ·simp only[go_sem,uJ,rj,bS,bq,gG,reduceIte,cW b0,aG b0,aG b1,bE b4,gN p2,vo,xH,JM,hn,rU,hd,mD,show aj k ts en ((a+1+1:Nat):Int) ((d+1:Nat):Int) ns 1=_ from e.1]
    ·simp only[go_sem,qn,cE,dO,gb,reduceIte,af hs (w:=[40]) rfl b0,af hs (w:=[42]) rfl b0,af hs (w:=[91]) rfl b1,dj b0,lY p2,aI hs (w:=[93]) rfl b4,cg (show(6:Int)≠0 by decide),vo,xH,JM,hn,rU,hd,mD,show am k ts ((a+1+1:Nat):Int) en ns ((d+1:Nat):Int) 0 0 1=_ from e.2,kC (show d≤_ by omega)]
 ·refine⟨.er 7 (pl ts en (a+1+1)),(show(7:Int)≠0 by decide),Ev.succ (Ev.of fun k=>⟨?_,0,a+1+1,ns,((d+1:Nat):Int),?_⟩)⟩
  ·simp only[go_sem,uJ,rj,bS,bq,gG,reduceIte,cW b0,aG b0,aG b1,gN p2,vo,xH,JM,hn,rU,hd]
  ·simp only[go_sem,qn,cE,dO,gb,reduceIte,af hs (w:=[40]) rfl b0,af hs (w:=[42]) rfl b0,af hs (w:=[91]) rfl b1,dj b0,lY p2,vo,xH,JM,hn,rU,hd]
end
theorem yn.from{ts:List zK}{C:Int→Bool}{s s0 a d a1:Nat}{ns qt:List eu}{v:Int}{a' d':Nat}{et:List eu}{w0 w1:Nat}(h:yn ts C s a1 d qt v a' d' et w1)(lo:a+s0≤a1+s)(ln:qt.length+2 * a≤ns.length+2 * a1)
  (pre:ns <+: qt) (hw:w1+ns.length≤qt.length+w0):yn ts C s0 a d ns v a' d' et w0:=
 let⟨h1,h2,h3,h4,h5,h6,h7,h8,h9,h10⟩:=h;⟨by omega,h2,h3,by omega,pre.trans h5,h6,h7,h8,h9,by omega⟩
theorem Inv.from{ts:List zK}{C:Int→Bool}{s s0 a d a1:Nat}{ns qt:List eu}{r:Res}{w0 w1:Nat}(h:Inv ts C s a1 d qt r w1)(lo:a+s0≤a1+s)(ln:qt.length+2 * a≤ns.length+2 * a1)(pre:ns <+: qt)(hw:w1+ns.length≤qt.length+w0):Inv ts C s0 a d ns r w0:=by
 cases r with
 |er c p=>exact h
 |ok v a' d' et=>exact yn.from h lo ln pre hw
def I9(r:Res)(o:Option ((Int×Int×List eu×Int×Unit)⊕(Int×Int×Unit))):Prop:=match r with
 |.ok v a d ns=>o=some (.inl ((a:Int),(d:Int),ns,v,()))
 |.er c p=>o=some (.inr (c,p,()))
def R2(r:Res)(o:Option (Int×List eu×Int×Int×Int×Int×Unit)):Prop:=match r with
 |.ok v a d ns=>o=some ((a:Int),ns,(d:Int),0,0,v,())
 |.er c p=>∃(v:Int) (a:Nat) (ns:List eu) (d:Int),o=some ((a:Int),ns,d,c,p,v,())
section
variable {ts:List zK} {en:Int} {a d:Nat} {ns:List eu}
theorem Xx(hs:pp ts)(hp:yo ts a d ns)(IH:∀ a' d' et,a<a'→yo ts a' d' et→UnB ts en a' d' et)(PR:PrB ts en a d ns):UnB ts en a d ns:=by
 have h7:=hs.len;obtain⟨p1,p2,p3,p4⟩:=hp;have b0:a≤4000000000000000000:=by omega
 have bn:ns.length≤4000000:=by omega
 cases hm:a6 ts a [45] with
 |false=>
  obtain⟨r,hi,hr⟩:=PR;refine⟨r,hi,Ev.succ (hr.mono fun k e=>?_)⟩;cases r with
  |er c p=>
   obtain⟨e1,v,a',et,d',e2⟩:=e;refine⟨?_,v,a',et,d',?_⟩
   ·simp only[go_sem,uJ,Jb,hZ,bq,reduceIte,aG b0,hm,show fU k ts en (a:Int) (d:Int) ns=_ from e1]
   ·simp only[go_sem,FC,iM,dO,reduceIte,af hs (w:=[45]) rfl b0,hm,show gW k ts (a:Int) en ns (d:Int) 0 0=_ from e2]
  |ok v a' d' et=>
   refine⟨?_,?_⟩
   ·simp only[go_sem,uJ,Jb,hZ,bq,reduceIte,aG b0,hm,show fU k ts en (a:Int) (d:Int) ns=_ from e.1]
   ·simp only[go_sem,NZ,FC,iM,dO,reduceIte,af hs (w:=[45]) rfl b0,hm,show gW k ts (a:Int) en ns (d:Int) 0 0=_ from e.2]
 |true=>
 have bg:=bz hm;by_cases hd:d<10
 ·obtain⟨r,hi,hr⟩:=IH (a+1) (d+1) (ns++[(24,pl ts en a,0,[],[])]) (by omega) ⟨by omega,by omega,by simp;omega,p4.add (te rfl (by decide))⟩
  cases r with
  |er c p=>
   refine⟨.er c p,hi,Ev.succ (hr.mono fun k e=>?_)⟩;obtain⟨e1,v,a',et,d',e2⟩:=e;refine⟨?_,0,a',et,bh (d' - 1),?_⟩
   ·simp only[go_sem,uJ,Jb,hZ,bq,reduceIte,aG b0,gN p2,ii bn,hm,hd,show fq k ts en ((a+1:Nat):Int) ((d+1:Nat):Int) (ns++[(24,pl ts en a,0,[],[])])=_ from e1]
   ·simp only[go_sem,FC,iM,dO,reduceIte,af hs (w:=[45]) rfl b0,lY p2,fv bn,hm,hd,show iz k ts ((a+1:Nat):Int) en (ns++[(24,pl ts en a,0,[],[])]) ((d+1:Nat):Int) 0 0=_ from e2,cg (show c≠0 from hi)]
  |ok v a' d' et=>
   obtain⟨q1,q2,rfl,q3,q4,q5,q6,q7,q8,q9⟩:=hi;simp only[aua,aDa,aCa] at q3 q9;have wz:wt et (ns.length:Int)=1:=by rw[rT q4 (by omega) (by simp;omega),og];rfl
   have M0:et.length≤4000000:=by omega
   have qz:kd et (ns.length:Int)=24:=by rw[qA q4 (by omega) (by simp;omega),rk]
   have ql:ns.length<et.length:=by have:=q4.length_le;simp at this;omega
   refine⟨.ok _ a' d (et++[(28,pl ts en a,2,[],[(ns.length:Int),v])]),kS (by omega) (by omega) (by omega) ((aLa _ _).trans q4) q5 ⟨by simp;omega,by simpa[cf,qz,Bx] using q8,by simp⟩ rfl (by rw[yG,wz];omega),Ev.succ (hr.mono fun k e=>⟨?_,?_⟩)⟩
   ·simp only[go_sem,uJ,Jb,hZ,bq,reduceIte,aG b0,gN p2,ii bn,ii M0,hm,hd,show fq k ts en ((a+1:Nat):Int) ((d+1:Nat):Int) (ns++[(24,pl ts en a,0,[],[])])=_ from e.1,kC (show d≤_ by omega)]
   ·simp only[go_sem,NZ,FC,iM,dO,reduceIte,af hs (w:=[45]) rfl b0,lY p2,fv bn,fv M0,hm,hd,show iz k ts ((a+1:Nat):Int) en (ns++[(24,pl ts en a,0,[],[])]) ((d+1:Nat):Int) 0 0=_ from e.2,kC (show d≤_ by omega)]
 ·refine⟨.er 7 (pl ts en (a+1)),(show(7:Int)≠0 by decide),Ev.succ (Ev.of fun k=>⟨?_,0,a+1,ns,((d+1:Nat):Int),?_⟩)⟩
  ·simp only[go_sem,uJ,Jb,hZ,bq,reduceIte,aG b0,gN p2,hm,hd]
  ·simp only[go_sem,FC,iM,dO,reduceIte,af hs (w:=[45]) rfl b0,lY p2,hm,hd]
theorem Vs(hs:pp ts){n:Nat}(n1:1≤n)(n6:n≤6){a0:Nat}(IH:∀ a' et,a0≤a'→yo ts a' d et→KV ts en a' d et (n+1)):∀ m a (ns:List eu) (x:Int),ts.length - a≤m→a0≤a→yo ts a d ns→0≤x→x<ns.length→Bx (kd ns x)=true→
  ∃ r,Inv ts Bx 0 a d ns r (wt ns x)∧cq fun q k=>I9 r (dP (aj q) (fq q) (fU q) q k ts en (n:Int) (a:Int) (d:Int) ns x)∧
   R2 r (fy (am q) (iz q) (gW q) q k ts en (n:Int) (a:Int) ns (d:Int) 0 0 x):=by
 have h7:=hs.len;intro m;induction m with
 |zero=>
  intro a ns x hm h0 hp x0 x1 x2;have bg:¬ a<ts.length:=by omega
  refine⟨.ok x a d ns,⟨by omega,hp.hi,rfl,by omega,aXa _,hp.all,x0,x1,x2,by omega⟩,cq.succ (cq.of fun q k=>⟨?_,?_⟩)⟩
  ·simp only[go_sem,I9,dP,Q5,bg]
  ·simp only[go_sem,R2,fy,aa,H7,VV bg,acy [] n n1 n6,show Ol []=0 from rfl,ne_eq,not_true,false_and,ite_false]
 |succ m ih=>
  intro a ns x hm h0 hp x0 x1 x2;obtain⟨p1,p2,p3,p4⟩:=hp;by_cases mH:Ol (sg ts a)≠0∧lvF (Ol (sg ts a))=n
  ·have bg:a<ts.length:=by
    by_cases h:a<ts.length
    ·exact h
    ·rw[VV h] at mH;exact absurd rfl mH.1
   have hz:(Ol (sg ts a)==0)=false:=Q6.2 mH.1;have hl:(lvF (Ol (sg ts a)) != (n:Int))=false:=by rw[mH.2];simp
   obtain⟨r,hi,hr⟩:=IH (a+1) ns (by omega) ⟨by omega,by omega,by omega,p4⟩
   cases r with
   |er c p=>
    have hc:(c==0)=false:=Q6.2 hi;refine⟨.er c p,hi,cq.succ (cq.succ ((hr.tj.and (aeq (tk ts a).2.2.1).tj).mono fun q k e=>?_))⟩;obtain⟨⟨e1,v,a',et,d',e2⟩,e3⟩:=e;refine⟨?_,0,a',et,d',?_⟩
    ·simp only[go_sem,I9,dP,aa,Q5,bg,bf (iA bg),e3,WY hs bg,hz,aeo,hl,bq,ai (show a<_ by omega),ai (show n<_ by omega),show aj q ts en ((a+1:Nat):Int) (d:Int) ns ((n+1:Nat):Int)=_ from e1]
    ·simp only[go_sem,fy,aa,H7,dO,acy _ n n1 n6,a7a mH,bne,hz,hc,ai (show a<_ by omega),ai (show n<_ by omega),show am q ts ((a+1:Nat):Int) en ns (d:Int) 0 0 ((n+1:Nat):Int)=_ from e2,cg (show c≠0 from hi)]
   |ok y a1 d1 nh=>
    obtain⟨q1,q2,rfl,q3,q4,q5,q6,q7,q8,q9⟩:=hi;have M0:nh.length≤4000000:=by omega
    have xk:kd nh x=kd ns x:=qA q4 x0 x1;have ql:=q4.length_le;have TG:oi nh nh.length (28,pl ts en a,Ol (sg ts a),[],[x,y]):=⟨by simp;omega,by simp[cf,xk,x2,q8],by simp⟩
    obtain⟨r,gi,gr⟩:=ih a1 (nh++[(28,pl ts en a,Ol (sg ts a),[],[x,y])]) (nh.length:Int) (by omega) (by omega) ⟨by omega,by omega,by simp;omega,q5.add TG⟩ (by omega) (by simp;omega) (by rw[rk];rfl)
    refine⟨r,gi.from (by omega) (by simp;omega) (q4.trans (aLa _ _)) (by rw[og,yG,rT q4 x0 x1];simp;omega),cq.succ (((hr.tj.and (aeq (tk ts a).2.2.1).tj).and gr).mono fun q k e=>?_)⟩
    obtain⟨⟨⟨e1,e2⟩,e3⟩,e4,e5⟩:=e;refine⟨?_,?_⟩
    ·simp only[go_sem,dP,aa,Q5,bg,bf (iA bg),e3,WY hs bg,hz,aeo,hl,bq,ai (show a<_ by omega),ai (show n<_ by omega),show aj q ts en ((a+1:Nat):Int) (d1:Int) ns ((n+1:Nat):Int)=_ from e1,ii M0]
     exact e4
    ·simp only[go_sem,fy,aa,H7,dO,acy _ n n1 n6,a7a mH,bne,hz,ai (show a<_ by omega),ai (show n<_ by omega),show am q ts ((a+1:Nat):Int) en ns (d1:Int) 0 0 ((n+1:Nat):Int)=_ from e2,fv M0]
     exact e5
  ·refine⟨.ok x a d ns,⟨by omega,p1,rfl,by omega,aXa _,p4,x0,x1,x2,by omega⟩,cq.succ ((aeq (tk ts a).2.2.1).tj.mono fun q k e=>⟨?_,?_⟩)⟩
   ·by_cases bg:a<ts.length
    ·by_cases hz:Ol (sg ts a)=0
     ·simp only[go_sem,I9,dP,aa,Q5,bg,bf (iA bg),e,WY hs bg,hz]
     ·have hl:(lvF (Ol (sg ts a)) != (n:Int))=true:=by
       rw[aUa];exact fun h=>mH ⟨hz,h⟩
      simp only[go_sem,I9,dP,aa,Q5,bg,bf (iA bg),e,WY hs bg,Q6.2 hz,aeo,hl]
    ·simp only[go_sem,I9,dP,Q5,bg]
   ·simp only[go_sem,R2,fy,aa,H7,acy _ n n1 n6,aza mH]
theorem Vr(hs:pp ts){n:Nat}(n1:1≤n)(n6:n≤6)(hp:yo ts a d ns)(IH:∀ a' et,a≤a'→yo ts a' d et→KV ts en a' d et (n+1)):KV ts en a d ns n:=by
 have h7:=hs.len;have n7:¬ (n:Int) > 6:=by omega
 obtain⟨r,hi,hr⟩:=IH a ns (awa _) hp;obtain⟨p1,p2,p3,p4⟩:=hp;cases r with
 |er c p=>
  have hc:(c==0)=false:=Q6.2 hi;refine⟨.er c p,hi,Ev.succ ((hr.and ⟨1,fun k hk=>hk⟩).mono fun k e=>?_)⟩;obtain⟨⟨e1,v,a',et,d',e2⟩,hk⟩:=e;obtain⟨j,rfl⟩:∃ j,k=j+1:=⟨k - 1,by omega⟩
  refine⟨?_,v,a',et,d',?_⟩
  ·simp only[go_sem,uJ,I7 (j+1),ix,n7,ai (show n<_ by omega),show aj (j+1) ts en (a:Int) (d:Int) ns ((n+1:Nat):Int)=_ from e1]
  ·simp only[go_sem,CB (j+1),gV,n7,ai (show n<_ by omega),show am (j+1) ts (a:Int) en ns (d:Int) 0 0 ((n+1:Nat):Int)=_ from e2,fy,aa,hc]
 |ok x a1 d1 nh=>
  obtain⟨q1,q2,rfl,q3,q4,q5,q6,q7,q8,q9⟩:=hi;obtain⟨r,gi,gr⟩:=Vs hs n1 n6 IH _ a1 nh x (awa _) (by omega) ⟨q2,p2,by omega,q5⟩ q6 q7 q8
  refine⟨r,gi.from (by omega) q3 q4 q9,Ev.succ ((hr.and gr.jY).mono fun k e=>?_)⟩
  obtain⟨⟨e1,e2⟩,e3,e4⟩:=e;cases r with
  |er c p=>
   obtain⟨v,a',et,d',e4⟩:=e4;refine⟨?_,v,a',et,d',?_⟩
   ·simp only[go_sem,uJ,I7,ix,n7,ai (show n<_ by omega),show aj k ts en (a:Int) (d1:Int) ns ((n+1:Nat):Int)=_ from e1]
    simp only[go_sem,show dP _ _ _ k k ts en (n:Int) (a1:Int) (d1:Int) nh x=_ from e3]
   ·simp only[go_sem,CB,gV,n7,ai (show n<_ by omega),show am k ts (a:Int) en ns (d1:Int) 0 0 ((n+1:Nat):Int)=_ from e2,e4]
  |ok v a' d' et=>
   refine⟨?_,?_⟩
   ·simp only[go_sem,uJ,I7,ix,n7,ai (show n<_ by omega),show aj k ts en (a:Int) (d1:Int) ns ((n+1:Nat):Int)=_ from e1]
    simp only[go_sem,show dP _ _ _ k k ts en (n:Int) (a1:Int) (d1:Int) nh x=_ from e3]
   ·simp only[go_sem,NZ,CB,gV,n7,ai (show n<_ by omega),show am k ts (a:Int) en ns (d1:Int) 0 0 ((n+1:Nat):Int)=_ from e2,show fy _ _ _ k k ts en (n:Int) (a1:Int) nh (d1:Int) 0 0 x=_ from e4]
theorem aet(U:UnB ts en a d ns):KV ts en a d ns 7:=by
 obtain⟨r,hi,hr⟩:=U;have n7:((7:Nat):Int) > 6:=by omega
 refine⟨r,hi,Ev.succ (hr.mono fun k e=>?_)⟩;obtain⟨e1,e2⟩:=e;cases r with
 |er c p=>
  obtain⟨v,a',et,d',e2⟩:=e2;refine⟨?_,v,a',et,d',?_⟩
  ·simp only[go_sem,uJ,I7,ix,n7,show fq k ts en (a:Int) (d:Int) ns=_ from e1]
  ·simp only[go_sem,CB,gV,n7,e2]
 |ok v a' d' et=>
  refine⟨?_,?_⟩
  ·simp only[go_sem,uJ,I7,ix,n7,show fq k ts en (a:Int) (d:Int) ns=_ from e1]
  ·simp only[go_sem,NZ,CB,gV,n7,show iz k ts (a:Int) en ns (d:Int) 0 0=_ from e2]
theorem Vt(hs:pp ts){a:Nat}(U:∀ a' d ns,a≤a'→yo ts a' d ns→UnB ts en a' d ns):∀ j n,n+j=7→1≤n→∀ a' d ns,a≤a'→yo ts a' d ns→KV ts en a' d ns n
 |0,n,h,h1,a',d,ns,ha,hp=>by
  obtain rfl:n=7:=by omega
  exact aet (U a' d ns ha hp)
 |j+1,n,h,h1,a',d,ns,ha,hp=>Vr hs h1 (by omega) hp fun a2 qt h2 p2=>Vt hs U j (n+1) (by omega) (by omega) a2 d qt (by omega) p2
theorem agO(hs:pp ts):∀ m a,ts.length - a≤m→∀ a',a≤a'→∀ d ns,yo ts a' d ns→UnB ts en a' d ns∧KV ts en a' d ns 1:=by
 intro m;induction m with
 |zero=>
  intro a hm a' ha d ns hp;have key:∀ a',a≤a'→∀ d ns,yo ts a' d ns→UnB ts en a' d ns:=fun a' ha d ns hp=>
   Xx hs hp (fun a2 d2 qt h2 p2=>by have:=p2.hi;have:=hp.hi;omega) (QN hs hp fun a2 d2 qt h2 p2=>by have:=p2.hi;have:=hp.hi;omega)
  exact⟨key a' ha d ns hp,Vt hs (a:=a) (fun a' d ns ha hp=>key a' ha d ns hp) 6 1 rfl (by omega) a' d ns ha hp⟩
 |succ m ih=>
  intro a hm a' ha d ns hp;have key:∀ a',a≤a'→∀ d ns,yo ts a' d ns→UnB ts en a' d ns:=fun a' ha d ns hp=>
   Xx hs hp (fun a2 d2 qt h2 p2=>(ih (a+1) (by omega) a2 (by omega) d2 qt p2).1) (QN hs hp fun a2 d2 qt h2 p2=>(ih (a+1) (by omega) a2 (by omega) d2 qt p2).2)
  exact⟨key a' ha d ns hp,Vt hs (a:=a) (fun a' d ns ha hp=>key a' ha d ns hp) 6 1 rfl (by omega) a' d ns ha hp⟩
theorem BX(hs:pp ts)(hp:yo ts a d ns):KV ts en a d ns 1:=(agO hs _ a (awa _) a (awa _) d ns hp).2
end
end Go.Fx.R5
namespace Go.Fx.R5
open Go Go.Fx
section
theorem Cz(k:Nat):dU (k+1)=mg (dU k) (gm k) (fh k) k:=rfl
theorem Cy(k:Nat):gm (k+1)=mb (dU k) (gm k) (fh k) k:=rfl
theorem kg(k:Nat):fh (k+1)=dA (dU k) (gm k) (fh k) k:=rfl
theorem HR(k:Nat):dL (k+1)=kN (dL k) (eM k) (dM k) k:=rfl
theorem HQ(k:Nat):eM (k+1)=kM (dL k) (eM k) (dM k) k:=rfl
theorem j9(k:Nat):dM (k+1)=cC (dL k) (eM k) (dM k) k:=rfl
variable {ts:List zK} {en:Int} {c p:Int}
theorem ad2(hc:c≠0):Ev fun k=>∀(a:Nat) (ns:List eu) (d:Int),fh k ts (a:Int) en ns d c p=some (0,(a:Int),ns,d,c,p,()):=by refine Ev.succ ((fl1 (ts:=ts) (en:=en) (p:=p) hc).mono fun k e a ns d=>?_);rw[kg];simp only[go_sem,dA,dO,Ax hc,e,Zs hc,UA,show IN []=0 from rfl,Kf hc]
theorem ad1(hc:c≠0):Ev fun k=>∀(a:Nat) (ns:List eu) (d:Int),gm k ts (a:Int) en ns d c p=some (0,(a:Int),ns,d,c,p,()):=by
 refine Ev.succ (((ad2 (ts:=ts) (en:=en) (p:=p) hc).and ⟨1,fun k hk=>hk⟩).mono fun k e a ns d=>?_);obtain⟨e,hk⟩:=e;obtain⟨j,rfl⟩:∃ j,k=j+1:=⟨k - 1,by omega⟩
 rw[Cy];simp only[go_sem,mb,e,gc,Nr hc]
theorem Zr(hc:c≠0):Ev fun k=>∀(a:Nat) (ns:List eu) (d:Int),dU k ts (a:Int) en ns d c p=some (0,(a:Int),ns,d,c,p,()):=by
 refine Ev.succ (((ad1 (ts:=ts) (en:=en) (p:=p) hc).and ⟨1,fun k hk=>hk⟩).mono fun k e a ns d=>?_);obtain⟨e,hk⟩:=e;obtain⟨j,rfl⟩:∃ j,k=j+1:=⟨k - 1,by omega⟩
 rw[Cz];simp only[go_sem,mg,e,gf,Nr hc]
variable {a d:Nat} {ns:List eu}
abbrev CdB(ts:List zK)(en:Int)(a d:Nat)(ns:List eu):Prop:=SQ ts tW 1 a d ns (fun k=>dL k ts en (a:Int) (d:Int) ns) (fun k=>dU k ts (a:Int) en ns (d:Int) 0 0)
abbrev BoB(ts:List zK)(en:Int)(a d:Nat)(ns:List eu):Prop:=SQ ts tW 1 a d ns (fun k=>eM k ts en (a:Int) (d:Int) ns) (fun k=>gm k ts (a:Int) en ns (d:Int) 0 0)
abbrev LaB(ts:List zK)(en:Int)(a d:Nat)(ns:List eu):Prop:=SQ ts tW 1 a d ns (fun k=>dM k ts en (a:Int) (d:Int) ns) (fun k=>fh k ts (a:Int) en ns (d:Int) 0 0)
theorem XK(hs:pp ts){a0:Nat}(IH:∀ a' et,a0≤a'→yo ts a' d et→LaB ts en a' d et):∀ m a (ns:List eu) (x:Int),ts.length - a≤m→a0≤a→yo ts a d ns→0≤x→x<ns.length→tW (kd ns x)=true→
  ∃ r,Inv ts tW 0 a d ns r (wt ns x)∧cq fun q k=>I9 r (fd (dL q) (eM q) (dM q) q k ts en (a:Int) (d:Int) ns x)∧
   R2 r (gc (dU q) (gm q) (fh q) q k ts en (a:Int) ns (d:Int) 0 0 x):=by
 have h7:=hs.len;intro m;induction m with
 |zero=>
  intro a ns x hm h0 hp x0 x1 x2;have Kr:a6 ts a [97,110,100]=false:=by
   cases h:a6 ts a [97,110,100] with
   |false=>rfl
   |true=>have:=bz h;omega
  have b0:a≤4000000000000000000:=by have:=hp.hi;omega
  refine⟨.ok x a d ns,⟨by omega,hp.hi,rfl,by omega,aXa _,hp.all,x0,x1,x2,by omega⟩,cq.succ (cq.of fun q k=>⟨?_,?_⟩)⟩
  ·simp only[go_sem,I9,fd,tu b0,Kr]
  ·simp only[go_sem,R2,gc,gM hs (w:=[97,110,100]) rfl,Kr]
 |succ m ih=>
  intro a ns x hm h0 hp x0 x1 x2;obtain⟨p1,p2,p3,p4⟩:=hp;have b0:a≤4000000000000000000:=by omega
  cases Kr:a6 ts a [97,110,100] with
  |true=>
   have bg:=bz Kr;obtain⟨r,hi,hr⟩:=IH (a+1) ns (by omega) ⟨by omega,by omega,by omega,p4⟩
   cases r with
   |er c p=>
    refine⟨.er c p,hi,cq.succ (cq.succ (hr.tj.mono fun q k e=>?_))⟩;obtain⟨e1,v,a',et,d',e2⟩:=e;refine⟨?_,0,a',et,d',?_⟩
    ·simp only[go_sem,I9,fd,tu b0,Kr,bq,ai (show a<_ by omega),show dM q ts en ((a+1:Nat):Int) (d:Int) ns=_ from e1]
    ·simp only[go_sem,gc,gM hs (w:=[97,110,100]) rfl,Kr,dO,ai (show a<_ by omega),show fh q ts ((a+1:Nat):Int) en ns (d:Int) 0 0=_ from e2,cg (show c≠0 from hi),Nr (show c≠0 from hi)]
   |ok y a1 d1 nh=>
    obtain⟨q1,q2,rfl,q3,q4,q5,q6,q7,q8,q9⟩:=hi;have M0:nh.length≤4000000:=by omega
    have xk:kd nh x=kd ns x:=qA q4 x0 x1;have ql:=q4.length_le;have TG:oi nh nh.length (31,pl ts en a,0,[],[x,y]):=⟨by simp;omega,by simp[cf,xk,x2,q8],by simp⟩
    obtain⟨r,gi,gr⟩:=ih a1 (nh++[(31,pl ts en a,0,[],[x,y])]) (nh.length:Int) (by omega) (by omega) ⟨by omega,by omega,by simp;omega,q5.add TG⟩ (by omega) (by simp;omega) (by rw[rk];rfl)
    refine⟨r,gi.from (by omega) (by simp;omega) (q4.trans (aLa _ _)) (by rw[og,yG,rT q4 x0 x1];simp;omega),cq.succ ((hr.tj.and gr).mono fun q k e=>?_)⟩
    obtain⟨⟨e1,e2⟩,e4,e5⟩:=e;refine⟨?_,?_⟩
    ·simp only[go_sem,fd,tu b0,Kr,bq,ai (show a<_ by omega),show dM q ts en ((a+1:Nat):Int) (d1:Int) ns=_ from e1,ii M0]
     exact e4
    ·simp only[go_sem,gc,gM hs (w:=[97,110,100]) rfl,Kr,dO,ai (show a<_ by omega),show fh q ts ((a+1:Nat):Int) en ns (d1:Int) 0 0=_ from e2,fv M0]
     exact e5
  |false=>
   refine⟨.ok x a d ns,⟨by omega,p1,rfl,by omega,aXa _,p4,x0,x1,x2,by omega⟩,cq.succ (cq.of fun q k=>⟨?_,?_⟩)⟩
   ·simp only[go_sem,I9,fd,tu b0,Kr]
   ·simp only[go_sem,R2,gc,gM hs (w:=[97,110,100]) rfl,Kr]
theorem PX(hs:pp ts)(hp:yo ts a d ns)(IH:∀ a' et,a≤a'→yo ts a' d et→LaB ts en a' d et):BoB ts en a d ns:=by
 have h7:=hs.len;obtain⟨r,hi,hr⟩:=IH a ns (awa _) hp;obtain⟨p1,p2,p3,p4⟩:=hp;cases r with
 |er c p=>
  refine⟨.er c p,hi,Ev.succ ((hr.and ⟨1,fun k hk=>hk⟩).mono fun k e=>?_)⟩;obtain⟨⟨e1,v,a',et,d',e2⟩,hk⟩:=e;obtain⟨j,rfl⟩:∃ j,k=j+1:=⟨k - 1,by omega⟩
  refine⟨?_,v,a',et,d',?_⟩
  ·simp only[go_sem,uJ,HQ (j+1),kM,show dM (j+1) ts en (a:Int) (d:Int) ns=_ from e1]
  ·simp only[go_sem,Cy (j+1),mb,show fh (j+1) ts (a:Int) en ns (d:Int) 0 0=_ from e2,gc,Nr (show c≠0 from hi)]
 |ok x a1 d1 nh=>
  obtain⟨q1,q2,rfl,q3,q4,q5,q6,q7,q8,q9⟩:=hi;obtain⟨r,gi,gr⟩:=XK hs IH _ a1 nh x (awa _) (by omega) ⟨q2,p2,by omega,q5⟩ q6 q7 q8
  refine⟨r,gi.from (by omega) q3 q4 q9,Ev.succ ((hr.and gr.jY).mono fun k e=>?_)⟩
  obtain⟨⟨e1,e2⟩,e3,e4⟩:=e;cases r with
  |er c p=>
   obtain⟨v,a',et,d',e4⟩:=e4;refine⟨?_,v,a',et,d',?_⟩
   ·simp only[go_sem,uJ,HQ,kM,show dM k ts en (a:Int) (d1:Int) ns=_ from e1]
    simp only[go_sem,show fd _ _ _ k k ts en (a1:Int) (d1:Int) nh x=_ from e3]
   ·simp only[go_sem,Cy,mb,show fh k ts (a:Int) en ns (d1:Int) 0 0=_ from e2,e4]
  |ok v a' d' et=>
   refine⟨?_,?_⟩
   ·simp only[go_sem,uJ,HQ,kM,show dM k ts en (a:Int) (d1:Int) ns=_ from e1]
    simp only[go_sem,show fd _ _ _ k k ts en (a1:Int) (d1:Int) nh x=_ from e3]
   ·simp only[go_sem,NZ,Cy,mb,show fh k ts (a:Int) en ns (d1:Int) 0 0=_ from e2,show gc _ _ _ k k ts en (a1:Int) nh (d1:Int) 0 0 x=_ from e4]
theorem XV(hs:pp ts){a0:Nat}(IH:∀ a' et,a0≤a'→yo ts a' d et→BoB ts en a' d et):∀ m a (ns:List eu) (x:Int),ts.length - a≤m→a0≤a→yo ts a d ns→0≤x→x<ns.length→tW (kd ns x)=true→
  ∃ r,Inv ts tW 0 a d ns r (wt ns x)∧cq fun q k=>I9 r (fe (dL q) (eM q) (dM q) q k ts en (a:Int) (d:Int) ns x)∧
   R2 r (gf (dU q) (gm q) (fh q) q k ts en (a:Int) ns (d:Int) 0 0 x):=by
 have h7:=hs.len;intro m;induction m with
 |zero=>
  intro a ns x hm h0 hp x0 x1 x2;have Kr:a6 ts a [111,114]=false:=by
   cases h:a6 ts a [111,114] with
   |false=>rfl
   |true=>have:=bz h;omega
  have b0:a≤4000000000000000000:=by have:=hp.hi;omega
  refine⟨.ok x a d ns,⟨by omega,hp.hi,rfl,by omega,aXa _,hp.all,x0,x1,x2,by omega⟩,cq.succ (cq.of fun q k=>⟨?_,?_⟩)⟩
  ·simp only[go_sem,I9,fe,tu b0,Kr]
  ·simp only[go_sem,R2,gf,gM hs (w:=[111,114]) rfl,Kr]
 |succ m ih=>
  intro a ns x hm h0 hp x0 x1 x2;obtain⟨p1,p2,p3,p4⟩:=hp;have b0:a≤4000000000000000000:=by omega
  cases Kr:a6 ts a [111,114] with
  |true=>
   have bg:=bz Kr;obtain⟨r,hi,hr⟩:=IH (a+1) ns (by omega) ⟨by omega,by omega,by omega,p4⟩
   cases r with
   |er c p=>
    refine⟨.er c p,hi,cq.succ (cq.succ (hr.tj.mono fun q k e=>?_))⟩;obtain⟨e1,v,a',et,d',e2⟩:=e;refine⟨?_,0,a',et,d',?_⟩
    ·simp only[go_sem,I9,fe,tu b0,Kr,bq,ai (show a<_ by omega),show eM q ts en ((a+1:Nat):Int) (d:Int) ns=_ from e1]
    ·simp only[go_sem,gf,gM hs (w:=[111,114]) rfl,Kr,dO,ai (show a<_ by omega),show gm q ts ((a+1:Nat):Int) en ns (d:Int) 0 0=_ from e2,cg (show c≠0 from hi),Nr (show c≠0 from hi)]
   |ok y a1 d1 nh=>
    obtain⟨q1,q2,rfl,q3,q4,q5,q6,q7,q8,q9⟩:=hi;have M0:nh.length≤4000000:=by omega
    have xk:kd nh x=kd ns x:=qA q4 x0 x1;have ql:=q4.length_le;have TG:oi nh nh.length (32,pl ts en a,0,[],[x,y]):=⟨by simp;omega,by simp[cf,xk,x2,q8],by simp⟩
    obtain⟨r,gi,gr⟩:=ih a1 (nh++[(32,pl ts en a,0,[],[x,y])]) (nh.length:Int) (by omega) (by omega) ⟨by omega,by omega,by simp;omega,q5.add TG⟩ (by omega) (by simp;omega) (by rw[rk];rfl)
    refine⟨r,gi.from (by omega) (by simp;omega) (q4.trans (aLa _ _)) (by rw[og,yG,rT q4 x0 x1];simp;omega),cq.succ ((hr.tj.and gr).mono fun q k e=>?_)⟩
    obtain⟨⟨e1,e2⟩,e4,e5⟩:=e;refine⟨?_,?_⟩
    ·simp only[go_sem,fe,tu b0,Kr,bq,ai (show a<_ by omega),show eM q ts en ((a+1:Nat):Int) (d1:Int) ns=_ from e1,ii M0]
     exact e4
    ·simp only[go_sem,gf,gM hs (w:=[111,114]) rfl,Kr,dO,ai (show a<_ by omega),show gm q ts ((a+1:Nat):Int) en ns (d1:Int) 0 0=_ from e2,fv M0]
     exact e5
  |false=>
   refine⟨.ok x a d ns,⟨by omega,p1,rfl,by omega,aXa _,p4,x0,x1,x2,by omega⟩,cq.succ (cq.of fun q k=>⟨?_,?_⟩)⟩
   ·simp only[go_sem,I9,fe,tu b0,Kr]
   ·simp only[go_sem,R2,gf,gM hs (w:=[111,114]) rfl,Kr]
theorem P0(hs:pp ts)(hp:yo ts a d ns)(IH:∀ a' et,a≤a'→yo ts a' d et→BoB ts en a' d et):CdB ts en a d ns:=by
 have h7:=hs.len;obtain⟨r,hi,hr⟩:=IH a ns (awa _) hp;obtain⟨p1,p2,p3,p4⟩:=hp;cases r with
 |er c p=>
  refine⟨.er c p,hi,Ev.succ ((hr.and ⟨1,fun k hk=>hk⟩).mono fun k e=>?_)⟩;obtain⟨⟨e1,v,a',et,d',e2⟩,hk⟩:=e;obtain⟨j,rfl⟩:∃ j,k=j+1:=⟨k - 1,by omega⟩
  refine⟨?_,v,a',et,d',?_⟩
  ·simp only[go_sem,uJ,HR (j+1),kN,show eM (j+1) ts en (a:Int) (d:Int) ns=_ from e1]
  ·simp only[go_sem,Cz (j+1),mg,show gm (j+1) ts (a:Int) en ns (d:Int) 0 0=_ from e2,gf,Nr (show c≠0 from hi)]
 |ok x a1 d1 nh=>
  obtain⟨q1,q2,rfl,q3,q4,q5,q6,q7,q8,q9⟩:=hi;obtain⟨r,gi,gr⟩:=XV hs IH _ a1 nh x (awa _) (by omega) ⟨q2,p2,by omega,q5⟩ q6 q7 q8
  refine⟨r,gi.from (by omega) q3 q4 q9,Ev.succ ((hr.and gr.jY).mono fun k e=>?_)⟩
  obtain⟨⟨e1,e2⟩,e3,e4⟩:=e;cases r with
  |er c p=>
   obtain⟨v,a',et,d',e4⟩:=e4;refine⟨?_,v,a',et,d',?_⟩
   ·simp only[go_sem,uJ,HR,kN,show eM k ts en (a:Int) (d1:Int) ns=_ from e1]
    simp only[go_sem,show fe _ _ _ k k ts en (a1:Int) (d1:Int) nh x=_ from e3]
   ·simp only[go_sem,Cz,mg,show gm k ts (a:Int) en ns (d1:Int) 0 0=_ from e2,e4]
  |ok v a' d' et=>
   refine⟨?_,?_⟩
   ·simp only[go_sem,uJ,HR,kN,show eM k ts en (a:Int) (d1:Int) ns=_ from e1]
    simp only[go_sem,show fe _ _ _ k k ts en (a1:Int) (d1:Int) nh x=_ from e3]
   ·simp only[go_sem,NZ,Cz,mg,show gm k ts (a:Int) en ns (d1:Int) 0 0=_ from e2,show gf _ _ _ k k ts en (a1:Int) nh (d1:Int) 0 0 x=_ from e4]
theorem Qx(hs:pp ts)(hp:yo ts a d ns)(IHl:∀ a' d' et,a<a'→yo ts a' d' et→LaB ts en a' d' et)(IHc:∀ a' d' et,a<a'→yo ts a' d' et→CdB ts en a' d' et):LaB ts en a d ns:=by
 have h7:=hs.len;have AF:=hp;obtain⟨p1,p2,p3,p4⟩:=hp;have b0:a≤4000000000000000000:=by omega
 have b1:a+1≤4000000000000000000:=by omega
 have bn:ns.length≤4000000:=by omega
 cases wN:a6 ts a [110,111,116] with
 |true=>
  have bg:=bz wN;by_cases hd:d<10
  ·obtain⟨r,hi,hr⟩:=IHl (a+1) (d+1) ns (by omega) ⟨by omega,by omega,by omega,p4⟩
   cases r with
   |er c p=>
    refine⟨.er c p,hi,Ev.succ (hr.mono fun k e=>?_)⟩;obtain⟨e1,v,a',et,d',e2⟩:=e;refine⟨?_,0,a',et,bh (d' - 1),?_⟩
    ·simp only[go_sem,uJ,j9,cC,bq,reduceIte,aG b0,gN p2,wN,hd,show dM k ts en ((a+1:Nat):Int) ((d+1:Nat):Int) ns=_ from e1]
    ·simp only[go_sem,kg,dA,dO,reduceIte,af hs (w:=[110,111,116]) rfl b0,lY p2,wN,hd,show fh k ts ((a+1:Nat):Int) en ns ((d+1:Nat):Int) 0 0=_ from e2,cg (show c≠0 from hi)]
   |ok v a' d' et=>
    obtain⟨q1,q2,rfl,q3,q4,q5,q6,q7,q8,q9⟩:=hi;have M0:et.length≤4000000:=by omega
    refine⟨.ok _ a' d (et++[(33,pl ts en a,0,[],[v])]),kS (by omega) (by omega) (by omega) q4 q5 ⟨by simp;omega,by simpa[cf] using q8,by simp⟩ rfl (by rw[o9];exact q9),Ev.succ (hr.mono fun k e=>⟨?_,?_⟩)⟩
    ·simp only[go_sem,uJ,j9,cC,bq,reduceIte,aG b0,gN p2,ii M0,wN,hd,show dM k ts en ((a+1:Nat):Int) ((d+1:Nat):Int) ns=_ from e.1,kC (show d≤_ by omega)]
    ·simp only[go_sem,NZ,kg,dA,dO,reduceIte,af hs (w:=[110,111,116]) rfl b0,lY p2,fv M0,wN,hd,show fh k ts ((a+1:Nat):Int) en ns ((d+1:Nat):Int) 0 0=_ from e.2,kC (show d≤_ by omega)]
  ·refine⟨.er 7 (pl ts en (a+1)),(show(7:Int)≠0 by decide),Ev.succ (Ev.of fun k=>⟨?_,0,a+1,ns,((d+1:Nat):Int),?_⟩)⟩
   ·simp only[go_sem,uJ,j9,cC,bq,reduceIte,aG b0,gN p2,wN,hd]
   ·simp only[go_sem,kg,dA,dO,reduceIte,af hs (w:=[110,111,116]) rfl b0,lY p2,wN,hd]
 |false=>
 cases rU:a6 ts a [91] with
 |true=>
  have bg:=bz rU;by_cases hd:d<10
  ·obtain⟨r,hi,hr⟩:=IHc (a+1) (d+1) ns (by omega) ⟨by omega,by omega,by omega,p4⟩
   cases r with
   |er c p=>
    refine⟨.er c p,hi,Ev.succ (hr.mono fun k e=>?_)⟩;obtain⟨e1,v,a',et,d',e2⟩:=e;refine⟨?_,v,a',et,bh (d' - 1),?_⟩
    ·simp only[go_sem,uJ,j9,cC,bq,reduceIte,aG b0,gN p2,wN,rU,hd,show dL k ts en ((a+1:Nat):Int) ((d+1:Nat):Int) ns=_ from e1]
    ·simp only[go_sem,kg,dA,dO,reduceIte,af hs (w:=[110,111,116]) rfl b0,af hs (w:=[91]) rfl b0,lY p2,wN,rU,hd,show dU k ts ((a+1:Nat):Int) en ns ((d+1:Nat):Int) 0 0=_ from e2,fE (show c≠0 from hi)]
   |ok v a' d' et=>
    obtain⟨q1,q2,rfl,q3,q4,q5,q6,q7,q8,q9⟩:=hi;have b4:a'≤4000000000000000000:=by omega
    cases mD:a6 ts a' [93] with
    |true=>
     have HN:=bz mD;refine⟨.ok v (a' + 1) d et,⟨by omega,by omega,rfl,by omega,q4,q5,q6,q7,q8,q9⟩,Ev.succ (hr.mono fun k e=>⟨?_,?_⟩)⟩
     ·simp only[go_sem,uJ,j9,cC,bq,reduceIte,aG b0,bE b4,gN p2,wN,rU,hd,mD,show dL k ts en ((a+1:Nat):Int) ((d+1:Nat):Int) ns=_ from e.1,kC (show d≤_ by omega)]
     ·simp only[go_sem,NZ,kg,dA,dO,reduceIte,af hs (w:=[110,111,116]) rfl b0,af hs (w:=[91]) rfl b0,lY p2,aI hs (w:=[93]) rfl b4,wN,rU,hd,mD,show dU k ts ((a+1:Nat):Int) en ns ((d+1:Nat):Int) 0 0=_ from e.2,kC (show d≤_ by omega)]
    |false=>
     refine⟨.er 6 (pl ts en a'),(show(6:Int)≠0 by decide),Ev.succ (hr.mono fun k e=>⟨?_,v,a',et,d,?_⟩)⟩
     ·simp only[go_sem,uJ,j9,cC,bq,reduceIte,aG b0,bE b4,gN p2,wN,rU,hd,mD,show dL k ts en ((a+1:Nat):Int) ((d+1:Nat):Int) ns=_ from e.1]
     ·simp only[go_sem,kg,dA,dO,reduceIte,af hs (w:=[110,111,116]) rfl b0,af hs (w:=[91]) rfl b0,lY p2,aI hs (w:=[93]) rfl b4,wN,rU,hd,mD,show dU k ts ((a+1:Nat):Int) en ns ((d+1:Nat):Int) 0 0=_ from e.2,kC (show d≤_ by omega)]
  ·refine⟨.er 7 (pl ts en (a+1)),(show(7:Int)≠0 by decide),Ev.succ (Ev.of fun k=>⟨?_,0,a+1,ns,((d+1:Nat):Int),?_⟩)⟩
   ·simp only[go_sem,uJ,j9,cC,bq,reduceIte,aG b0,gN p2,wN,rU,hd]
   ·simp only[go_sem,kg,dA,dO,reduceIte,af hs (w:=[110,111,116]) rfl b0,af hs (w:=[91]) rfl b0,lY p2,wN,rU,hd]
 |false=>
 cases hnu:a6 ts a [110,117,108,108] with
 |true=>
  have bg:=bz hnu;cases hn:uk ts (a+1) 1 with
  |true=>
   have bg:=jQ hn;refine⟨.ok _ (a+1+1) d (ns++[(34,pl ts en a,0,(tk ts (a+1)).2.2.1,[])]),kS (by omega) (by omega) (by omega) (aXa _) p4 (te rfl (by decide)) rfl (by simp[jM]),Ev.succ (Ev.of fun k=>⟨?_,?_⟩)⟩
   ·simp only[go_sem,uJ,j9,cC,bq,reduceIte,cW b1,aG b0,ii bn,wN,rU,hnu,hn]
   ·simp only[go_sem,NZ,kg,dA,dO,reduceIte,af hs (w:=[110,111,116]) rfl b0,af hs (w:=[91]) rfl b0,af hs (w:=[110,117,108,108]) rfl b0,dj b1,fv bn,wN,rU,hnu,hn]
  |false=>
   refine⟨.er 6 (pl ts en (a+1)),(show(6:Int)≠0 by decide),Ev.succ (Ev.of fun k=>⟨?_,0,a+1,ns,d,?_⟩)⟩
   ·simp only[go_sem,uJ,j9,cC,bq,reduceIte,cW b1,aG b0,wN,rU,hnu,hn]
   ·simp only[go_sem,kg,dA,dO,reduceIte,af hs (w:=[110,111,116]) rfl b0,af hs (w:=[91]) rfl b0,af hs (w:=[110,117,108,108]) rfl b0,dj b1,cg (show(6:Int)≠0 by decide),wN,rU,hnu,hn]
 |false=>
 obtain⟨r,hi,hr⟩:=BX (en:=en) hs AF;cases r with
 |er c p=>
  have hc:c≠0:=hi;refine⟨.er c p,hi,Ev.succ (hr.mono fun k e=>?_)⟩;obtain⟨e1,v,a',et,d',e2⟩:=e;refine⟨?_,0,a',et,d',?_⟩
  ·simp only[go_sem,uJ,j9,cC,bq,reduceIte,aG b0,wN,rU,hnu,show aj k ts en (a:Int) (d:Int) ns 1=_ from e1]
  ·simp only[go_sem,kg,dA,dO,reduceIte,af hs (w:=[110,111,116]) rfl b0,af hs (w:=[91]) rfl b0,af hs (w:=[110,117,108,108]) rfl b0,wN,rU,hnu,show am k ts (a:Int) en ns (d:Int) 0 0 1=_ from e2,Zs hc,UA,show IN []=0 from rfl,Kf hc]
 |ok x a1 d1 nh=>
  obtain⟨q1,q2,rfl,q3,q4,q5,q6,q7,q8,q9⟩:=hi;by_cases hz:IN (sg ts a1)=0
  ·refine⟨.er 6 (pl ts en a1),(show(6:Int)≠0 by decide),Ev.succ ((hr.and (ZY (tk ts a1).2.2.1)).mono fun k e=>⟨?_,0,a1,nh,d1,?_⟩)⟩
   ·by_cases bg:a1<ts.length
    ·simp only[go_sem,uJ,j9,cC,aa,bq,reduceIte,aG b0,wN,rU,hnu,show aj k ts en (a:Int) (d1:Int) ns 1=_ from e.1.1,Q5,bg,bf (iA bg),e.2,Vb hs bg,hz,AG]
    ·simp only[go_sem,uJ,j9,cC,aa,bq,reduceIte,aG b0,wN,rU,hnu,show aj k ts en (a:Int) (d1:Int) ns 1=_ from e.1.1,Q5,bg,AG]
   ·simp only[go_sem,kg,dA,dO,reduceIte,af hs (w:=[110,111,116]) rfl b0,af hs (w:=[91]) rfl b0,af hs (w:=[110,117,108,108]) rfl b0,wN,rU,hnu,show am k ts (a:Int) en ns (d1:Int) 0 0 1=_ from e.1.2,H7,UA,hz,KO]
  ·have bg:a1<ts.length:=by
    by_cases h:a1<ts.length
    ·exact h
    ·rw[VV h] at hz;exact absurd rfl hz
   have hz':(IN (sg ts a1)==0)=false:=Q6.2 hz;obtain⟨r,gi,gr⟩:=BX (en:=en) hs (a:=a1+1) (d:=d1) (ns:=nh) ⟨by omega,p2,by omega,q5⟩
   cases r with
   |er c p=>
    have hc:c≠0:=gi;refine⟨.er c p,gi,Ev.succ (((hr.and (ZY (tk ts a1).2.2.1)).and gr).mono fun k e=>?_)⟩;obtain⟨⟨⟨e1,e2⟩,e3⟩,e4,v,a',et,d',e5⟩:=e;refine⟨?_,0,a',et,d',?_⟩
    ·simp only[go_sem,uJ,j9,cC,aa,bq,reduceIte,aG b0,wN,rU,hnu,show aj k ts en (a:Int) (d1:Int) ns 1=_ from e1,Q5,bg,bf (iA bg),e3,Vb hs bg,hz',ai (show a1<_ by omega),show aj k ts en ((a1+1:Nat):Int) (d1:Int) nh 1=_ from e4]
    ·simp only[go_sem,kg,dA,dO,reduceIte,af hs (w:=[110,111,116]) rfl b0,af hs (w:=[91]) rfl b0,af hs (w:=[110,117,108,108]) rfl b0,wN,rU,hnu,show am k ts (a:Int) en ns (d1:Int) 0 0 1=_ from e2,H7,UA,hz',ai (show a1<_ by omega),show am k ts ((a1+1:Nat):Int) en nh (d1:Int) 0 0 1=_ from e5,cg hc]
   |ok y a2 d2 qt=>
    obtain⟨g1,g2,rfl,g3,g4,g5,g6,g7,g8,g9⟩:=gi;have M0:qt.length≤4000000:=by omega
    have xk:kd qt x=kd nh x:=qA g4 q6 q7;have ql:=g4.length_le;refine⟨.ok _ a2 d2 (qt++[(30,pl ts en a1,IN (sg ts a1),[],[x,y])]),kS (by omega) (by omega) (by omega) (q4.trans g4) g5 ⟨by simp;omega,by simp[cf,xk,q8,g8],by simp⟩ rfl (by rw[yG,rT g4 q6 q7];omega),Ev.succ (((hr.and (ZY (tk ts a1).2.2.1)).and gr).mono fun k e=>?_)⟩
    obtain⟨⟨⟨e1,e2⟩,e3⟩,e4,e5⟩:=e;refine⟨?_,?_⟩
    ·simp only[go_sem,uJ,j9,cC,aa,bq,reduceIte,aG b0,wN,rU,hnu,show aj k ts en (a:Int) (d2:Int) ns 1=_ from e1,Q5,bg,bf (iA bg),e3,Vb hs bg,hz',ai (show a1<_ by omega),show aj k ts en ((a1+1:Nat):Int) (d2:Int) nh 1=_ from e4,ii M0]
    ·simp only[go_sem,NZ,kg,dA,dO,reduceIte,af hs (w:=[110,111,116]) rfl b0,af hs (w:=[91]) rfl b0,af hs (w:=[110,117,108,108]) rfl b0,wN,rU,hnu,show am k ts (a:Int) en ns (d2:Int) 0 0 1=_ from e2,H7,UA,hz',ai (show a1<_ by omega),show am k ts ((a1+1:Nat):Int) en nh (d2:Int) 0 0 1=_ from e5,fv M0]
theorem afq(hs:pp ts):∀ m a,ts.length - a≤m→∀ a',a≤a'→∀ d ns,yo ts a' d ns→LaB ts en a' d ns∧CdB ts en a' d ns:=by
 intro m;induction m with
 |zero=>
  intro a hm a' ha d ns hp;have key:∀ a',a≤a'→∀ d ns,yo ts a' d ns→LaB ts en a' d ns:=fun a' ha d ns hp=>
   Qx hs hp (fun a2 d2 qt h2 p2=>by have:=p2.hi;have:=hp.hi;omega) (fun a2 d2 qt h2 p2=>by have:=p2.hi;have:=hp.hi;omega)
  exact⟨key a' ha d ns hp,P0 hs hp fun a2 qt h2 p2=>PX hs p2 fun a3 MC h3 p3=>key a3 (by omega) d MC p3⟩
 |succ m ih=>
  intro a hm a' ha d ns hp;have key:∀ a',a≤a'→∀ d ns,yo ts a' d ns→LaB ts en a' d ns:=fun a' ha d ns hp=>
   Qx hs hp (fun a2 d2 qt h2 p2=>(ih (a+1) (by omega) a2 (by omega) d2 qt p2).1) (fun a2 d2 qt h2 p2=>(ih (a+1) (by omega) a2 (by omega) d2 qt p2).2)
  exact⟨key a' ha d ns hp,P0 hs hp fun a2 qt h2 p2=>PX hs p2 fun a3 MC h3 p3=>key a3 (by omega) d MC p3⟩
theorem Zd(hs:pp ts)(hp:yo ts a d ns):CdB ts en a d ns:=(afq hs _ a (awa _) a (awa _) d ns hp).2
end
end Go.Fx.R5
namespace Go.Fx.R5
open Go Go.Fx
def QR(P:Int→Nat→Nat→List eu→Prop):Res→Prop | .ok v a d ns=>P v a d ns | .er c _=>c≠0
def BS(P:Int→Nat→Nat→List eu→Prop)(i:Nat→IT)(s:Nat→ST):Prop:=∃ r,QR P r∧Ev fun k=>uJ r (i k)∧NZ r (s k)
def fA(c p:Int)(o:ST):Prop:=match o with|some (_,a,_,_,c',p',_)=>c' = c∧p' = p∧0≤a|none=>False
theorem fA.vK{c p:Int}{o:ST}(h:fA c p o):∃(v:Int) (a:Nat) (ns:List eu) (d:Int),o=some (v,(a:Int),ns,d,c,p,()):=by
 match o,h with
 |some (v,a,ns,d,c',p',u),h'=>obtain⟨rfl,rfl,h0⟩:=h';exact⟨v,a.toNat,ns,d,by rw[aNa h0]⟩
section
variable {P P1:Int→Nat→Nat→List eu→Prop} {i:Nat→IT} {s:Nat→ST} {c p:Int}
theorem BS.of{ts:List zK}{C:Int→Bool}{s0 a d:Nat}{ns:List eu}(h:SQ ts C s0 a d ns i s):BS (yn ts C s0 a d ns) i s:=by obtain⟨r,hi,hr⟩:=h;exact⟨r,by cases r<;>exact hi,hr⟩
theorem BS.to{ts:List zK}{C:Int→Bool}{s0 a d:Nat}{ns:List eu}(h:BS (yn ts C s0 a d ns) i s):SQ ts C s0 a d ns i s:=by obtain⟨r,hi,hr⟩:=h;exact⟨r,by cases r<;>exact hi,hr⟩
theorem BS.mono(h:BS P1 i s)(g:∀ v a d ns,P1 v a d ns→P v a d ns):BS P i s:=by
 obtain⟨r,hi,hr⟩:=h;refine⟨r,?_,hr⟩;cases r with
 |ok v a d ns=>exact g _ _ _ _ hi
 |er c p=>exact hi
theorem BS.succ(h:BS P (fun k=>i (k+1)) (fun k=>s (k+1))):BS P i s:=by obtain⟨r,hi,hr⟩:=h;exact⟨r,hi,Ev.succ hr⟩
theorem BS.ok{v:Int}{a d:Nat}{ns:List eu}(h:P v a d ns):BS P (fun _=>some (.inl (v,(a:Int),(d:Int),ns,()))) (fun _=>some (v,(a:Int),ns,(d:Int),0,0,())):=
 ⟨.ok v a d ns,h,Ev.of fun k=>⟨rfl,rfl⟩⟩
theorem BS.er(hc:c≠0)(h:Ev fun k=>i k=some (.inr (c,p,()))∧fA c p (s k)):BS P i s:=
 ⟨.er c p,hc,h.mono fun _ e=>⟨e.1,e.2.vK⟩⟩
theorem BS.bind{f:Nat→(Int×Int×Int×List eu×Unit)⊕(Int×Int×Unit)→IT}{g:Nat→Int×Int×List eu×Int×Int×Int×Unit→ST}(h:BS P1 i s)
  (hok:∀(v:Int) (a d:Nat) (ns:List eu),P1 v a d ns→BS P (fun k=>f k (.inl (v,(a:Int),(d:Int),ns,()))) (fun k=>g k (v,(a:Int),ns,(d:Int),0,0,())))
  (her:∀ c p:Int,c≠0→Ev fun k=>∀(v:Int) (a:Nat) (ns:List eu) (d:Int),f k (.inr (c,p,()))=some (.inr (c,p,()))∧fA c p (g k (v,(a:Int),ns,d,c,p,()))):
  BS P (fun k=>(i k).bind (f k)) (fun k=>(s k).bind (g k)):=by
 obtain⟨r,hi,hr⟩:=h;cases r with
 |ok v a d ns=>obtain⟨r2,hi2,hr2⟩:=hok v a d ns hi;refine⟨r2,hi2,(hr.and hr2).mono fun k e=>?_⟩;obtain⟨⟨e1,e2⟩,e3⟩:=e;have e1:i k=_:=e1;have e2:s k=_:=e2;simpa only[e1,e2,bza] using e3
 |er c p=>refine BS.er (p:=p) hi ((hr.and (her c p hi)).mono fun k e=>?_);obtain⟨⟨e1,v,a,ns,d,e2⟩,e3⟩:=e;have e1:i k=_:=e1;simp only[go_sem,e1,e2];exact e3 v a ns d
end
section
variable {ts:List zK} {en:Int} {c p:Int} {a d:Nat} {ns:List eu}
theorem tO(h:a<ts.length):pl ts en a=(tk ts a).2.1:=by simp only[pl,iA h]
def stp(ts:List zK)(C:Int→Bool)(s a d:Nat)(ns:List eu):=yn ts C s a d ns
theorem ff(hc:c≠0):Ev fun k=>(∀(a:Nat) (ns:List eu) (d:Int),am k ts (a:Int) en ns d c p 1=some (0,(a:Int),ns,d,c,p,()))∧
  (∀(a:Nat) (ns:List eu) (d:Int),dU k ts (a:Int) en ns d c p=some (0,(a:Int),ns,d,c,p,())):=
 (fl1 hc).and (Zr hc)
theorem ff1(hc:c≠0):Ev fun k=>∃ j,k=j+1∧(∀(a:Nat) (ns:List eu) (d:Int),am (j+1) ts (a:Int) en ns d c p 1=some (0,(a:Int),ns,d,c,p,()))∧
  (∀(a:Nat) (ns:List eu) (d:Int),dU (j+1) ts (a:Int) en ns d c p=some (0,(a:Int),ns,d,c,p,())):=
 ((ff hc).and ⟨1,fun k hk=>hk⟩).mono fun k e=>⟨k - 1,by omega,by rw[show k - 1+1=k by omega];exact e.1⟩
theorem Gk(hs:pp ts)(hp:yo ts a d ns):BS (yn ts Bx 1 a d ns) (fun k=>aj k ts en (a:Int) (d:Int) ns 1) (fun k=>am k ts (a:Int) en ns (d:Int) 0 0 1):=BS.of (BX hs hp)
theorem YP(hs:pp ts)(hp:yo ts a d ns):BS (yn ts tW 1 a d ns) (fun k=>dL k ts en (a:Int) (d:Int) ns) (fun k=>dU k ts (a:Int) en ns (d:Int) 0 0):=BS.of (Zd hs hp)
inductive O8|ok (l:XI) (a:Nat) (ns:List eu)|er (c p:Int)
structure ja(C:Int→Bool)(ns:List eu)(l:XI):Prop where
 v:∀ j∈l,0≤j∧j<(ns.length:Int)
 c:∀ j∈l,C (kd ns j)=true
theorem ja.up{C:Int→Bool}{ns et:List eu}{l:XI}(h:ja C ns l)(hp:ns <+: et):ja C et l:=by
 have:=hp.length_le;refine⟨fun j hj=>?_,fun j hj=>?_⟩
 ·have:=h.v j hj;omega
 ·have:=h.v j hj
  rw[qA hp this.1 this.2];exact h.c j hj
theorem ja.add{C:Int→Bool}{ns:List eu}{l:XI}{v:Int}(h:ja C ns l)(h0:0≤v)(h1:v<ns.length)(hc:C (kd ns v)=true):ja C ns (l++[v]):=by
 refine⟨fun j hj=>?_,fun j hj=>?_⟩
 ·rcases aoa.1 hj with hj|hj
  ·exact h.v j hj
  ·rw[Q7.1 hj];exact⟨h0,h1⟩
 ·rcases aoa.1 hj with hj|hj
  ·exact h.c j hj
  ·rw[Q7.1 hj];exact hc
theorem ja.nil{C:Int→Bool}{ns:List eu}:ja C ns []:=⟨by simp,by simp⟩
theorem cu{l:XI}{v:Int}(h:l.length≤4000000):bD l [v]=some (l++[v]):=oj (by simp;omega)
def Z2(u:XI)(r:O8)(d:Int)(o:Option ((XI×Int×Int×List eu×Unit)⊕(Int×Int×Unit))):Prop:=match r with
 |.ok l a ns=>o=some (.inl (u++l,(a:Int),d,ns,()))
 |.er c p=>o=some (.inr (c,p,()))
def Ps(u:XI)(r:O8)(d:Int)(o:Option (Int×List eu×Int×Int×Int×XI×Unit)):Prop:=match r with
 |.ok l a ns=>o=some ((a:Int),ns,d,0,0,u++l,())
 |.er c p=>∃(l:XI) (a:Nat) (ns:List eu) (d:Int),o=some ((a:Int),ns,d,c,p,l,())
def qu(ts:List zK)(en:Int)(w:ab):O8→O8
 |.ok l a ns=>if a6 ts a w=true then .ok l a ns else .er 6 (pl ts en a)
 |.er c p=>.er c p
structure LOk(ts:List zK)(C:Int→Bool)(a:Nat)(ns:List eu)(n w0:Nat)(l':XI)(a':Nat)(et:List eu):Prop where
 lo:a≤a'
 hi:a'≤ts.length
 ln:et.length+2 * a≤ns.length+2 * a'
 pre:ns <+: et
 all:jz et
 cG:ja C et l'
 len:l'.length+a≤n+a'
 w:jM et l' + ns.length≤et.length+w0
def O7(ts:List zK)(C:Int→Bool)(a:Nat)(ns:List eu)(n w0:Nat):O8→Prop
 |.ok l' a' et=>LOk ts C a ns n w0 l' a' et
 |.er c _=>c≠0
theorem O7.from{C:Int→Bool}{a a1 n n1 w0 w1:Nat}{ns nh:List eu}{r:O8}(h:O7 ts C a1 nh n1 w1 r)(lo:a≤a1)(ln:nh.length+2 * a≤ns.length+2 * a1)(pre:ns <+: nh)(hn:n1+a≤n+a1)(hw:w1+ns.length≤nh.length+w0):O7 ts C a ns n w0 r:=by
 cases r with
 |er c p=>exact h
 |ok l' a' et=>obtain⟨h1,h2,h3,h4,h5,h6,h7,h8⟩:=h;exact⟨by omega,h2,by omega,pre.trans h4,h5,h6,by omega,by omega⟩
theorem XD(hs:pp ts){u:Int}(hd:d≤10):∀ m a (ns:List eu) (l:XI),ts.length - a≤m→yo ts a d ns→ja Bx ns l→1≤l.length→l.length≤1+a→
  ∃ r,O7 ts Bx a ns l.length (jM ns l) r∧cq fun q k=>Z2 [u] r d (cZ q k ts en (u::l) (a:Int) (d:Int) ns)∧
   Ps [u] (qu ts en [41] r) d (bt q k ts en (a:Int) ns (d:Int) 0 0 (u::l)):=by
 have h7:=hs.len;intro m;induction m with
 |zero=>
  intro a ns l hm hp hk hl Qr;have Gw:a6 ts a [44]=false:=by
   cases h:a6 ts a [44] with
   |false=>rfl
   |true=>have:=bz h;omega
  have mD:a6 ts a [41]=false:=by
   cases h:a6 ts a [41] with
   |false=>rfl
   |true=>have:=bz h;omega
  have b0:a≤4000000000000000000:=by have:=hp.hi;omega
  have bl:((u::l).length:Int) > 1:=by simp;omega
  have bk:(u::l).length≤4000000:=by have:=hp.hi;simp;omega
  refine⟨.ok l a ns,⟨by omega,hp.hi,by omega,aXa _,hp.all,hk,by omega,by omega⟩,cq.succ (cq.succ ((fl1 (ts:=ts) (en:=en) (c:=6) (p:=pl ts en a) (by decide)).tj.mono fun q k e=>⟨?_,?_⟩))⟩
  ·simp only[go_sem,Z2,a4a,aYa,cZ,aG b0,Gw,reduceIte]
  ·simp only[go_sem,qu,mD,reduceIte]
   refine⟨u::(l++[0]),a,ns,d,?_⟩;rw[bt];simp only[go_sem,aa,gM hs (w:=[41]) rfl,mD,bl,aI hs (w:=[44]) rfl b0,Gw,reduceIte,e,cu bk];rw[bt];simp only[go_sem,aa,show((6:Int)==0)=false from rfl,a4a]
 |succ m ih=>
  intro a ns l hm hp hk hl Qr;obtain⟨p1,p2,p3,p4⟩:=hp;have b0:a≤4000000000000000000:=by omega
  have bl:((u::l).length:Int) > 1:=by simp;omega
  have bk:(u::l).length≤4000000:=by simp;omega
  have bk1:l.length≤4000000:=by omega
  cases Gw:a6 ts a [44] with
  |true=>
   have mD:a6 ts a [41]=false:=aZ Gw rfl;have bg:=bz Gw;obtain⟨r,hi,hr⟩:=BX (en:=en) hs (a:=a+1) (d:=d) (ns:=ns) ⟨by omega,p2,by omega,p4⟩
   cases r with
   |er c p=>
    have hc:c≠0:=hi;refine⟨.er c p,hi,cq.succ (cq.succ (hr.tj.mono fun q k e=>?_))⟩;obtain⟨e1,v,a',et,d',e2⟩:=e;refine⟨?_,u::(l++[v]),a',et,d',?_⟩
    ·simp only[go_sem,Z2,cZ,aG b0,Gw,reduceIte,show aj q ts en ((a+1:Nat):Int) (d:Int) ns 1=_ from e1]
    ·rw[bt]
     simp only[go_sem,aa,gM hs (w:=[41]) rfl,mD,bl,aI hs (w:=[44]) rfl b0,Gw,reduceIte,show am q ts ((a+1:Nat):Int) en ns (d:Int) 0 0 1=_ from e2,cu bk]
     rw[bt];simp only[go_sem,aa,Q6.2 hc,a4a]
   |ok v a1 d1 nh=>
    obtain⟨q1,q2,rfl,q3,q4,q5,q6,q7,q8,q9⟩:=hi;obtain⟨r,gi,gr⟩:=ih a1 nh (l++[v]) (by omega) ⟨q2,p2,by omega,q5⟩ ((hk.up q4).add q6 q7 q8) (by simp) (by simp;omega)
    refine⟨r,gi.from (by omega) (by omega) q4 (by simp;omega) (by rw[qB,o9,pS q4 hk.v];omega),cq.succ ((hr.tj.and gr).mono fun q k e=>?_)⟩
    obtain⟨⟨e1,e2⟩,e3,e4⟩:=e;refine⟨?_,?_⟩
    ·simp only[go_sem,cZ,aG b0,Gw,reduceIte,show aj q ts en ((a+1:Nat):Int) (d1:Int) ns 1=_ from e1,cu bk,a4a]
     exact e3
    ·simp only[go_sem,bt,aa,gM hs (w:=[41]) rfl,mD,bl,aI hs (w:=[44]) rfl b0,Gw,reduceIte,show am q ts ((a+1:Nat):Int) en ns (d1:Int) 0 0 1=_ from e2,cu bk,a4a]
     exact e4
  |false=>
   cases mD:a6 ts a [41] with
   |true=>
    refine⟨.ok l a ns,⟨by omega,p1,by omega,aXa _,p4,hk,by omega,by omega⟩,cq.succ (cq.of fun q k=>⟨?_,?_⟩)⟩
    ·simp only[go_sem,Z2,a4a,aYa,cZ,aG b0,Gw,reduceIte]
    ·simp only[go_sem,qu,mD,reduceIte,Ps,a4a,aYa,bt,aa,gM hs (w:=[41]) rfl]
   |false=>
    refine⟨.ok l a ns,⟨by omega,p1,by omega,aXa _,p4,hk,by omega,by omega⟩,cq.succ (cq.succ ((fl1 (ts:=ts) (en:=en) (c:=6) (p:=pl ts en a) (by decide)).tj.mono fun q k e=>⟨?_,?_⟩))⟩
    ·simp only[go_sem,Z2,a4a,aYa,cZ,aG b0,Gw,reduceIte]
    ·simp only[go_sem,qu,mD,reduceIte]
     refine⟨u::(l++[0]),a,ns,d,?_⟩;rw[bt];simp only[go_sem,aa,gM hs (w:=[41]) rfl,mD,bl,aI hs (w:=[44]) rfl b0,Gw,reduceIte,e,cu bk];rw[bt];simp only[go_sem,aa,show((6:Int)==0)=false from rfl,a4a]
end
end Go.Fx.R5
namespace Go.Fx.R5
open Go Go.Fx
section
variable {ts:List zK} {en:Int} {a d:Nat} {ns:List eu}
theorem ah4{k:Int}(h1:9≤k)(h2:k≤22):Pt k=true:=by simp[Pt,h1,h2]
theorem aa3(hs:pp ts)(hp:yo ts a d ns)(hn:uk ts a 1=true):BS (yn ts Pt 1 a d ns) (fun k=>cp k ts en (a:Int) (d:Int) ns) (fun k=>dY k ts (a:Int) en ns (d:Int) 0 0):=by
 have h7:=hs.len;obtain⟨p1,p2,p3,p4⟩:=hp;have bg:=jQ hn;have vj:pl ts en a=(tk ts a).2.1:=tO bg;have b0:a≤4000000000000000000:=by omega
 have b1:a+1≤4000000000000000000:=by omega
 have b2:a+1+1≤4000000000000000000:=by omega
 have b3:a+1+1+1≤4000000000000000000:=by omega
 have b4:a+1+1+1+1≤4000000000000000000:=by omega
 have bn:ns.length≤4000000:=by omega
 cases rU:a6 ts (a+1) [91] with
 |true=>
  have hl0:=bz rU;simp only[go_sem,cp,dY,aa,dO,reduceIte,cW b0,hn,aG b1,dj b0,vj,af hs (w:=[91]) rfl b1,rU,show a6 ts (a+1) [61]=false from aZ rU rfl,show a6 ts (a+1) [43,61]=false from aZ rU rfl]
  refine BS.bind (Gk hs (a:=a+1+1) ⟨by omega,p2,by omega,p4⟩) (fun x1 a1 d1 nh g1=>?_) (fun c p hc=>(ff (ts:=ts) (en:=en) (p:=p) hc).mono fun k e v a' et d'=>⟨rfl,by simp only[go_sem,fA,fE hc,cg hc,e.1,aPa,apa]⟩)
  obtain⟨q11,q12,rfl,q13,Mi,PL,q16,q17,O5,q19⟩:=g1;have c1:a1≤4000000000000000000:=by omega
  have M1:a1+1≤4000000000000000000:=by omega
  have m1:nh.length≤4000000:=by omega
  cases h1:a6 ts (a1) [93] with
  |false=>simp only[go_sem,bE c1,aI hs (w:=[93]) rfl c1,h1,reduceIte];exact BS.er (c:=6) (p:=pl ts en (a1)) (by decide) ((ff (ts:=ts) (en:=en) (c:=6) (p:=pl ts en (a1)) (by decide)).mono fun k e=>⟨rfl,by have hc:(6:Int)≠0:=(by decide);simp only[go_sem,fA,fE hc,cg hc,e.1,aPa,apa]⟩)
  |true=>
  have X8:=bz h1;simp only[go_sem,bE c1,aI hs (w:=[93]) rfl c1,h1,reduceIte];cases h2:a6 ts (a1+1) [61] with
  |false=>simp only[go_sem,bE M1,aI hs (w:=[61]) rfl M1,h2,reduceIte];exact BS.er (c:=6) (p:=pl ts en (a1+1)) (by decide) ((ff (ts:=ts) (en:=en) (c:=6) (p:=pl ts en (a1+1)) (by decide)).mono fun k e=>⟨rfl,by have hc:(6:Int)≠0:=(by decide);simp only[go_sem,fA,fE hc,cg hc,e.1,aPa,apa]⟩)
  |true=>
  have TE:=bz h2;simp only[go_sem,bE M1,aI hs (w:=[61]) rfl M1,h2,reduceIte];refine BS.bind (Gk hs (a:=a1+1+1) ⟨by omega,p2,by omega,PL⟩) (fun x2 a2 d2 qt g2=>?_) (fun c p hc=>(ff (ts:=ts) (en:=en) (p:=p) hc).mono fun k e v a' et d'=>⟨rfl,by simp only[go_sem,fA,fE hc,cg hc,aPa,apa]⟩)
  obtain⟨q21,q22,rfl,q23,OC,q25,q26,q27,q28,q29⟩:=g2;have c2:a2≤4000000000000000000:=by omega
  have c21:a2+1≤4000000000000000000:=by omega
  have m2:qt.length≤4000000:=by omega
  cases h3:a6 ts (a2) [59] with
  |false=>simp only[go_sem,bE c2,aI hs (w:=[59]) rfl c2,h3,reduceIte];exact BS.er (c:=6) (p:=pl ts en (a2)) (by decide) ((ff (ts:=ts) (en:=en) (c:=6) (p:=pl ts en (a2)) (by decide)).mono fun k e=>⟨rfl,by have hc:(6:Int)≠0:=(by decide);simp only[go_sem,fA,cg hc,aPa,apa]⟩)
  |true=>
  have ahr:=bz h3;simp only[go_sem,bE c2,aI hs (w:=[59]) rfl c2,h3,reduceIte];simp only[go_sem,ii m2,fv m2];exact BS.ok (kS (by omega) (by omega) (by omega) (Mi.trans OC) q25 ⟨by simp;have:=OC.length_le;omega,by simp[cf,O5,q28,qA OC q16 q17],by simp⟩ rfl (by rw[yG,rT OC q16 q17];omega))
 |false=>
 cases zB:a6 ts (a+1) [43,61] with
 |true=>
  have hl0:=bz zB;simp only[go_sem,cp,dY,aa,dO,reduceIte,cW b0,hn,aG b1,dj b0,vj,af hs (w:=[91]) rfl b1,af hs (w:=[43,61]) rfl b1,rU,zB,show a6 ts (a+1) [61]=false from aZ zB rfl]
  refine BS.bind (Gk hs (a:=a+1+1) ⟨by omega,p2,by omega,p4⟩) (fun x1 a1 d1 nh g1=>?_) (fun c p hc=>(ff (ts:=ts) (en:=en) (p:=p) hc).mono fun k e v a' et d'=>⟨rfl,by simp only[go_sem,fA,fE hc,cg hc,aPa,apa]⟩)
  obtain⟨q11,q12,rfl,q13,Mi,PL,q16,q17,O5,q19⟩:=g1;have c1:a1≤4000000000000000000:=by omega
  have M1:a1+1≤4000000000000000000:=by omega
  have m1:nh.length≤4000000:=by omega
  cases h1:a6 ts (a1) [59] with
  |false=>simp only[go_sem,bE c1,aI hs (w:=[59]) rfl c1,h1,reduceIte];exact BS.er (c:=6) (p:=pl ts en (a1)) (by decide) ((ff (ts:=ts) (en:=en) (c:=6) (p:=pl ts en (a1)) (by decide)).mono fun k e=>⟨rfl,by have hc:(6:Int)≠0:=(by decide);simp only[go_sem,fA,cg hc,aPa,apa]⟩)
  |true=>
  have X8:=bz h1;simp only[go_sem,bE c1,aI hs (w:=[59]) rfl c1,h1,reduceIte];simp only[go_sem,ii m1,fv m1];exact BS.ok (kS (by omega) (by omega) (by omega) Mi PL ⟨by simp;omega,by simpa[cf] using O5,by simp⟩ rfl (by rw[o9];exact q19))
 |false=>
 cases Qq:a6 ts (a+1) [61] with
 |false=>simp only[go_sem,cp,dY,aa,dO,reduceIte,cW b0,hn,aG b1,dj b0,vj,af hs (w:=[91]) rfl b1,af hs (w:=[43,61]) rfl b1,aI hs (w:=[61]) rfl b1,rU,zB,Qq,AG];exact BS.er (c:=6) (p:=pl ts en (a+1)) (by decide) ((ff (ts:=ts) (en:=en) (c:=6) (p:=pl ts en (a+1)) (by decide)).mono fun k e=>⟨rfl,by have hc:(6:Int)≠0:=(by decide);simp only[go_sem,fA,fE hc,Ax hc,Nr hc,Ns hc,cg hc,afv hc,dO,e.1,aPa,apa]⟩)
 |true=>
 have hl0:=bz Qq;cases ham:a6 ts (a+1+1) [38] with
 |true=>
  have hl1:=bz ham;cases hu:uk ts (a+1+1+1) 1 with
  |false=>simp only[go_sem,cp,eg,dY,aa,bq,gG,dO,gb,a6a,reduceIte,cW b0,hn,aG b1,aG b2,dj b0,vj,af hs (w:=[91]) rfl b1,af hs (w:=[43,61]) rfl b1,aI hs (w:=[61]) rfl b1,af hs (w:=[38]) rfl b2,rU,zB,Qq,ham,jO b3 bn,hu,oc,dj b3];exact BS.er (c:=6) (p:=pl ts en (a+1+1+1)) (by decide) ((ff (ts:=ts) (en:=en) (c:=6) (p:=pl ts en (a+1+1+1)) (by decide)).mono fun k e=>⟨rfl,by have hc:(6:Int)≠0:=(by decide);simp only[go_sem,fA,fE hc,cg hc,e.1,aPa,apa]⟩)
  |true=>
  have Qr:=jQ hu;simp only[go_sem,cp,eg,dY,aa,bq,gG,dO,gb,a6a,reduceIte,cW b0,hn,aG b1,aG b2,dj b0,vj,af hs (w:=[91]) rfl b1,af hs (w:=[43,61]) rfl b1,aI hs (w:=[61]) rfl b1,af hs (w:=[38]) rfl b2,rU,zB,Qq,ham,jO b3 bn,hu,Li b3 bn hu,tO Qr];cases h1:a6 ts (a+1+1+1+1) [91] with
  |false=>simp only[go_sem,bE b4,aI hs (w:=[91]) rfl b4,h1,reduceIte];exact BS.er (c:=6) (p:=pl ts en (a+1+1+1+1)) (by decide) ((ff (ts:=ts) (en:=en) (c:=6) (p:=pl ts en (a+1+1+1+1)) (by decide)).mono fun k e=>⟨rfl,by have hc:(6:Int)≠0:=(by decide);simp only[go_sem,fA,fE hc,cg hc,e.1,aPa,apa]⟩)
  |true=>
  have X8:=bz h1;simp only[go_sem,bE b4,aI hs (w:=[91]) rfl b4,h1,a6a,reduceIte];have hx:jz (ns++[(23,(tk ts (a+1+1+1)).2.1,0,(tk ts (a+1+1+1)).2.2.1,[])]):=p4.add (te rfl (by decide))
  refine BS.bind (Gk hs (a:=a+1+1+1+1+1) ⟨by omega,p2,by simp;omega,hx⟩) (fun x1 a1 d1 nh g1=>?_) (fun c p hc=>(ff (ts:=ts) (en:=en) (p:=p) hc).mono fun k e v a' et d'=>⟨rfl,by simp only[go_sem,fA,fE hc,cg hc,aPa,apa]⟩)
  obtain⟨q11,q12,rfl,q13,Mi,PL,q16,q17,O5,q19⟩:=g1;simp only[aua,aDa,aCa] at q13 q19;have c1:a1≤4000000000000000000:=by omega
  have M1:a1+1≤4000000000000000000:=by omega
  have m1:nh.length≤4000000:=by omega
  cases h2:a6 ts (a1) [93] with
  |false=>simp only[go_sem,bE c1,aI hs (w:=[93]) rfl c1,h2,reduceIte];exact BS.er (c:=6) (p:=pl ts en (a1)) (by decide) ((ff (ts:=ts) (en:=en) (c:=6) (p:=pl ts en (a1)) (by decide)).mono fun k e=>⟨rfl,by have hc:(6:Int)≠0:=(by decide);simp only[go_sem,fA,fE hc,cg hc,aPa,apa]⟩)
  |true=>
  have TE:=bz h2;simp only[go_sem,bE c1,aI hs (w:=[93]) rfl c1,h2,reduceIte];cases h3:a6 ts (a1+1) [59] with
  |false=>simp only[go_sem,bE M1,aI hs (w:=[59]) rfl M1,h3,reduceIte];exact BS.er (c:=6) (p:=pl ts en (a1+1)) (by decide) ((ff (ts:=ts) (en:=en) (c:=6) (p:=pl ts en (a1+1)) (by decide)).mono fun k e=>⟨rfl,by have hc:(6:Int)≠0:=(by decide);simp only[go_sem,fA,cg hc,aPa,apa]⟩)
  |true=>
  have ahr:=bz h3;simp only[go_sem,bE M1,aI hs (w:=[59]) rfl M1,h3,reduceIte];simp only[go_sem,ii m1,fv m1];have jy:=Mi.length_le;simp only[aua,aDa,aCa] at jy;exact BS.ok (kS (by omega) (by omega) (by omega) ((aLa _ _).trans Mi) PL ⟨by simp;omega,by simp[cf,O5,qA Mi (show(0:Int)≤(ns.length:Int) by omega) (by simp;omega),rk],by simp⟩ rfl (by rw[yG,rT Mi (show(0:Int)≤(ns.length:Int) by omega) (by simp;omega),og,zW];omega))
 |false=>
 cases mD:(uk ts (a+1+1) 1&&a6 ts (a+1+1+1) [40]) with
 |true=>
  obtain⟨hu,mH⟩:=Bool.and_eq_true_iff.1 mD;have hl1:=bz mH;have hx:jz (ns++[(23,(tk ts (a+1+1)).2.1,0,(tk ts (a+1+1)).2.2.1,[])]):=p4.add (te rfl (by decide))
  have b5:a+1+1+1+1+1≤4000000000000000000:=by omega
  have nu:(ns++[(23,(tk ts (a+1+1)).2.1,0,(tk ts (a+1+1)).2.2.1,[])]).length≤4000000:=by simp;omega
  have ku:kd (ns++[(23,(tk ts (a+1+1)).2.1,0,(tk ts (a+1+1)).2.2.1,[])]) (ns.length:Int)=23:=rk;cases h1:a6 ts (a+1+1+1+1) [41] with
  |true=>
   have Qr:=bz h1;have hL:Ev fun k=>bt k k ts en ((a+1+1+1+1:Nat):Int) (ns++[(23,(tk ts (a+1+1)).2.1,0,(tk ts (a+1+1)).2.2.1,[])]) (d:Int) 0 0 [(ns.length:Int)]=some (((a+1+1+1+1:Nat):Int),(ns++[(23,(tk ts (a+1+1)).2.1,0,(tk ts (a+1+1)).2.2.1,[])]),(d:Int),0,0,[(ns.length:Int)],()):=
    cq.jY (p2:=fun q k=>bt q k ts en ((a+1+1+1+1:Nat):Int) (ns++[(23,(tk ts (a+1+1)).2.1,0,(tk ts (a+1+1)).2.2.1,[])]) (d:Int) 0 0 [(ns.length:Int)]=_) (cq.succ (cq.of fun q k=>by
     simp only[go_sem,bt,aa,gM hs (w:=[41]) rfl,h1]))
   cases h2:a6 ts (a+1+1+1+1+1) [59] with
   |true=>
    have hl3:=bz h2;refine⟨.ok _ (a+1+1+1+1+1+1) d ((ns++[(23,(tk ts (a+1+1)).2.1,0,(tk ts (a+1+1)).2.2.1,[])])++[(22,(tk ts a).2.1,0,(tk ts a).2.2.1,[(ns.length:Int)])]),kS (by omega) (by omega) (by simp;omega) (aLa _ _) hx ⟨by simp;omega,by simp[cf,rk],by simp⟩ rfl (by rw[o9,og,zW];simp;omega),hL.mono fun k e=>⟨?_,?_⟩⟩
    ·simp only[go_sem,uJ,cp,eg,aa,bq,gG,reduceIte,cW b0,hn,aG b1,aG b2,Qq,ham,hu,mH,zT b2,jO b2 bn,bE b3,aG b4,h1,bE b5,h2,ii nu]
    ·simp only[go_sem,NZ,dY,aa,dO,gb,reduceIte,dj b0,hn,vj,af hs (w:=[91]) rfl b1,af hs (w:=[43,61]) rfl b1,aI hs (w:=[61]) rfl b1,af hs (w:=[38]) rfl b2,rU,zB,Qq,ham,hu,mH,EZ hs (w:=[40]) rfl b2,Li b2 bn hu,tO (jQ hu),aI hs (w:=[40]) rfl b3,e,aI hs (w:=[41]) rfl b4,aI hs (w:=[59]) rfl b5,h1,h2,fv nu]
   |false=>
    refine⟨.er 6 (pl ts en (a+1+1+1+1+1)),show(6:Int)≠0 by decide,hL.mono fun k e=>⟨?_,0,a+1+1+1+1+1,(ns++[(23,(tk ts (a+1+1)).2.1,0,(tk ts (a+1+1)).2.2.1,[])]),d,?_⟩⟩
    ·simp only[go_sem,uJ,cp,eg,aa,bq,gG,reduceIte,cW b0,hn,aG b1,aG b2,Qq,ham,hu,mH,zT b2,jO b2 bn,bE b3,aG b4,h1,bE b5,h2]
    ·simp only[go_sem,dY,aa,dO,gb,reduceIte,dj b0,hn,vj,af hs (w:=[91]) rfl b1,af hs (w:=[43,61]) rfl b1,aI hs (w:=[61]) rfl b1,af hs (w:=[38]) rfl b2,rU,zB,Qq,ham,hu,mH,EZ hs (w:=[40]) rfl b2,Li b2 bn hu,tO (jQ hu),aI hs (w:=[40]) rfl b3,e,aI hs (w:=[41]) rfl b4,aI hs (w:=[59]) rfl b5,h1,h2,cg (show(6:Int)≠0 by decide)]
  |false=>
  obtain⟨r,hi,hr⟩:=BX (en:=en) hs (a:=a+1+1+1+1) (d:=d) (ns:=(ns++[(23,(tk ts (a+1+1)).2.1,0,(tk ts (a+1+1)).2.2.1,[])])) ⟨by omega,p2,by simp;omega,hx⟩
  cases r with
  |er c p=>
   have hc:c≠0:=hi;have hL:Ev fun k=>∃(a':Nat) (et:List eu) (d':Int) (v:Int),bt k k ts en ((a+1+1+1+1:Nat):Int) (ns++[(23,(tk ts (a+1+1)).2.1,0,(tk ts (a+1+1)).2.2.1,[])]) (d:Int) 0 0 [(ns.length:Int)]=some ((a':Int),et,d',c,p,[(ns.length:Int),v],()):=
    cq.jY (p2:=fun q k=>∃(a':Nat) (et:List eu) (d':Int) (v:Int),bt q k ts en ((a+1+1+1+1:Nat):Int) (ns++[(23,(tk ts (a+1+1)).2.1,0,(tk ts (a+1+1)).2.2.1,[])]) (d:Int) 0 0 [(ns.length:Int)]=some ((a':Int),et,d',c,p,[(ns.length:Int),v],())) (cq.succ (cq.succ (hr.tj.mono fun q k e=>by
     obtain⟨_,v,a',et,d',e2⟩:=e;refine⟨a',et,d',v,?_⟩;rw[bt];simp only[go_sem,aa,gM hs (w:=[41]) rfl,h1,aDa,aCa,show((((0+1:Nat):Int)) > 1)=False from by simp,show am q ts ((a+1+1+1+1:Nat):Int) en (ns++[(23,(tk ts (a+1+1)).2.1,0,(tk ts (a+1+1)).2.2.1,[])]) (d:Int) 0 0 1=_ from e2,cu (l:=[(ns.length:Int)]) (v:=v) (by simp),a4a,aYa]
     rw[bt];simp only[go_sem,aa,Q6.2 hc])))
   refine⟨.er c p,hi,(hr.and hL).mono fun k e=>?_⟩;obtain⟨⟨e1,_⟩,a',et,d',v,e2⟩:=e;refine⟨?_,0,a',et,d',?_⟩
   ·simp only[go_sem,uJ,cp,eg,aa,bq,gG,reduceIte,cW b0,hn,aG b1,aG b2,Qq,ham,hu,mH,zT b2,jO b2 bn,bE b3,aG b4,h1,show aj k ts en ((a+1+1+1+1:Nat):Int) (d:Int) (ns++[(23,(tk ts (a+1+1)).2.1,0,(tk ts (a+1+1)).2.2.1,[])]) 1=_ from e1]
   ·simp only[go_sem,dY,aa,dO,gb,reduceIte,dj b0,hn,vj,af hs (w:=[91]) rfl b1,af hs (w:=[43,61]) rfl b1,aI hs (w:=[61]) rfl b1,af hs (w:=[38]) rfl b2,rU,zB,Qq,ham,hu,mH,EZ hs (w:=[40]) rfl b2,Li b2 bn hu,tO (jQ hu),aI hs (w:=[40]) rfl b3,e2,fE hc,cg hc]
  |ok v a1 d1 nh=>
   obtain⟨q1,q2,rfl,q3,q4,q5,q6,q7,q8,q9⟩:=hi;simp only[aua,aDa,aCa] at q3 q9;have jy:=q4.length_le;simp only[aua,aDa,aCa] at jy;have ku1:kd nh (ns.length:Int)=23:=by rw[qA q4 (by omega) (by simp;omega),rk]
   obtain⟨r,gi,gr⟩:=XD (en:=en) hs (u:=(ns.length:Int)) p2 _ a1 nh [v] (awa _) ⟨q2,p2,by omega,q5⟩ ⟨by simp<;>omega,by simpa using q8⟩ (by simp) (by simp<;>omega)
   have hL:Ev fun k=>Ps [(ns.length:Int)] (qu ts en [41] r) d1 (bt k k ts en ((a+1+1+1+1:Nat):Int) (ns++[(23,(tk ts (a+1+1)).2.1,0,(tk ts (a+1+1)).2.2.1,[])]) (d1:Int) 0 0 [(ns.length:Int)]):=
    cq.jY (p2:=fun q k=>Ps [(ns.length:Int)] (qu ts en [41] r) d1 (bt q k ts en ((a+1+1+1+1:Nat):Int) (ns++[(23,(tk ts (a+1+1)).2.1,0,(tk ts (a+1+1)).2.2.1,[])]) (d1:Int) 0 0 [(ns.length:Int)])) (cq.succ ((hr.tj.and gr).mono fun q k e=>by
     obtain⟨⟨_,e2⟩,_,e4⟩:=e;simp only[go_sem,bt,aa,gM hs (w:=[41]) rfl,h1,aDa,aCa,show((((0+1:Nat):Int)) > 1)=False from by simp,show am q ts ((a+1+1+1+1:Nat):Int) en (ns++[(23,(tk ts (a+1+1)).2.1,0,(tk ts (a+1+1)).2.2.1,[])]) (d1:Int) 0 0 1=_ from e2,cu (l:=[(ns.length:Int)]) (v:=v) (by simp),a4a,aYa]
     exact e4))
   have hE:=(hr.and gr.jY).and hL;cases r with
   |er c p=>
    have hc:c≠0:=gi;refine⟨.er c p,gi,hE.mono fun k e=>?_⟩;obtain⟨⟨⟨e1,_⟩,e3,_⟩,l,a',et,d',e4⟩:=e;refine⟨?_,0,a',et,d',?_⟩
    ·simp only[go_sem,uJ,cp,eg,aa,bq,gG,reduceIte,cW b0,hn,aG b1,aG b2,Qq,ham,hu,mH,zT b2,jO b2 bn,bE b3,aG b4,h1,show aj k ts en ((a+1+1+1+1:Nat):Int) (d1:Int) (ns++[(23,(tk ts (a+1+1)).2.1,0,(tk ts (a+1+1)).2.2.1,[])]) 1=_ from e1,cu (l:=[(ns.length:Int)]) (v:=v) (by simp),a4a,aYa]
     simp only[go_sem,show cZ k k ts en _ (a1:Int) (d1:Int) nh=_ from e3]
    ·simp only[go_sem,dY,aa,dO,gb,reduceIte,dj b0,hn,vj,af hs (w:=[91]) rfl b1,af hs (w:=[43,61]) rfl b1,aI hs (w:=[61]) rfl b1,af hs (w:=[38]) rfl b2,rU,zB,Qq,ham,hu,mH,EZ hs (w:=[40]) rfl b2,Li b2 bn hu,tO (jQ hu),aI hs (w:=[40]) rfl b3,e4,fE hc,cg hc]
   |ok l a2 qt=>
    obtain⟨g1,g2,g3,g4,g5,g6,g7,g8⟩:=gi;rw[o9] at g8;have wu2:wt qt (ns.length:Int)=1:=by rw[rT (q4.trans g4) (by omega) (by simp;omega),og];rfl
    have c2:a2≤4000000000000000000:=by omega
    have c21:a2+1≤4000000000000000000:=by omega
    have m2:qt.length≤4000000:=by omega
    have ku2:kd qt (ns.length:Int)=23:=by rw[qA g4 (by omega) (by omega),ku1]
    have ah7:=g4.length_le;cases h3:a6 ts a2 [41] with
    |false=>
     refine⟨.er 6 (pl ts en a2),show(6:Int)≠0 by decide,hE.mono fun k e=>?_⟩
     obtain⟨⟨⟨e1,_⟩,e3,_⟩,e4⟩:=e;simp only[go_sem,qu,h3,reduceIte] at e4;obtain⟨l',a',et,d',e4⟩:=e4;refine⟨?_,0,a',et,d',?_⟩
     ·simp only[go_sem,uJ,cp,eg,aa,bq,gG,reduceIte,cW b0,hn,aG b1,aG b2,Qq,ham,hu,mH,zT b2,jO b2 bn,bE b3,aG b4,h1,show aj k ts en ((a+1+1+1+1:Nat):Int) (d1:Int) (ns++[(23,(tk ts (a+1+1)).2.1,0,(tk ts (a+1+1)).2.2.1,[])]) 1=_ from e1,cu (l:=[(ns.length:Int)]) (v:=v) (by simp),a4a,aYa]
      simp only[go_sem,show cZ k k ts en _ (a1:Int) (d1:Int) nh=_ from e3,bE c2,h3,reduceIte]
     ·simp only[go_sem,dY,aa,dO,gb,reduceIte,dj b0,hn,vj,af hs (w:=[91]) rfl b1,af hs (w:=[43,61]) rfl b1,aI hs (w:=[61]) rfl b1,af hs (w:=[38]) rfl b2,rU,zB,Qq,ham,hu,mH,EZ hs (w:=[40]) rfl b2,Li b2 bn hu,tO (jQ hu),aI hs (w:=[40]) rfl b3,e4,fE (show(6:Int)≠0 by decide),cg (show(6:Int)≠0 by decide)]
    |true=>
    have hl3:=bz h3;cases h4:a6 ts (a2+1) [59] with
    |false=>
     refine⟨.er 6 (pl ts en (a2+1)),show(6:Int)≠0 by decide,hE.mono fun k e=>?_⟩
     obtain⟨⟨⟨e1,_⟩,e3,_⟩,e4⟩:=e;simp only[qu,h3,reduceIte] at e4;refine⟨?_,0,a2+1,qt,d1,?_⟩
     ·simp only[go_sem,uJ,cp,eg,aa,bq,gG,reduceIte,cW b0,hn,aG b1,aG b2,Qq,ham,hu,mH,zT b2,jO b2 bn,bE b3,aG b4,h1,show aj k ts en ((a+1+1+1+1:Nat):Int) (d1:Int) (ns++[(23,(tk ts (a+1+1)).2.1,0,(tk ts (a+1+1)).2.2.1,[])]) 1=_ from e1,cu (l:=[(ns.length:Int)]) (v:=v) (by simp),a4a,aYa]
      simp only[go_sem,show cZ k k ts en _ (a1:Int) (d1:Int) nh=_ from e3,bE c2,bE c21,h3,h4,reduceIte]
     ·simp only[go_sem,dY,aa,dO,gb,reduceIte,dj b0,hn,vj,af hs (w:=[91]) rfl b1,af hs (w:=[43,61]) rfl b1,aI hs (w:=[61]) rfl b1,af hs (w:=[38]) rfl b2,rU,zB,Qq,ham,hu,mH,EZ hs (w:=[40]) rfl b2,Li b2 bn hu,tO (jQ hu),aI hs (w:=[40]) rfl b3,show bt k k ts en ((a+1+1+1+1:Nat):Int) (ns++[(23,(tk ts (a+1+1)).2.1,0,(tk ts (a+1+1)).2.2.1,[])]) (d1:Int) 0 0 [(ns.length:Int)]=_ from e4,aI hs (w:=[41]) rfl c2,aI hs (w:=[59]) rfl c21,h3,h4,cg (show(6:Int)≠0 by decide)]
    |true=>
     have hl4:=bz h4;refine⟨.ok _ (a2+1+1) d1 (qt++[(22,(tk ts a).2.1,0,(tk ts a).2.2.1,[(ns.length:Int)]++l)]),kS (by omega) (by omega) (by omega) ((aLa _ _).trans (q4.trans g4)) g5 ⟨?_,?_,by simp,by simp at g7 ⊢;omega⟩ rfl (by rw[qB,o9,wu2];omega),hE.mono fun k e=>?_⟩
     ·intro j hj
      rcases aoa.1 hj with hj|hj
      ·rw[Q7.1 hj];omega
      ·exact g6.v j hj
     ·have:l.all (fun j=>Bx (kd qt j))=true:=ana.2 g6.c
      simp[cf,ku2];simpa using this
     ·obtain⟨⟨⟨e1,_⟩,e3,_⟩,e4⟩:=e
      simp only[qu,h3,reduceIte] at e4;refine⟨?_,?_⟩
      ·simp only[go_sem,uJ,cp,eg,aa,bq,gG,reduceIte,cW b0,hn,aG b1,aG b2,Qq,ham,hu,mH,zT b2,jO b2 bn,bE b3,aG b4,h1,show aj k ts en ((a+1+1+1+1:Nat):Int) (d1:Int) (ns++[(23,(tk ts (a+1+1)).2.1,0,(tk ts (a+1+1)).2.2.1,[])]) 1=_ from e1,cu (l:=[(ns.length:Int)]) (v:=v) (by simp),a4a,aYa]
       simp only[go_sem,show cZ k k ts en _ (a1:Int) (d1:Int) nh=_ from e3,bE c2,bE c21,h3,h4,reduceIte,ii m2,a4a,aYa]
      ·simp only[go_sem,NZ,dY,aa,dO,gb,reduceIte,dj b0,hn,vj,af hs (w:=[91]) rfl b1,af hs (w:=[43,61]) rfl b1,aI hs (w:=[61]) rfl b1,af hs (w:=[38]) rfl b2,rU,zB,Qq,ham,hu,mH,EZ hs (w:=[40]) rfl b2,Li b2 bn hu,tO (jQ hu),aI hs (w:=[40]) rfl b3,show bt k k ts en ((a+1+1+1+1:Nat):Int) (ns++[(23,(tk ts (a+1+1)).2.1,0,(tk ts (a+1+1)).2.2.1,[])]) (d1:Int) 0 0 [(ns.length:Int)]=_ from e4,aI hs (w:=[41]) rfl c2,aI hs (w:=[59]) rfl c21,h3,h4,fv m2]
 |false=>
 cases hnu:a6 ts (a+1+1) [110,117,108,108] with
 |true=>
  have hl1:=bz hnu;have hk0:uk ts (a+1+1) 1=false:=UD hs rfl (.inl rfl) hnu;simp only[go_sem,cp,eg,dY,aa,bq,gG,dO,gb,a6a,reduceIte,cW b0,hn,aG b1,aG b2,dj b0,vj,af hs (w:=[91]) rfl b1,af hs (w:=[43,61]) rfl b1,aI hs (w:=[61]) rfl b1,af hs (w:=[38]) rfl b2,rU,zB,Qq,ham,hk0,tu b2,gM hs (w:=[110,117,108,108]) rfl,hnu,ii bn,fv bn,ai (show a+1+1<_ by omega)]
  have hx:jz (ns++[(29,pl ts en (a+1+1),0,[],[])]):=p4.add (te rfl (by decide))
  have nu:(ns++[(29,pl ts en (a+1+1),0,[],[])]:List eu).length≤4000000:=by simp;omega
  cases h1:a6 ts (a+1+1+1) [59] with
  |false=>simp only[go_sem,bE b3,aI hs (w:=[59]) rfl b3,h1,reduceIte];exact BS.er (c:=6) (p:=pl ts en (a+1+1+1)) (by decide) ((ff (ts:=ts) (en:=en) (c:=6) (p:=pl ts en (a+1+1+1)) (by decide)).mono fun k e=>⟨rfl,by have hc:(6:Int)≠0:=(by decide);simp only[go_sem,fA,cg hc,aPa,apa]⟩)
  |true=>
  have X8:=bz h1;simp only[go_sem,bE b3,aI hs (w:=[59]) rfl b3,h1,reduceIte];simp only[go_sem,ii nu,fv nu];exact BS.ok (kS (by omega) (by omega) (by simp;omega) (aLa _ _) hx ⟨by simp;omega,by simp[cf,rk],by simp⟩ rfl (by rw[o9,og,zW];simp;omega))
 |false=>
 have ahB:(bif uk ts (a+1+1) 1 then a6 ts (a+1+1+1) [40] else false)=false:=by rw[←mD];cases uk ts (a+1+1) 1<;>rfl
 have pick:∀{α:Type} (f g:α),(bif uk ts (a+1+1) 1 then(bif a6 ts (a+1+1+1) [40] then f else g) else g)=g:=fun f g=>by revert ahB;cases uk ts (a+1+1) 1<;>cases a6 ts (a+1+1+1) [40]<;>simp
 simp only[go_sem,cp,eg,dY,aa,bq,gG,dO,gb,a6a,reduceIte,cW b0,hn,aG b1,aG b2,dj b0,vj,af hs (w:=[91]) rfl b1,af hs (w:=[43,61]) rfl b1,aI hs (w:=[61]) rfl b1,af hs (w:=[38]) rfl b2,rU,zB,Qq,ham,zT b2,EZ hs (w:=[40]) rfl b2,pick,tu b2,gM hs (w:=[110,117,108,108]) rfl,hnu];refine BS.bind (Gk hs (a:=a+1+1) ⟨by omega,p2,by omega,p4⟩) (fun x1 a1 d1 nh g1=>?_) (fun c p hc=>(ff (ts:=ts) (en:=en) (p:=p) hc).mono fun k e v a' et d'=>⟨rfl,by simp only[go_sem,fA,fE hc,cg hc,aPa,apa]⟩)
 obtain⟨q11,q12,rfl,q13,Mi,PL,q16,q17,O5,q19⟩:=g1;have c1:a1≤4000000000000000000:=by omega
 have M1:a1+1≤4000000000000000000:=by omega
 have m1:nh.length≤4000000:=by omega
 cases h1:a6 ts (a1) [59] with
 |false=>simp only[go_sem,bE c1,aI hs (w:=[59]) rfl c1,h1,reduceIte];exact BS.er (c:=6) (p:=pl ts en (a1)) (by decide) ((ff (ts:=ts) (en:=en) (c:=6) (p:=pl ts en (a1)) (by decide)).mono fun k e=>⟨rfl,by have hc:(6:Int)≠0:=(by decide);simp only[go_sem,fA,cg hc,aPa,apa]⟩)
 |true=>
 have X8:=bz h1;simp only[go_sem,bE c1,aI hs (w:=[59]) rfl c1,h1,reduceIte];simp only[go_sem,ii m1,fv m1];exact BS.ok (kS (by omega) (by omega) (by omega) Mi PL ⟨by simp;omega,by simp[cf,O5],by simp⟩ rfl (by rw[o9];exact q19))
end
end Go.Fx.R5
namespace Go.Fx.R5
open Go Go.Fx
section
theorem BS.up{P:Int→Nat→Nat→List eu→Prop}{i:Nat→IT}{s:Nat→ST}(h:BS P i s):BS P (fun k=>i (k+1)) s:=by obtain⟨r,hi,hr⟩:=h;have h1:Ev fun k=>uJ r (i k):=hr.mono fun _ e=>e.1;have h2:Ev fun k=>NZ r (s k):=hr.mono fun _ e=>e.2;exact⟨r,hi,h1.ack.and h2⟩
theorem BS.upS{P:Int→Nat→Nat→List eu→Prop}{i:Nat→IT}{s:Nat→ST}(h:BS P i s):BS P i (fun k=>s (k+1)):=by obtain⟨r,hi,hr⟩:=h;have h1:Ev fun k=>uJ r (i k):=hr.mono fun _ e=>e.1;have h2:Ev fun k=>NZ r (s k):=hr.mono fun _ e=>e.2;exact⟨r,hi,h1.and h2.ack⟩
theorem oe(k:Nat):eC (k+1)=bR (eC k) (mf k) (je k) k:=rfl
theorem JC(k:Nat):mf (k+1)=kj (eC k) (mf k) (je k) k:=rfl
theorem E5(k:Nat):je (k+1)=jN (eC k) (mf k) (je k) k:=rfl
theorem Ja(k:Nat):dg (k+1)=fH (dg k) (db k) (ij k) (gw k) k:=rfl
theorem nU(k:Nat):db (k+1)=bo (dg k) (db k) (ij k) (gw k) k:=rfl
theorem I5(k:Nat):ij (k+1)=iT (dg k) (db k) (ij k) (gw k) k:=rfl
theorem TK(k:Nat):gw (k+1)=kb (dg k) (db k) (ij k) (gw k) k:=rfl
variable {ts:List zK} {en:Int} {c p:Int} {a d:Nat} {ns:List eu}
theorem abL(hc:c≠0):Ev fun k=>∀(a:Nat) (ns:List eu) (d:Int),je k ts (a:Int) en ns d c p=some (0,(a:Int),ns,bh (d+1),c,p,()):=
 Ev.succ (Ev.of fun k a ns d=>by rw[E5];simp only[go_sem,jN,dO,fE hc,Hx hc])
theorem fb(hc:c≠0):Ev fun k=>(∀(a:Nat) (ns:List eu) (d:Int),am k ts (a:Int) en ns d c p 1=some (0,(a:Int),ns,d,c,p,()))∧
  (∀(a:Nat) (ns:List eu) (d:Int),dU k ts (a:Int) en ns d c p=some (0,(a:Int),ns,d,c,p,()))∧(∀(a:Nat) (ns:List eu) (d:Int),je k ts (a:Int) en ns d c p=some (0,(a:Int),ns,bh (d+1),c,p,())):=
 (fl1 hc).and ((Zr hc).and (abL hc))
abbrev StB(ts:List zK)(en:Int)(a d:Nat)(ns:List eu):Prop:=BS (yn ts Pt 1 a d ns) (fun k=>db k ts en (a:Int) (d:Int) ns) (fun k=>eC k ts (a:Int) en ns (d:Int) 0 0)
abbrev BlB(ts:List zK)(en:Int)(a d:Nat)(ns:List eu):Prop:=BS (yn ts (·==8) 1 a d ns) (fun k=>ij k ts en (a:Int) (d:Int) ns) (fun k=>je k ts (a:Int) en ns (d:Int) 0 0)
def Z3(r:O8)(d:Int)(o:Option ((Int×Int×List eu×XI×Unit)⊕(Int×Int×Unit))):Prop:=match r with
 |.ok l a ns=>o=some (.inl (((a+1:Nat):Int),d,ns,l,()))
 |.er c p=>o=some (.inr (c,p,()))
theorem aby(x y:Int):bD [x] [y]=some [x,y]:=by simp[bD]
theorem abz(x y z:Int):bD [x,y] [z]=some [x,y,z]:=by simp[bD]
theorem OL(hs:pp ts)(hd:d≤10){a0:Nat}(IH:∀ a' et,a0≤a'→yo ts a' d et→StB ts en a' d et):∀ m a (ns:List eu) (l:XI),ts.length - a≤m→a0≤a→yo ts a d ns→ja Pt ns l→l.length≤a→
  ∃ r,O7 ts Pt a ns l.length (jM ns l) r∧(∀ l' a' et,r=.ok l' a' et→a6 ts a' [125]=true)∧cq fun q k=>
   Z3 r d (bT (dg q) (db q) (ij q) (gw q) q k ts en (a:Int) (d:Int) ns l)∧
   Ps [] r d (ep (eC q) (mf q) (je q) q k ts en (a:Int) ns (d:Int) 0 0 l):=by
 have h7:=hs.len;intro m;induction m with
 |zero=>
  intro a ns l hm h0 hp hk hl;have b0:a≤4000000000000000000:=by have:=hp.hi;omega
  have bk:l.length≤4000000:=by have:=hp.hi;omega
  have mD:a6 ts a [125]=false:=by
   cases h:a6 ts a [125] with
   |false=>rfl
   |true=>have:=bz h;omega
  obtain⟨r,hi,hr⟩:=IH a ns h0 hp;cases r with
  |er c p=>
   have hc:c≠0:=hi;refine⟨.er c p,hi,(fun _ _ _ h=>by cases h),cq.succ (cq.succ (hr.tj.mono fun q k e=>?_))⟩
   obtain⟨e1,v,a',et,d',e2⟩:=e;refine⟨?_,l++[v],a',et,d',?_⟩
   ·simp only[go_sem,Z3,bT,aG b0,mD,reduceIte,show db q ts en (a:Int) (d:Int) ns=_ from e1]
   ·rw[ep]
    simp only[go_sem,aa,gM hs (w:=[125]) rfl,mD,show eC q ts (a:Int) en ns (d:Int) 0 0=_ from e2,cu bk]
    rw[ep];simp only[go_sem,aa,Q6.2 hc]
  |ok v a1 d1 nh=>have:=hi.lo;have:=hi.hi;have:=hp.hi;omega
 |succ m ih=>
  intro a ns l hm h0 hp hk hl;have b0:a≤4000000000000000000:=by have:=hp.hi;omega
  have bk:l.length≤4000000:=by have:=hp.hi;omega
  cases mD:a6 ts a [125] with
  |true=>
   refine⟨.ok l a ns,⟨by omega,hp.hi,by omega,aXa _,hp.all,hk,by omega,by omega⟩,(fun _ _ _ h=>by cases h;exact mD),cq.succ (cq.of fun q k=>⟨?_,?_⟩)⟩
   ·simp only[go_sem,Z3,bT,aG b0,mD,reduceIte]
   ·simp only[go_sem,Ps,aYa,ep,aa,gM hs (w:=[125]) rfl,mD]
  |false=>
  obtain⟨r,hi,hr⟩:=IH a ns h0 hp;cases r with
  |er c p=>
   have hc:c≠0:=hi;refine⟨.er c p,hi,(fun _ _ _ h=>by cases h),cq.succ (cq.succ (hr.tj.mono fun q k e=>?_))⟩
   obtain⟨e1,v,a',et,d',e2⟩:=e;refine⟨?_,l++[v],a',et,d',?_⟩
   ·simp only[go_sem,Z3,bT,aG b0,mD,reduceIte,show db q ts en (a:Int) (d:Int) ns=_ from e1]
   ·rw[ep]
    simp only[go_sem,aa,gM hs (w:=[125]) rfl,mD,show eC q ts (a:Int) en ns (d:Int) 0 0=_ from e2,cu bk]
    rw[ep];simp only[go_sem,aa,Q6.2 hc]
  |ok v a1 d1 nh=>
   obtain⟨q1,q2,rfl,q3,q4,q5,q6,q7,q8,q9⟩:=hi;obtain⟨r,gi,gx,gr⟩:=ih a1 nh (l++[v]) (by omega) (by omega) ⟨q2,hd,by have:=hp.ln;omega,q5⟩ ((hk.up q4).add q6 q7 q8) (by simp;omega)
   refine⟨r,gi.from (by omega) (by omega) q4 (by simp;omega) (by rw[qB,o9,pS q4 hk.v];omega),gx,cq.succ ((hr.tj.and gr).mono fun q k e=>?_)⟩
   obtain⟨⟨e1,e2⟩,e3,e4⟩:=e;refine⟨?_,?_⟩
   ·simp only[go_sem,bT,aG b0,mD,reduceIte,show db q ts en (a:Int) (d1:Int) ns=_ from e1,cu bk]
    exact e3
   ·simp only[go_sem,ep,aa,gM hs (w:=[125]) rfl,mD,show eC q ts (a:Int) en ns (d1:Int) 0 0=_ from e2,cu bk]
    exact e4
theorem cq.split{p r:Nat→Nat→Prop}(h:cq fun q k=>p q k∧r q k):Ev fun k=>p k k∧r (k+1) (k+1):=by have h1:Ev fun k=>p k k:=(h.mono fun _ _ e=>e.1).jY;have h2:Ev fun k=>r k k:=(h.mono fun _ _ e=>e.2).jY;exact h1.and h2.ack
theorem aa5{ns:List eu}{l:XI}(h:ja Pt ns l):cf 8 (l.map (kd ns))=true:=by have:l.all (fun j=>Pt (kd ns j))=true:=ana.2 h.c;simp[cf];simpa using this
theorem MZ(hs:pp ts)(hp:yo ts a d ns)(IH:∀ a' d' et,a<a'→yo ts a' d' et→StB ts en a' d' et):BlB ts en a d ns:=by
 have h7:=hs.len;obtain⟨p1,p2,p3,p4⟩:=hp;have b0:a≤4000000000000000000:=by omega
 cases mH:a6 ts a [123] with
 |false=>refine BS.succ ?_;simp only[go_sem,I5,E5,iT,jN,bq,dO,reduceIte,bE b0,aI hs (w:=[123]) rfl b0,mH];exact BS.er (c:=6) (p:=pl ts en a) (by decide) (Ev.of fun k=>⟨rfl,by simp only[go_sem,Hx (show(6:Int)≠0 by decide),fA,apa,aPa]⟩)
 |true=>
 have bg:=bz mH;by_cases hd:d<10
 ·obtain⟨r,hi,hx,hr⟩:=OL (en:=en) hs (d:=d+1) (by omega) (a0:=a+1) (fun a' et h p=>IH a' (d+1) et (by omega) p) _ (a+1) ns [] (awa _) (awa _) ⟨by omega,by omega,by omega,p4⟩ ja.nil (by simp)
  have hr:=hr.split;cases r with
  |er c p=>
   have hc:c≠0:=hi;refine⟨.er c p,hi,Ev.succ (Ev.succ (hr.mono fun k e=>?_))⟩;obtain⟨e1,l',a',et,d',e2⟩:=e;refine⟨?_,0,a',et,bh (d' - 1),?_⟩
   ·simp only[go_sem,uJ,I5 (k+1),iT,bq,a6a,reduceIte,bE b0,gN p2,mH,hd,Ja,fH]
    simp only[go_sem,show bT _ _ _ _ k k ts en ((a+1:Nat):Int) ((d+1:Nat):Int) ns []=_ from e1]
   ·simp only[go_sem,E5 (k+1),jN,dO,reduceIte,aI hs (w:=[123]) rfl b0,lY p2,mH,hd,e2,fE hc,cg hc]
  |ok l' a' et=>
   obtain⟨g1,g2,g3,g4,g5,g6,g7,g8⟩:=hi;rw[zW] at g8;have mD:=hx _ _ _ rfl;have hl:=bz mD;have b4:a'≤4000000000000000000:=by omega
   have M0:et.length≤4000000:=by omega
   refine⟨.ok _ (a' + 1) d (et++[(8,pl ts en a,0,[],l')]),kS (by omega) (by omega) (by omega) g4 g5 ⟨g6.v,aa5 g6,by simp,by simp at g7 ⊢;omega⟩ rfl g8,Ev.succ (Ev.succ (hr.mono fun k e=>?_))⟩
   obtain⟨e1,e2⟩:=e;refine⟨?_,?_⟩
   ·simp only[go_sem,uJ,I5 (k+1),iT,bq,a6a,reduceIte,bE b0,gN p2,mH,hd,Ja,fH]
    simp only[go_sem,show bT _ _ _ _ k k ts en ((a+1:Nat):Int) ((d+1:Nat):Int) ns []=_ from e1,ii M0,kC (show d≤_ by omega)]
   ·simp only[go_sem,NZ,E5 (k+1),jN,dO,reduceIte,aI hs (w:=[123]) rfl b0,lY p2,mH,hd]
    simp only[go_sem,show ep _ _ _ (k+1) (k+1) ts en ((a+1:Nat):Int) ns ((d+1:Nat):Int) 0 0 []=_ from e2,aI hs (w:=[125]) rfl b4,mD,reduceIte,fv M0,aYa,kC (show d≤_ by omega)]
 ·refine BS.succ ?_
  simp only[go_sem,I5,E5,iT,jN,bq,dO,reduceIte,bE b0,aI hs (w:=[123]) rfl b0,gN p2,lY p2,mH,hd];exact BS.er (c:=7) (p:=pl ts en (a+1)) (by decide) (Ev.of fun k=>⟨rfl,by simp only[fA,apa,aPa]⟩)
theorem Rc(hs:pp ts)(hp:yo ts a d ns)(IH:∀ a' d' et,a<a'→yo ts a' d' et→BlB ts en a' d' et):StB ts en a d ns:=by
 have h7:=hs.len;have AF:=hp;obtain⟨p1,p2,p3,p4⟩:=hp;have b0:a≤4000000000000000000:=by omega
 have b1:a+1≤4000000000000000000:=by omega
 have b2:a+1+1≤4000000000000000000:=by omega
 have b3:a+1+1+1≤4000000000000000000:=by omega
 have bn:ns.length≤4000000:=by omega
 cases hn:uk ts a 1 with
 |true=>refine BS.succ ?_;simp only[go_sem,nU,oe,bo,bR,aa,bq,gG,dO,gb,hn];exact BS.bind (aa3 hs AF hn) (fun v a1 d1 nh g=>BS.ok g) (fun c p hc=>Ev.of fun k v a' et d'=>⟨rfl,by simp only[fA,apa,aPa]⟩)
 |false=>
 cases AA:a6 ts a [42] with
 |true=>
  have hl0:=bz AA;refine BS.succ ?_;cases hm:uk ts (a+1) 1 with
  |false=>
   simp only[go_sem,nU,oe,bo,bR,aa,bq,gG,dO,gb,reduceIte,hn,aG b0,af hs (w:=[42]) rfl b0,gM hs (w:=[105,102]) rfl,gM hs (w:=[119,104,105,108,101]) rfl,gM hs (w:=[102,111,114]) rfl,show a6 ts a [105,102]=false from aZ AA rfl,show a6 ts a [119,104,105,108,101]=false from aZ AA rfl,show a6 ts a [102,111,114]=false from aZ AA rfl,AA,cW b1,dj b1,hm]
   exact BS.er (c:=6) (p:=pl ts en (a+1)) (by decide) ((fb (ts:=ts) (en:=en) (c:=6) (p:=pl ts en (a+1)) (by decide)).mono fun k e=>⟨rfl,by have hc:(6:Int)≠0:=(by decide);simp only[go_sem,fA,fE hc,cg hc,e.1,aPa,apa]⟩)
  |true=>
  have hl1:=jQ hm;simp only[go_sem,nU,oe,bo,bR,aa,bq,gG,dO,gb,reduceIte,hn,aG b0,af hs (w:=[42]) rfl b0,gM hs (w:=[105,102]) rfl,gM hs (w:=[119,104,105,108,101]) rfl,gM hs (w:=[102,111,114]) rfl,show a6 ts a [105,102]=false from aZ AA rfl,show a6 ts a [119,104,105,108,101]=false from aZ AA rfl,show a6 ts a [102,111,114]=false from aZ AA rfl,AA,cW b1,dj b1,hm]
  cases h1:a6 ts (a+1+1) [61] with
  |false=>simp only[go_sem,bE b2,aI hs (w:=[61]) rfl b2,h1,reduceIte];exact BS.er (c:=6) (p:=pl ts en (a+1+1)) (by decide) ((fb (ts:=ts) (en:=en) (c:=6) (p:=pl ts en (a+1+1)) (by decide)).mono fun k e=>⟨rfl,by have hc:(6:Int)≠0:=(by decide);simp only[go_sem,fA,fE hc,cg hc,e.1,aPa,apa]⟩)
  |true=>
  have X8:=bz h1;simp only[go_sem,bE b2,aI hs (w:=[61]) rfl b2,h1,reduceIte];refine BS.bind (Gk hs (a:=a+1+1+1) ⟨by omega,p2,by omega,p4⟩) (fun x1 a1 d1 nh g1=>?_) (fun c p hc=>(fb (ts:=ts) (en:=en) (p:=p) hc).mono fun k e v a' et d'=>⟨rfl,by simp only[go_sem,fA,fE hc,cg hc,aPa,apa]⟩)
  obtain⟨q11,q12,rfl,q13,Mi,PL,q16,q17,O5,q19⟩:=g1;have c1:a1≤4000000000000000000:=by omega
  have M1:a1+1≤4000000000000000000:=by omega
  have m1:nh.length≤4000000:=by omega
  cases h2:a6 ts (a1) [59] with
  |false=>simp only[go_sem,bE c1,aI hs (w:=[59]) rfl c1,h2,reduceIte];exact BS.er (c:=6) (p:=pl ts en (a1)) (by decide) ((fb (ts:=ts) (en:=en) (c:=6) (p:=pl ts en (a1)) (by decide)).mono fun k e=>⟨rfl,by have hc:(6:Int)≠0:=(by decide);simp only[go_sem,fA,cg hc,aPa,apa]⟩)
  |true=>
  have TE:=bz h2;simp only[go_sem,bE c1,aI hs (w:=[59]) rfl c1,h2,reduceIte];simp only[go_sem,ii m1,fv m1];exact BS.ok (kS (by omega) (by omega) (by omega) Mi PL ⟨by simp;omega,by simpa[cf] using O5,by simp⟩ rfl (by rw[o9];exact q19))
 |false=>
 cases NE:a6 ts a [105,102] with
 |true=>
  have hl0:=bz NE;refine BS.succ (BS.succ ?_);simp only[go_sem,nU (_+1),oe (_+1),bo,bR,JC,kj,aa,bq,gG,dO,gb,a6a,reduceIte,hn,aby,abz,aG b0,af hs (w:=[42]) rfl b0,gM hs (w:=[105,102]) rfl,af hs (w:=[105,102]) rfl b0,gM hs (w:=[119,104,105,108,101]) rfl,gM hs (w:=[102,111,114]) rfl,af hs (w:=[114,101,97,100]) rfl b0,af hs (w:=[112,114,105,110,116]) rfl b0,af hs (w:=[97,115,115,101,114,116]) rfl b0,af hs (w:=[115,116,111,112]) rfl b0,af hs (w:=[114,101,116,117,114,110]) rfl b0,show a6 ts a [42]=false from aZ NE rfl,show a6 ts a [119,104,105,108,101]=false from aZ NE rfl,show a6 ts a [102,111,114]=false from aZ NE rfl,show a6 ts a [114,101,97,100]=false from aZ NE rfl,show a6 ts a [112,114,105,110,116]=false from aZ NE rfl,show a6 ts a [97,115,115,101,114,116]=false from aZ NE rfl,show a6 ts a [115,116,111,112]=false from aZ NE rfl,show a6 ts a [114,101,116,117,114,110]=false from aZ NE rfl,NE]
  refine BS.bind ((YP hs (a:=a+1) ⟨by omega,p2,by omega,p4⟩).up) (fun x1 a1 d1 nh g1=>?_) (fun c p hc=>(fb (ts:=ts) (en:=en) (p:=p) hc).mono fun k e v a' et d'=>⟨rfl,by simp only[go_sem,fA,Ax hc,cg hc,e.2.2,aPa,apa]⟩)
  obtain⟨q11,q12,rfl,q13,Mi,PL,q16,q17,O5,q19⟩:=g1;have c1:a1≤4000000000000000000:=by omega
  have M1:a1+1≤4000000000000000000:=by omega
  have m1:nh.length≤4000000:=by omega
  refine BS.bind ((IH (a1) _ _ (by omega) ⟨by omega,p2,by omega,PL⟩).up) (fun x2 a2 d2 qt g2=>?_) (fun c p hc=>(fb (ts:=ts) (en:=en) (p:=p) hc).mono fun k e v a' et d'=>⟨rfl,by simp only[go_sem,fA,Ax hc,cg hc,e.2.2,aPa,apa]⟩)
  obtain⟨q21,q22,rfl,q23,OC,q25,q26,q27,q28,q29⟩:=g2;have c2:a2≤4000000000000000000:=by omega
  have c21:a2+1≤4000000000000000000:=by omega
  have m2:qt.length≤4000000:=by omega
  cases hel:a6 ts a2 [101,108,115,101] with
  |true=>
   have hl1:=bz hel;simp only[go_sem,a6a,reduceIte,aG c2,af hs (w:=[101,108,115,101]) rfl c2,hel];refine BS.bind ((IH (a2+1) _ _ (by omega) ⟨by omega,p2,by omega,q25⟩).up) (fun x3 a3 d3 MC g3=>?_) (fun c p hc=>(fb (ts:=ts) (en:=en) (p:=p) hc).mono fun k e v a' et d'=>⟨rfl,by simp only[go_sem,fA,cg hc,aPa,apa]⟩)
   obtain⟨q31,q32,rfl,q33,q34,q35,q36,q37,q38,q39⟩:=g3;have c3:a3≤4000000000000000000:=by omega
   have c31:a3+1≤4000000000000000000:=by omega
   have m3:MC.length≤4000000:=by omega
   simp only[go_sem,ii m3,fv m3];exact BS.ok (kS (by omega) (by omega) (by omega) (Mi.trans (OC.trans q34)) q35 ⟨by simp;have:=OC.length_le;have:=q34.length_le;omega,by simp[cf,O5,a9a.1 q28,a9a.1 q38,qA (OC.trans q34) q16 q17,qA q34 q26 q27],by simp⟩ rfl (by rw[Qw,rT (OC.trans q34) q16 q17,rT q34 q26 q27];omega))
  |false=>simp only[go_sem,reduceIte,aG c2,af hs (w:=[101,108,115,101]) rfl c2,hel,ii m2,fv m2];exact BS.ok (kS (by omega) (by omega) (by omega) (Mi.trans OC) q25 ⟨by simp;have:=OC.length_le;omega,by simp[cf,O5,a9a.1 q28,qA OC q16 q17],by simp⟩ rfl (by rw[yG,rT OC q16 q17];omega))
 |false=>
 cases ue:a6 ts a [119,104,105,108,101] with
 |true=>
  have hl0:=bz ue;refine BS.succ (BS.succ ?_);simp only[go_sem,nU (_+1),oe (_+1),bo,bR,JC,kj,aa,bq,gG,dO,gb,a6a,reduceIte,hn,aby,abz,aG b0,af hs (w:=[42]) rfl b0,gM hs (w:=[105,102]) rfl,af hs (w:=[105,102]) rfl b0,gM hs (w:=[119,104,105,108,101]) rfl,af hs (w:=[119,104,105,108,101]) rfl b0,gM hs (w:=[102,111,114]) rfl,af hs (w:=[114,101,97,100]) rfl b0,af hs (w:=[112,114,105,110,116]) rfl b0,af hs (w:=[97,115,115,101,114,116]) rfl b0,af hs (w:=[115,116,111,112]) rfl b0,af hs (w:=[114,101,116,117,114,110]) rfl b0,show a6 ts a [42]=false from aZ ue rfl,show a6 ts a [105,102]=false from aZ ue rfl,show a6 ts a [102,111,114]=false from aZ ue rfl,show a6 ts a [114,101,97,100]=false from aZ ue rfl,show a6 ts a [112,114,105,110,116]=false from aZ ue rfl,show a6 ts a [97,115,115,101,114,116]=false from aZ ue rfl,show a6 ts a [115,116,111,112]=false from aZ ue rfl,show a6 ts a [114,101,116,117,114,110]=false from aZ ue rfl,ue]
  refine BS.bind ((YP hs (a:=a+1) ⟨by omega,p2,by omega,p4⟩).up) (fun x1 a1 d1 nh g1=>?_) (fun c p hc=>(fb (ts:=ts) (en:=en) (p:=p) hc).mono fun k e v a' et d'=>⟨rfl,by simp only[go_sem,fA,cg hc,e.2.2,aPa,apa]⟩)
  obtain⟨q11,q12,rfl,q13,Mi,PL,q16,q17,O5,q19⟩:=g1;have c1:a1≤4000000000000000000:=by omega
  have M1:a1+1≤4000000000000000000:=by omega
  have m1:nh.length≤4000000:=by omega
  refine BS.bind ((IH (a1) _ _ (by omega) ⟨by omega,p2,by omega,PL⟩).up) (fun x2 a2 d2 qt g2=>?_) (fun c p hc=>(fb (ts:=ts) (en:=en) (p:=p) hc).mono fun k e v a' et d'=>⟨rfl,by simp only[go_sem,fA,cg hc,aPa,apa]⟩)
  obtain⟨q21,q22,rfl,q23,OC,q25,q26,q27,q28,q29⟩:=g2;have c2:a2≤4000000000000000000:=by omega
  have c21:a2+1≤4000000000000000000:=by omega
  have m2:qt.length≤4000000:=by omega
  simp only[go_sem,ii m2,fv m2];exact BS.ok (kS (by omega) (by omega) (by omega) (Mi.trans OC) q25 ⟨by simp;have:=OC.length_le;omega,by simp[cf,O5,a9a.1 q28,qA OC q16 q17],by simp⟩ rfl (by rw[yG,rT OC q16 q17];omega))
 |false=>
 cases tD:a6 ts a [102,111,114] with
 |true=>
  have hl0:=bz tD;refine BS.succ (BS.succ ?_);cases hm:uk ts (a+1) 1 with
  |false=>
   simp only[go_sem,nU (_+1),oe (_+1),bo,bR,JC,kj,aa,bq,gG,dO,gb,a6a,reduceIte,hn,aI hs (w:=[102,111,114]) rfl b0,aby,abz,aG b0,af hs (w:=[42]) rfl b0,gM hs (w:=[105,102]) rfl,af hs (w:=[105,102]) rfl b0,gM hs (w:=[119,104,105,108,101]) rfl,af hs (w:=[119,104,105,108,101]) rfl b0,gM hs (w:=[102,111,114]) rfl,af hs (w:=[114,101,97,100]) rfl b0,af hs (w:=[112,114,105,110,116]) rfl b0,af hs (w:=[97,115,115,101,114,116]) rfl b0,af hs (w:=[115,116,111,112]) rfl b0,af hs (w:=[114,101,116,117,114,110]) rfl b0,show a6 ts a [42]=false from aZ tD rfl,show a6 ts a [105,102]=false from aZ tD rfl,show a6 ts a [119,104,105,108,101]=false from aZ tD rfl,show a6 ts a [114,101,97,100]=false from aZ tD rfl,show a6 ts a [112,114,105,110,116]=false from aZ tD rfl,show a6 ts a [97,115,115,101,114,116]=false from aZ tD rfl,show a6 ts a [115,116,111,112]=false from aZ tD rfl,show a6 ts a [114,101,116,117,114,110]=false from aZ tD rfl,tD,TK,kb,cW b1,dj b1,hm]
   exact BS.er (c:=6) (p:=pl ts en (a+1)) (by decide) ((fb (ts:=ts) (en:=en) (c:=6) (p:=pl ts en (a+1)) (by decide)).mono fun k e=>⟨rfl,by have hc:(6:Int)≠0:=(by decide);simp only[go_sem,fA,fE hc,cg hc,e.1,e.2.2,aPa,apa]⟩)
  |true=>
  have hl1:=jQ hm;simp only[go_sem,nU (_+1),oe (_+1),bo,bR,JC,kj,aa,bq,gG,dO,gb,a6a,reduceIte,hn,aI hs (w:=[102,111,114]) rfl b0,aby,abz,aG b0,af hs (w:=[42]) rfl b0,gM hs (w:=[105,102]) rfl,af hs (w:=[105,102]) rfl b0,gM hs (w:=[119,104,105,108,101]) rfl,af hs (w:=[119,104,105,108,101]) rfl b0,gM hs (w:=[102,111,114]) rfl,af hs (w:=[114,101,97,100]) rfl b0,af hs (w:=[112,114,105,110,116]) rfl b0,af hs (w:=[97,115,115,101,114,116]) rfl b0,af hs (w:=[115,116,111,112]) rfl b0,af hs (w:=[114,101,116,117,114,110]) rfl b0,show a6 ts a [42]=false from aZ tD rfl,show a6 ts a [105,102]=false from aZ tD rfl,show a6 ts a [119,104,105,108,101]=false from aZ tD rfl,show a6 ts a [114,101,97,100]=false from aZ tD rfl,show a6 ts a [112,114,105,110,116]=false from aZ tD rfl,show a6 ts a [97,115,115,101,114,116]=false from aZ tD rfl,show a6 ts a [115,116,111,112]=false from aZ tD rfl,show a6 ts a [114,101,116,117,114,110]=false from aZ tD rfl,tD,TK,kb,cW b1,dj b1,hm,tO hl1]
  cases h1:a6 ts (a+1+1) [61] with
  |false=>simp only[go_sem,bE b2,aI hs (w:=[61]) rfl b2,h1,reduceIte];exact BS.er (c:=6) (p:=pl ts en (a+1+1)) (by decide) ((fb (ts:=ts) (en:=en) (c:=6) (p:=pl ts en (a+1+1)) (by decide)).mono fun k e=>⟨rfl,by have hc:(6:Int)≠0:=(by decide);simp only[go_sem,fA,fE hc,cg hc,e.1,e.2.2,aPa,apa]⟩)
  |true=>
  have X8:=bz h1;simp only[go_sem,bE b2,aI hs (w:=[61]) rfl b2,h1,a6a,reduceIte];refine BS.bind (Gk hs (a:=a+1+1+1) ⟨by omega,p2,by omega,p4⟩) (fun x1 a1 d1 nh g1=>?_) (fun c p hc=>(fb (ts:=ts) (en:=en) (p:=p) hc).mono fun k e v a' et d'=>⟨rfl,by simp only[go_sem,fA,fE hc,cg hc,e.1,e.2.2,aPa,apa]⟩)
  obtain⟨q11,q12,rfl,q13,Mi,PL,q16,q17,O5,q19⟩:=g1;have c1:a1≤4000000000000000000:=by omega
  have M1:a1+1≤4000000000000000000:=by omega
  have m1:nh.length≤4000000:=by omega
  cases h2:a6 ts (a1) [46,46] with
  |false=>simp only[go_sem,bE c1,aI hs (w:=[46,46]) rfl c1,h2,reduceIte];exact BS.er (c:=6) (p:=pl ts en (a1)) (by decide) ((fb (ts:=ts) (en:=en) (c:=6) (p:=pl ts en (a1)) (by decide)).mono fun k e=>⟨rfl,by have hc:(6:Int)≠0:=(by decide);simp only[go_sem,fA,cg hc,e.1,e.2.2,aPa,apa]⟩)
  |true=>
  have TE:=bz h2;simp only[go_sem,bE c1,aI hs (w:=[46,46]) rfl c1,h2,a6a,reduceIte];refine BS.bind (Gk hs (a:=a1+1) ⟨by omega,p2,by omega,PL⟩) (fun x2 a2 d2 qt g2=>?_) (fun c p hc=>(fb (ts:=ts) (en:=en) (p:=p) hc).mono fun k e v a' et d'=>⟨rfl,by simp only[go_sem,fA,cg hc,e.2.2,aPa,apa]⟩)
  obtain⟨q21,q22,rfl,q23,OC,q25,q26,q27,q28,q29⟩:=g2;have c2:a2≤4000000000000000000:=by omega
  have c21:a2+1≤4000000000000000000:=by omega
  have m2:qt.length≤4000000:=by omega
  simp only[go_sem,a6a];refine BS.bind (IH (a2) _ _ (by omega) ⟨by omega,p2,by omega,q25⟩) (fun x3 a3 d3 MC g3=>?_) (fun c p hc=>(fb (ts:=ts) (en:=en) (p:=p) hc).mono fun k e v a' et d'=>⟨rfl,by simp only[go_sem,fA,cg hc,aPa,apa]⟩)
  obtain⟨q31,q32,rfl,q33,q34,q35,q36,q37,q38,q39⟩:=g3;have c3:a3≤4000000000000000000:=by omega
  have c31:a3+1≤4000000000000000000:=by omega
  have m3:MC.length≤4000000:=by omega
  simp only[go_sem,ii m3,fv m3];exact BS.ok (kS (by omega) (by omega) (by omega) (Mi.trans (OC.trans q34)) q35 ⟨by simp;have:=OC.length_le;have:=q34.length_le;omega,by simp[cf,O5,q28,a9a.1 q38,qA (OC.trans q34) q16 q17,qA q34 q26 q27],by simp⟩ rfl (by rw[Qw,rT (OC.trans q34) q16 q17,rT q34 q26 q27];omega))
 |false=>
 refine BS.succ ?_;cases wM:a6 ts a [114,101,97,100] with
 |true=>
  have hl0:=bz wM;cases hm:uk ts (a+1) 1 with
  |false=>
   simp only[go_sem,nU,oe,bo,bR,aa,bq,gG,dO,gb,reduceIte,hn,aG b0,af hs (w:=[42]) rfl b0,gM hs (w:=[105,102]) rfl,gM hs (w:=[119,104,105,108,101]) rfl,gM hs (w:=[102,111,114]) rfl,af hs (w:=[114,101,97,100]) rfl b0,show a6 ts a [42]=false from aZ wM rfl,show a6 ts a [105,102]=false from aZ wM rfl,show a6 ts a [119,104,105,108,101]=false from aZ wM rfl,show a6 ts a [102,111,114]=false from aZ wM rfl,wM,cW b1,dj b1,hm]
   exact BS.er (c:=6) (p:=pl ts en (a+1)) (by decide) ((fb (ts:=ts) (en:=en) (c:=6) (p:=pl ts en (a+1)) (by decide)).mono fun k e=>⟨rfl,by have hc:(6:Int)≠0:=(by decide);simp only[go_sem,fA,fE hc,cg hc,aPa,apa]⟩)
  |true=>
  have hl1:=jQ hm;simp only[go_sem,nU,oe,bo,bR,aa,bq,gG,dO,gb,reduceIte,hn,aG b0,af hs (w:=[42]) rfl b0,gM hs (w:=[105,102]) rfl,gM hs (w:=[119,104,105,108,101]) rfl,gM hs (w:=[102,111,114]) rfl,af hs (w:=[114,101,97,100]) rfl b0,show a6 ts a [42]=false from aZ wM rfl,show a6 ts a [105,102]=false from aZ wM rfl,show a6 ts a [119,104,105,108,101]=false from aZ wM rfl,show a6 ts a [102,111,114]=false from aZ wM rfl,wM,cW b1,dj b1,hm,kC (d:=a+1) b1,bf (iA hl1),tO hl1]
  cases h2:a6 ts (a+1+1) [59] with
  |false=>simp only[go_sem,bE b2,aI hs (w:=[59]) rfl b2,h2,reduceIte];exact BS.er (c:=6) (p:=pl ts en (a+1+1)) (by decide) ((fb (ts:=ts) (en:=en) (c:=6) (p:=pl ts en (a+1+1)) (by decide)).mono fun k e=>⟨rfl,by have hc:(6:Int)≠0:=(by decide);simp only[go_sem,fA,cg hc,aPa,apa]⟩)
  |true=>
  have TE:=bz h2;simp only[go_sem,bE b2,aI hs (w:=[59]) rfl b2,h2,reduceIte];simp only[go_sem,ii bn,fv bn];exact BS.ok (kS (by omega) (by omega) (by omega) (aXa _) p4 (te rfl (by decide)) rfl (by simp[jM]))
 |false=>
 cases zS:a6 ts a [112,114,105,110,116] with
 |true=>
  have hl0:=bz zS;simp only[go_sem,nU,oe,bo,bR,aa,bq,gG,dO,gb,reduceIte,hn,aG b0,af hs (w:=[42]) rfl b0,gM hs (w:=[105,102]) rfl,gM hs (w:=[119,104,105,108,101]) rfl,gM hs (w:=[102,111,114]) rfl,af hs (w:=[114,101,97,100]) rfl b0,af hs (w:=[112,114,105,110,116]) rfl b0,show a6 ts a [42]=false from aZ zS rfl,show a6 ts a [105,102]=false from aZ zS rfl,show a6 ts a [119,104,105,108,101]=false from aZ zS rfl,show a6 ts a [102,111,114]=false from aZ zS rfl,show a6 ts a [114,101,97,100]=false from aZ zS rfl,zS]
  refine BS.bind (Gk hs (a:=a+1) ⟨by omega,p2,by omega,p4⟩) (fun x1 a1 d1 nh g1=>?_) (fun c p hc=>(fb (ts:=ts) (en:=en) (p:=p) hc).mono fun k e v a' et d'=>⟨rfl,by simp only[go_sem,fA,fE hc,cg hc,aPa,apa]⟩)
  obtain⟨q11,q12,rfl,q13,Mi,PL,q16,q17,O5,q19⟩:=g1;have c1:a1≤4000000000000000000:=by omega
  have M1:a1+1≤4000000000000000000:=by omega
  have m1:nh.length≤4000000:=by omega
  cases h2:a6 ts (a1) [59] with
  |false=>simp only[go_sem,bE c1,aI hs (w:=[59]) rfl c1,h2,reduceIte];exact BS.er (c:=6) (p:=pl ts en (a1)) (by decide) ((fb (ts:=ts) (en:=en) (c:=6) (p:=pl ts en (a1)) (by decide)).mono fun k e=>⟨rfl,by have hc:(6:Int)≠0:=(by decide);simp only[go_sem,fA,cg hc,aPa,apa]⟩)
  |true=>
  have TE:=bz h2;simp only[go_sem,bE c1,aI hs (w:=[59]) rfl c1,h2,reduceIte];simp only[go_sem,ii m1,fv m1];exact BS.ok (kS (by omega) (by omega) (by omega) Mi PL ⟨by simp;omega,by simpa[cf] using O5,by simp⟩ rfl (by rw[o9];exact q19))
 |false=>
 cases ud:a6 ts a [97,115,115,101,114,116] with
 |true=>
  have hl0:=bz ud;simp only[go_sem,nU,oe,bo,bR,aa,bq,gG,dO,gb,reduceIte,hn,aG b0,af hs (w:=[42]) rfl b0,gM hs (w:=[105,102]) rfl,gM hs (w:=[119,104,105,108,101]) rfl,gM hs (w:=[102,111,114]) rfl,af hs (w:=[114,101,97,100]) rfl b0,af hs (w:=[112,114,105,110,116]) rfl b0,af hs (w:=[97,115,115,101,114,116]) rfl b0,show a6 ts a [42]=false from aZ ud rfl,show a6 ts a [105,102]=false from aZ ud rfl,show a6 ts a [119,104,105,108,101]=false from aZ ud rfl,show a6 ts a [102,111,114]=false from aZ ud rfl,show a6 ts a [114,101,97,100]=false from aZ ud rfl,show a6 ts a [112,114,105,110,116]=false from aZ ud rfl,ud]
  refine BS.bind (YP hs (a:=a+1) ⟨by omega,p2,by omega,p4⟩) (fun x1 a1 d1 nh g1=>?_) (fun c p hc=>(fb (ts:=ts) (en:=en) (p:=p) hc).mono fun k e v a' et d'=>⟨rfl,by simp only[go_sem,fA,fE hc,cg hc,aPa,apa]⟩)
  obtain⟨q11,q12,rfl,q13,Mi,PL,q16,q17,O5,q19⟩:=g1;have c1:a1≤4000000000000000000:=by omega
  have M1:a1+1≤4000000000000000000:=by omega
  have m1:nh.length≤4000000:=by omega
  cases h2:a6 ts (a1) [59] with
  |false=>simp only[go_sem,bE c1,aI hs (w:=[59]) rfl c1,h2,reduceIte];exact BS.er (c:=6) (p:=pl ts en (a1)) (by decide) ((fb (ts:=ts) (en:=en) (c:=6) (p:=pl ts en (a1)) (by decide)).mono fun k e=>⟨rfl,by have hc:(6:Int)≠0:=(by decide);simp only[go_sem,fA,cg hc,aPa,apa]⟩)
  |true=>
  have TE:=bz h2;simp only[go_sem,bE c1,aI hs (w:=[59]) rfl c1,h2,reduceIte];simp only[go_sem,ii m1,fv m1];exact BS.ok (kS (by omega) (by omega) (by omega) Mi PL ⟨by simp;omega,by simpa[cf] using O5,by simp⟩ rfl (by rw[o9];exact q19))
 |false=>
 cases AB:a6 ts a [115,116,111,112] with
 |true=>
  have hl0:=bz AB;simp only[go_sem,nU,oe,bo,bR,aa,bq,gG,dO,gb,reduceIte,hn,aG b0,af hs (w:=[42]) rfl b0,gM hs (w:=[105,102]) rfl,gM hs (w:=[119,104,105,108,101]) rfl,gM hs (w:=[102,111,114]) rfl,af hs (w:=[114,101,97,100]) rfl b0,af hs (w:=[112,114,105,110,116]) rfl b0,af hs (w:=[97,115,115,101,114,116]) rfl b0,af hs (w:=[115,116,111,112]) rfl b0,show a6 ts a [42]=false from aZ AB rfl,show a6 ts a [105,102]=false from aZ AB rfl,show a6 ts a [119,104,105,108,101]=false from aZ AB rfl,show a6 ts a [102,111,114]=false from aZ AB rfl,show a6 ts a [114,101,97,100]=false from aZ AB rfl,show a6 ts a [112,114,105,110,116]=false from aZ AB rfl,show a6 ts a [97,115,115,101,114,116]=false from aZ AB rfl,AB]
  cases h2:a6 ts (a+1) [59] with
  |false=>simp only[go_sem,bE b1,aI hs (w:=[59]) rfl b1,h2,reduceIte];exact BS.er (c:=6) (p:=pl ts en (a+1)) (by decide) ((fb (ts:=ts) (en:=en) (c:=6) (p:=pl ts en (a+1)) (by decide)).mono fun k e=>⟨rfl,by have hc:(6:Int)≠0:=(by decide);simp only[go_sem,fA,cg hc,aPa,apa]⟩)
  |true=>
  have TE:=bz h2;simp only[go_sem,bE b1,aI hs (w:=[59]) rfl b1,h2,reduceIte];simp only[go_sem,ii bn,fv bn];exact BS.ok (kS (by omega) (by omega) (by omega) (aXa _) p4 (te rfl (by decide)) rfl (by simp[jM]))
 |false=>
 cases qx:a6 ts a [114,101,116,117,114,110] with
 |true=>
  have hl0:=bz qx;simp only[go_sem,nU,oe,bo,bR,aa,bq,gG,dO,gb,reduceIte,hn,aG b0,af hs (w:=[42]) rfl b0,gM hs (w:=[105,102]) rfl,gM hs (w:=[119,104,105,108,101]) rfl,gM hs (w:=[102,111,114]) rfl,af hs (w:=[114,101,97,100]) rfl b0,af hs (w:=[112,114,105,110,116]) rfl b0,af hs (w:=[97,115,115,101,114,116]) rfl b0,af hs (w:=[115,116,111,112]) rfl b0,af hs (w:=[114,101,116,117,114,110]) rfl b0,show a6 ts a [42]=false from aZ qx rfl,show a6 ts a [105,102]=false from aZ qx rfl,show a6 ts a [119,104,105,108,101]=false from aZ qx rfl,show a6 ts a [102,111,114]=false from aZ qx rfl,show a6 ts a [114,101,97,100]=false from aZ qx rfl,show a6 ts a [112,114,105,110,116]=false from aZ qx rfl,show a6 ts a [97,115,115,101,114,116]=false from aZ qx rfl,show a6 ts a [115,116,111,112]=false from aZ qx rfl,qx]
  refine BS.bind (Gk hs (a:=a+1) ⟨by omega,p2,by omega,p4⟩) (fun x1 a1 d1 nh g1=>?_) (fun c p hc=>(fb (ts:=ts) (en:=en) (p:=p) hc).mono fun k e v a' et d'=>⟨rfl,by simp only[go_sem,fA,fE hc,cg hc,aPa,apa]⟩)
  obtain⟨q11,q12,rfl,q13,Mi,PL,q16,q17,O5,q19⟩:=g1;have c1:a1≤4000000000000000000:=by omega
  have M1:a1+1≤4000000000000000000:=by omega
  have m1:nh.length≤4000000:=by omega
  cases h2:a6 ts (a1) [59] with
  |false=>simp only[go_sem,bE c1,aI hs (w:=[59]) rfl c1,h2,reduceIte];exact BS.er (c:=6) (p:=pl ts en (a1)) (by decide) ((fb (ts:=ts) (en:=en) (c:=6) (p:=pl ts en (a1)) (by decide)).mono fun k e=>⟨rfl,by have hc:(6:Int)≠0:=(by decide);simp only[go_sem,fA,cg hc,aPa,apa]⟩)
  |true=>
  have TE:=bz h2;simp only[go_sem,bE c1,aI hs (w:=[59]) rfl c1,h2,reduceIte];simp only[go_sem,ii m1,fv m1];exact BS.ok (kS (by omega) (by omega) (by omega) Mi PL ⟨by simp;omega,by simpa[cf] using O5,by simp⟩ rfl (by rw[o9];exact q19))
 |false=>simp only[go_sem,nU,oe,bo,bR,aa,bq,gG,dO,gb,reduceIte,hn,aG b0,af hs (w:=[42]) rfl b0,gM hs (w:=[105,102]) rfl,gM hs (w:=[119,104,105,108,101]) rfl,gM hs (w:=[102,111,114]) rfl,af hs (w:=[114,101,97,100]) rfl b0,af hs (w:=[112,114,105,110,116]) rfl b0,af hs (w:=[97,115,115,101,114,116]) rfl b0,af hs (w:=[115,116,111,112]) rfl b0,af hs (w:=[114,101,116,117,114,110]) rfl b0,AA,NE,ue,tD,wM,zS,ud,AB,qx,AG,KO];exact BS.er (c:=6) (p:=pl ts en a) (by decide) ((fb (ts:=ts) (en:=en) (c:=6) (p:=pl ts en a) (by decide)).mono fun k e=>⟨rfl,by have hc:(6:Int)≠0:=(by decide);simp only[go_sem,fA,fE hc,cg hc,aPa,apa]⟩)
theorem YC(hs:pp ts):∀ m a,ts.length - a≤m→∀ a',a≤a'→∀ d ns,yo ts a' d ns→StB ts en a' d ns∧BlB ts en a' d ns:=by
 intro m;induction m with
 |zero=>intro a hm a' ha d ns hp;exact⟨Rc hs hp fun a2 d2 qt h2 p2=>by have:=p2.hi;have:=hp.hi;omega,MZ hs hp fun a2 d2 qt h2 p2=>by have:=p2.hi;have:=hp.hi;omega⟩
 |succ m ih=>intro a hm a' ha d ns hp;exact⟨Rc hs hp fun a2 d2 qt h2 p2=>(ih (a+1) (by omega) a2 (by omega) d2 qt p2).2,MZ hs hp fun a2 d2 qt h2 p2=>(ih (a+1) (by omega) a2 (by omega) d2 qt p2).1⟩
theorem aba(hs:pp ts)(hp:yo ts a d ns):StB ts en a d ns:=(YC hs _ a (awa _) a (awa _) d ns hp).1
end
end Go.Fx.R5
namespace Go.Fx.R5
open Go Go.Fx
section
variable {ts:List zK} {en:Int} {c p:Int} {a d:Nat} {ns:List eu}
def Ga(pre:XI)(r:O8)(o:Option ((Int×List eu×XI×Unit)⊕(Int×Int×Unit))):Prop:=match r with
 |.ok l a ns=>o=some (.inl ((a:Int),ns,pre++l,()))
 |.er c p=>o=some (.inr (c,p,()))
def Gb(r:O8)(o:Option (Int×List eu×Int×Int×XI×Unit)):Prop:=match r with
 |.ok l a ns=>o=some ((a:Int),ns,0,0,l,())
 |.er c p=>∃(l:XI) (a:Nat) (ns:List eu),o=some ((a:Int),ns,c,p,l,())∧l.length≤2000000
theorem Cv{w:ab}(h:¬ a<ts.length):a6 ts a w=false:=by
 cases h':a6 ts a w with
 |false=>rfl
 |true=>exact absurd (bz h') h
theorem R6{k:Int}(hk:wO k=true)(hs0:cf k []=true)(h4:k≠4){l:XI}{y:eu}(hy:y.1=k)(I4:y.2.2.2.2=[])(h:ja wO ns l)(hp:jz ns):
  jz (ns++[y])∧ja wO (ns++[y]) (l++[(ns.length:Int)]):=by
 obtain⟨k',a',n',s',l'⟩:=y;simp only at hy I4;subst hy;subst I4;refine⟨hp.add (te hs0 h4),(h.up (aLa _ _)).add (by omega) (by simp;omega) (by rw[rk];exact hk)⟩
theorem Un(hs:pp ts):∀ m a (ns:List eu) (l:XI),ts.length - a≤m→yo ts a d ns→ja wO ns l→1≤l.length→l.length≤a→
  ∃ r,O7 ts wO a ns l.length (jM ns l) r∧cq fun q k=>Ga [] r (bZ q k ts en (a:Int) ns l)∧Gb (qu ts en [41] r) (ao q k ts en (a:Int) ns 0 0 l):=by
 have h7:=hs.len;intro m;induction m with
 |zero=>
  intro a ns l hm hp hk hl Qr;have bg:¬ a<ts.length:=by omega
  have b0:a≤4000000000000000000:=by have:=hp.hi;omega
  have bk:l.length≤4000000:=by have:=hp.hi;omega
  have bl:(l.length:Int) > 0:=by omega
  have hc:(6:Int)≠0:=by decide
  refine⟨.ok l a ns,⟨by omega,hp.hi,by omega,aXa _,hp.all,hk,by omega,by omega⟩,cq.succ (cq.succ (cq.of fun q k=>⟨?_,?_⟩))⟩
  ·simp only[go_sem,Ga,aYa,bZ,aG b0,Cv bg,reduceIte]
  ·simp only[go_sem,qu,Cv bg,reduceIte]
   refine⟨l++[0],a,ns,?_,by have:=hp.hi;simp;omega⟩
   rw[ao];simp only[go_sem,aa,gM hs (w:=[41]) rfl,Cv bg,bl,aI hs (w:=[44]) rfl b0,reduceIte,dO,Nt hc,cg hc,cu bk];rw[ao];simp only[go_sem,aa,show((6:Int)==0)=false from rfl]
 |succ m ih=>
  intro a ns l hm hp hk hl Qr;obtain⟨p1,p2,p3,p4⟩:=hp;have b0:a≤4000000000000000000:=by omega
  have b1:a+1≤4000000000000000000:=by omega
  have bn:ns.length≤4000000:=by omega
  have bk:l.length≤4000000:=by omega
  have bl:(l.length:Int) > 0:=by omega
  have hc:(6:Int)≠0:=by decide
  cases Gw:a6 ts a [44] with
  |true=>
   have mD:a6 ts a [41]=false:=aZ Gw rfl;have bg:=bz Gw;cases hn:uk ts (a+1) 1 with
   |false=>
    refine⟨.er 6 (pl ts en (a+1)),hc,cq.succ (cq.succ (cq.of fun q k=>⟨?_,l++[0],a+1,ns,?_,by simp;omega⟩))⟩
    ·simp only[go_sem,Ga,bZ,aG b0,Gw,reduceIte,jO b1 bn,hn]
    ·rw[ao]
     simp only[go_sem,aa,gM hs (w:=[41]) rfl,mD,Gw,bl,aI hs (w:=[44]) rfl b0,reduceIte,dO,dj b1,hn,cg hc,cu bk];rw[ao];simp only[go_sem,aa,show((6:Int)==0)=false from rfl]
   |true=>
    have TF:=jQ hn;obtain⟨x1,x2⟩:=R6 (k:=5) (y:=(5,(tk ts (a+1)).2.1,0,(tk ts (a+1)).2.2.1,[])) rfl rfl (by decide) rfl rfl hk p4
    obtain⟨r,gi,gr⟩:=ih (a+1+1) (ns++[(5,(tk ts (a+1)).2.1,0,(tk ts (a+1)).2.2.1,[])]) (l++[(ns.length:Int)]) (by omega) ⟨by omega,p2,by simp;omega,x1⟩ x2 (by simp) (by simp;omega)
    refine⟨r,gi.from (by omega) (by simp;omega) (aLa _ _) (by simp;omega) (by rw[qB,o9,og,zW,pS (aLa _ _) hk.v];simp;omega),cq.succ (gr.mono fun q k e=>⟨?_,?_⟩)⟩
    ·simp only[go_sem,bZ,aG b0,Gw,reduceIte,jO b1 bn,hn,cu bk]
     exact e.1
    ·simp only[go_sem,ao,aa,gM hs (w:=[41]) rfl,mD,Gw,bl,aI hs (w:=[44]) rfl b0,reduceIte,dO,dj b1,hn,tO TF,fv bn,cu bk]
     exact e.2
  |false=>
   cases mD:a6 ts a [41] with
   |true=>
    refine⟨.ok l a ns,⟨by omega,p1,by omega,aXa _,p4,hk,by omega,by omega⟩,cq.succ (cq.of fun q k=>⟨?_,?_⟩)⟩
    ·simp only[go_sem,Ga,aYa,bZ,aG b0,Gw,reduceIte]
    ·simp only[go_sem,qu,mD,reduceIte,Gb,ao,aa,gM hs (w:=[41]) rfl]
   |false=>
    refine⟨.ok l a ns,⟨by omega,p1,by omega,aXa _,p4,hk,by omega,by omega⟩,cq.succ (cq.succ (cq.of fun q k=>⟨?_,?_⟩))⟩
    ·simp only[go_sem,Ga,aYa,bZ,aG b0,Gw,reduceIte]
    ·simp only[go_sem,qu,mD,reduceIte]
     refine⟨l++[0],a,ns,?_,by simp;omega⟩
     rw[ao];simp only[go_sem,aa,gM hs (w:=[41]) rfl,mD,Gw,bl,aI hs (w:=[44]) rfl b0,reduceIte,dO,Nt hc,cg hc,cu bk];rw[ao];simp only[go_sem,aa,show((6:Int)==0)=false from rfl]
theorem Um(hs:pp ts)(hp:yo ts a d ns):∃ r,O7 ts wO a ns 0 0 r∧(∀ l' a' et,r=.ok l' a' et→a6 ts a' [41]=true)∧Ev fun k=>
    (∀ f:XI×Int×List eu→IT,(aa f fun cv=>(aE ts (a:Int) [41]).bind fun r5=>
      bif !r5.1 then
       (eS ts en r5.2.1 ns 5).bind fun r=>match r with
       |.inl r6=>
        (bD ([]:XI) ([r6.1])).bind fun l=>
        (bZ k k ts en r6.2.1 r6.2.2.1 l).bind fun r=>match r with
        |.inl o=>
         (aW ts en o.1 ([41]:ab)).bind fun r=>match r with
         |.inl r8=>
          cv (o.2.2.1,r8.1,o.2.1)
         |.inr r9=>
          some (.inr (r9.1,r9.2.1,()))
        |.inr o2=>
         some (.inr (o2.1,o2.2.1,()))
       |.inr r7=>
        some (.inr (r7.1,r7.2.1,()))
      else
       cv ([],r5.2.1,ns))=match r with | .ok l' a' et=>f (l',((a' + 1:Nat):Int),et) | .er c p=>some (.inr (c,p,())))∧Gb r (ao k k ts en (a:Int) ns 0 0 []):=by
  have h7:=hs.len;obtain⟨p1,p2,p3,p4⟩:=hp;have b0:a≤4000000000000000000:=by omega
  have bn:ns.length≤4000000:=by omega
  have hc:(6:Int)≠0:=by decide
  have a0:∀ v:Int,bD ([]:XI) [v]=some [v]:=fun v=>by simp[bD]
  cases mD:a6 ts a [41] with
  |true=>
    have hS:Ev fun k=>Gb (.ok [] a ns) (ao k k ts en (a:Int) ns 0 0 []):=
      cq.jY (p2:=fun q k=>Gb (.ok [] a ns) (ao q k ts en (a:Int) ns 0 0 [])) (cq.succ (cq.of fun q k=>by
        simp only[go_sem,Gb,ao,aa,gM hs (w:=[41]) rfl,mD]))
    refine⟨.ok [] a ns,⟨by omega,p1,by omega,aXa _,p4,ja.nil,by simp,by simp[jM]⟩,(fun _ _ _ h=>by cases h;exact mD),hS.mono fun k e=>⟨fun f=>?_,e⟩⟩
    simp only[go_sem,aa,aG b0,mD,reduceIte]
  |false=>
  cases hn:uk ts a 1 with
  |false=>
    have hL:Ev fun k=>Gb (.er 6 (pl ts en a)) (ao k k ts en (a:Int) ns 0 0 []):=
      cq.jY (p2:=fun q k=>Gb (.er 6 (pl ts en a)) (ao q k ts en (a:Int) ns 0 0 [])) (cq.succ (cq.succ (cq.of fun q k=>by
        refine⟨[0],a,ns,?_,by simp⟩
        rw[ao];simp only[go_sem,aa,gM hs (w:=[41]) rfl,mD,aCa,show(((0:Nat):Int) > 0)=False from by simp,dO,dj b0,hn,reduceIte,cg hc,a0]
        rw[ao];simp only[go_sem,aa,show((6:Int)==0)=false from rfl])))
    refine⟨.er 6 (pl ts en a),hc,(fun _ _ _ h=>by cases h),hL.mono fun k e=>⟨fun f=>?_,e⟩⟩
    simp only[go_sem,aa,aG b0,mD,reduceIte,jO b0 bn,hn]
  |true=>
    have bg:=jQ hn;obtain⟨x1,x2⟩:=R6 (k:=5) (y:=(5,(tk ts a).2.1,0,(tk ts a).2.2.1,[])) rfl rfl (by decide) rfl rfl (ja.nil (ns:=ns)) p4
    obtain⟨r,gi,gr⟩:=Un (en:=en) (d:=d) hs _ (a+1) (ns++[(5,(tk ts a).2.1,0,(tk ts a).2.2.1,[])]) ([]++[(ns.length:Int)]) (awa _) ⟨by omega,p2,by simp;omega,x1⟩ x2 (by simp) (by simp)
    have hI:Ev fun k=>Ga [] r (bZ k k ts en ((a+1:Nat):Int) (ns++[(5,(tk ts a).2.1,0,(tk ts a).2.2.1,[])]) [(ns.length:Int)]):=(gr.mono fun q k e=>e.1).jY;have hS:Ev fun k=>Gb (qu ts en [41] r) (ao k k ts en (a:Int) ns 0 0 []):=
      cq.jY (p2:=fun q k=>Gb (qu ts en [41] r) (ao q k ts en (a:Int) ns 0 0 [])) (cq.succ (gr.mono fun q k e=>by
        simp only[go_sem,ao,aa,gM hs (w:=[41]) rfl,mD,aCa,show(((0:Nat):Int) > 0)=False from by simp,dO,dj b0,hn,reduceIte,tO bg,fv bn,a0]
        exact e.2))
    have hE:=hI.and hS;cases r with
    |er c p=>
      refine⟨.er c p,gi,(fun _ _ _ h=>by cases h),hE.mono fun k e=>⟨fun f=>?_,e.2⟩⟩
      simp only[go_sem,aa,aG b0,mD,reduceIte,jO b0 bn,hn,a0];rw[show bZ k k ts en ((a+1:Nat):Int) _ [(ns.length:Int)]=_ from e.1]
      rfl
    |ok l' a' et=>
      have gi':LOk ts wO (a+1) (ns++[(5,(tk ts a).2.1,0,(tk ts a).2.2.1,[])]) ([]++[(ns.length:Int)]).length (jM (ns++[(5,(tk ts a).2.1,0,(tk ts a).2.2.1,[])]) ([]++[(ns.length:Int)])) l' a' et:=gi;obtain⟨g1,g2,g3,g4,g5,g6,g7,g8⟩:=gi';rw[aYa,o9,og,zW] at g8;simp only[aua,aDa,aCa] at g3 g7 g8;have b4:a'≤4000000000000000000:=by omega
      cases h3:a6 ts a' [41] with
      |true=>
        refine⟨.ok l' a' et,⟨by omega,g2,by omega,(aLa _ _).trans g4,g5,g6,by omega,by omega⟩,(fun _ _ _ h=>by cases h;exact h3),hE.mono fun k e=>⟨fun f=>?_,?_⟩⟩
        · simp only[go_sem,aa,aG b0,mD,reduceIte,jO b0 bn,hn,a0]
          rw[show bZ k k ts en ((a+1:Nat):Int) _ [(ns.length:Int)]=_ from e.1]
          simp only[go_sem,bE b4,h3,reduceIte,aYa]
        · have e2:=e.2
          simp only[qu,h3,reduceIte] at e2;exact e2
      |false=>
        refine⟨.er 6 (pl ts en a'),hc,(fun _ _ _ h=>by cases h),hE.mono fun k e=>⟨fun f=>?_,?_⟩⟩
        · simp only[go_sem,aa,aG b0,mD,reduceIte,jO b0 bn,hn,a0]
          rw[show bZ k k ts en ((a+1:Nat):Int) _ [(ns.length:Int)]=_ from e.1]
          simp only[go_sem,bE b4,h3,reduceIte]
        · have e2:=e.2
          simp only[go_sem,qu,h3,reduceIte] at e2;exact e2
theorem Vy(hs:pp ts){kk:Int}(hk1:wO kk=true)(hk2:cf kk []=true)(hk4:kk≠4)(pre:XI)(af2:pre.length≤1000000):∀ m a (ns:List eu) (l:XI),ts.length - a≤m→yo ts a d ns→ja wO ns l→l.length≤a→
  ∃ r,O7 ts wO a ns l.length (jM ns l) r∧cq fun q k=>Ga pre r (cK q k ts en kk (a:Int) ns (pre++l))∧Gb r (cV q k ts en kk (a:Int) ns 0 0 l):=by
 have h7:=hs.len;intro m;induction m with
 |zero=>
  intro a ns l hm hp hk Qr;have bg:¬ a<ts.length:=by omega
  have b0:a≤4000000000000000000:=by have:=hp.hi;omega
  refine⟨.ok l a ns,⟨by omega,hp.hi,by omega,aXa _,hp.all,hk,by omega,by omega⟩,cq.succ (cq.of fun q k=>⟨?_,?_⟩)⟩
  ·simp only[go_sem,Ga,cK,aG b0,Cv bg,reduceIte]
  ·simp only[go_sem,Gb,cV,af hs (w:=[44]) rfl b0,Cv bg,reduceIte]
 |succ m ih=>
  intro a ns l hm hp hk Qr;obtain⟨p1,p2,p3,p4⟩:=hp;have b0:a≤4000000000000000000:=by omega
  have b1:a+1≤4000000000000000000:=by omega
  have bn:ns.length≤4000000:=by omega
  have bk:l.length≤4000000:=by omega
  have bp:(pre++l).length≤4000000:=by simp;omega
  have hc:(6:Int)≠0:=by decide
  cases Gw:a6 ts a [44] with
  |false=>
   refine⟨.ok l a ns,⟨by omega,p1,by omega,aXa _,p4,hk,by omega,by omega⟩,cq.succ (cq.of fun q k=>⟨?_,?_⟩)⟩
   ·simp only[go_sem,Ga,cK,aG b0,Gw,reduceIte]
   ·simp only[go_sem,Gb,cV,af hs (w:=[44]) rfl b0,Gw,reduceIte]
  |true=>
   have bg:=bz Gw;cases hn:uk ts (a+1) 1 with
   |false=>
    refine⟨.er 6 (pl ts en (a+1)),hc,cq.succ (cq.succ (cq.of fun q k=>⟨?_,l++[0],a+1,ns,?_,by simp;omega⟩))⟩
    ·simp only[go_sem,Ga,cK,aG b0,Gw,reduceIte,jO b1 bn,hn]
    ·rw[cV]
     simp only[go_sem,af hs (w:=[44]) rfl b0,Gw,reduceIte,dO,dj b1,hn,cg hc,cu bk];rw[cV];simp only[go_sem,Ax hc]
   |true=>
    have TF:=jQ hn;obtain⟨x1,x2⟩:=R6 (k:=kk) (y:=(kk,(tk ts (a+1)).2.1,0,(tk ts (a+1)).2.2.1,[])) hk1 hk2 hk4 rfl rfl hk p4;obtain⟨r,gi,gr⟩:=ih (a+1+1) (ns++[(kk,(tk ts (a+1)).2.1,0,(tk ts (a+1)).2.2.1,[])]) (l++[(ns.length:Int)]) (by omega) ⟨by omega,p2,by simp;omega,x1⟩ x2 (by simp;omega)
    refine⟨r,gi.from (by omega) (by simp;omega) (aLa _ _) (by simp;omega) (by rw[qB,o9,og,zW,pS (aLa _ _) hk.v];simp;omega),cq.succ (gr.mono fun q k e=>⟨?_,?_⟩)⟩
    ·simp only[go_sem,cK,aG b0,Gw,reduceIte,jO b1 bn,hn,cu bp,a3a]
     exact e.1
    ·simp only[go_sem,cV,af hs (w:=[44]) rfl b0,Gw,reduceIte,dO,dj b1,hn,tO TF,fv bn,cu bk]
     exact e.2
theorem TU(hs:pp ts)(pre:XI)(af2:pre.length≤1000000):∀ m a (ns:List eu) (l:XI),ts.length - a≤m→yo ts a d ns→ja wO ns l→l.length≤a→
  ∃ r,O7 ts wO a ns l.length (jM ns l) r∧cq fun q k=>Ga pre r (cz q k ts en (a:Int) ns (pre++l))∧Gb r (cU q k ts en (a:Int) ns 0 0 l):=by
 have h7:=hs.len;intro m;induction m with
 |zero=>
  intro a ns l hm hp hk Qr;have bg:¬ a<ts.length:=by omega
  have b0:a≤4000000000000000000:=by have:=hp.hi;omega
  refine⟨.ok l a ns,⟨by omega,hp.hi,by omega,aXa _,hp.all,hk,by omega,by omega⟩,cq.succ (cq.of fun q k=>⟨?_,?_⟩)⟩
  ·simp only[go_sem,Ga,cz,aa,tu b0,Cv bg]
  ·simp only[go_sem,Gb,cU,aa,gM hs (w:=[118,97,114]) rfl,gM hs (w:=[114,101,102]) rfl,Cv bg]
 |succ m ih=>
  intro a ns l hm hp hk Qr;obtain⟨p1,p2,p3,p4⟩:=hp;have b0:a≤4000000000000000000:=by omega
  have b1:a+1≤4000000000000000000:=by omega
  have bn:ns.length≤4000000:=by omega
  have bk:l.length≤4000000:=by omega
  have bp:(pre++l).length≤4000000:=by simp;omega
  have hc:(6:Int)≠0:=by decide
  by_cases hv:a6 ts a [118,97,114]=true∨a6 ts a [114,101,102]=true
  ·have bg:a<ts.length:=hv.elim bz bz
   obtain⟨kk,hk1,hk2,hk4,Xo,Xp⟩:∃ kk:Int,wO kk=true∧cf kk []=true∧kk≠4∧
     (∀ q k,cz q (k+1) ts en (a:Int) ns (pre++l)=(eS ts en ((a+1:Nat):Int) ns kk).bind fun r=>match r with
      |.inl rS=>(bD (pre++l) ([rS.1])).bind fun l2=>(cK q q ts en kk rS.2.1 rS.2.2.1 l2).bind fun r=>match r with
       |.inl o3=>(aW ts en o3.1 ([59]:ab)).bind fun r=>match r with
        |.inl vB=>cz q k ts en vB.1 o3.2.1 o3.2.2.1
        |.inr zg=>some (.inr (zg.1,zg.2.1,()))
       |.inr o4=>some (.inr (o4.1,o4.2.1,()))
      |.inr qT=>some (.inr (qT.1,qT.2.1,())))∧
     (∀ q k,cU q (k+1) ts en (a:Int) ns 0 0 l=(dd ts ((a+1:Nat):Int) en).bind fun r4=>(dD ts ((a+1:Nat):Int) en 0 0).bind fun r5=>
      (aQ ns r5.2.2.1 (kk,r4.1,0,r5.1,[])).bind fun r6=>(bD l ([r6.1])).bind fun l2=>
      (cV q q ts en kk r5.2.1 r6.2.1 r5.2.2.1 r5.2.2.2.1 l2).bind fun o=>(aK ts o.1 en o.2.2.1 o.2.2.2.1 ([59]:ab)).bind fun r7=>
      cU q k ts en r7.1 o.2.1 r7.2.1 r7.2.2.1 o.2.2.2.2.1):=by
    rcases hv with hv|hv
    ·have hr:a6 ts a [114,101,102]=false:=aZ hv rfl
     exact⟨6,rfl,rfl,by decide,fun q k=>by simp only[go_sem,cz,aa,tu b0,hv,hr,ai (show a<_ by omega)];rfl,
      fun q k=>by simp only[go_sem,cU,aa,gM hs (w:=[118,97,114]) rfl,gM hs (w:=[114,101,102]) rfl,hv,hr,ai (show a<_ by omega)]⟩
    ·have hr:a6 ts a [118,97,114]=false:=aZ hv rfl
     exact⟨7,rfl,rfl,by decide,fun q k=>by simp only[go_sem,cz,aa,tu b0,hv,hr,ai (show a<_ by omega)];rfl,
      fun q k=>by simp only[go_sem,cU,aa,gM hs (w:=[118,97,114]) rfl,gM hs (w:=[114,101,102]) rfl,hv,hr,ai (show a<_ by omega)]⟩
   cases hn:uk ts (a+1) 1 with
   |false=>
    refine⟨.er 6 (pl ts en (a+1)),hc,?_⟩;have hL:Ev fun q=>∃ l',cV q q ts en kk ((a+1:Nat):Int) ns 6 (pl ts en (a+1)) (l++[0])=some (((a+1:Nat):Int),ns,6,pl ts en (a+1),l',())∧l'.length≤2000000:=
     cq.jY (p2:=fun q k=>∃ l',cV q k ts en kk ((a+1:Nat):Int) ns 6 (pl ts en (a+1)) (l++[0])=some (((a+1:Nat):Int),ns,6,pl ts en (a+1),l',())∧l'.length≤2000000) (cq.succ (cq.of fun q k=>⟨l++[0],by simp only[go_sem,cV,Ax hc],by simp;omega⟩))
    refine cq.succ (cq.succ (hL.tj.mono fun q k e=>?_));obtain⟨l',e,Mx⟩:=e;refine⟨?_,l',a+1,ns,?_,Mx⟩
    ·simp only[go_sem,Ga,Xo,jO b1 bn,hn,reduceIte]
    ·rw[Xp]
     simp only[go_sem,dO,dj b1,hn,reduceIte,cg hc,cu bk,e,fE hc];rw[cU];simp only[go_sem,aa,Nr hc]
   |true=>
    have TF:=jQ hn;obtain⟨x1,x2⟩:=R6 (k:=kk) (y:=(kk,(tk ts (a+1)).2.1,0,(tk ts (a+1)).2.2.1,[])) hk1 hk2 hk4 rfl rfl hk p4;obtain⟨r,gi,gr⟩:=Vy (en:=en) (d:=d) hs hk1 hk2 hk4 pre af2 _ (a+1+1) (ns++[(kk,(tk ts (a+1)).2.1,0,(tk ts (a+1)).2.2.1,[])]) (l++[(ns.length:Int)]) (awa _) ⟨by omega,p2,by simp;omega,x1⟩ x2 (by simp;omega)
    have gr:=gr.jY;cases r with
    |er c p=>
     have hc:c≠0:=gi;refine⟨.er c p,gi,cq.succ (cq.succ (gr.tj.mono fun q k e=>?_))⟩;obtain⟨e1,l',a',et,e2,Mx⟩:=e;refine⟨?_,l',a',et,?_,Mx⟩
     ·simp only[go_sem,Ga,Xo,jO b1 bn,hn,reduceIte,cu bp,a3a]
      rw[show cK q q ts en kk _ _ _=_ from e1];rfl
     ·rw[Xp]
      simp only[go_sem,dO,dj b1,hn,reduceIte,tO TF,fv bn,cu bk,e2,fE hc];rw[cU];simp only[go_sem,aa,Nr hc]
    |ok l' a' et=>
     have gi':LOk ts wO (a+1+1) (ns++[(kk,(tk ts (a+1)).2.1,0,(tk ts (a+1)).2.2.1,[])]) (l++[(ns.length:Int)]).length (jM (ns++[(kk,(tk ts (a+1)).2.1,0,(tk ts (a+1)).2.2.1,[])]) (l++[(ns.length:Int)])) l' a' et:=gi;obtain⟨g1,g2,g3,g4,g5,g6,g7,g8⟩:=gi';rw[qB,o9,og,zW,pS (aLa _ _) hk.v] at g8;simp only[aua,aDa,aCa] at g3 g7 g8;have b4:a'≤4000000000000000000:=by omega
     cases Kr:a6 ts a' [59] with
     |false=>
      refine⟨.er 6 (pl ts en a'),hc,cq.succ (cq.succ (gr.tj.mono fun q k e=>?_))⟩;obtain⟨e1,e2⟩:=e;refine⟨?_,l',a',et,?_,by omega⟩
      ·simp only[go_sem,Ga,Xo,jO b1 bn,hn,reduceIte,cu bp,a3a]
       rw[show cK q q ts en kk _ _ _=_ from e1]
       simp only[go_sem,bE b4,Kr,reduceIte]
      ·rw[Xp]
       simp only[go_sem,dO,dj b1,hn,reduceIte,tO TF,fv bn,cu bk];rw[show cV q q ts en kk _ _ 0 0 _=_ from e2]
       simp only[go_sem,aI hs (w:=[59]) rfl b4,Kr,reduceIte];rw[cU];simp only[go_sem,aa,Nr hc]
     |true=>
      have ahs:=bz Kr;obtain⟨r,fi,fr⟩:=ih (a' + 1) et l' (by omega) ⟨by omega,p2,by omega,g5⟩ g6 (by omega)
      refine⟨r,fi.from (by omega) (by omega) ((aLa _ _).trans g4) (by omega) (by omega),cq.succ ((gr.tj.and fr).mono fun q k e=>?_)⟩
      obtain⟨⟨e1,e2⟩,e3,e4⟩:=e;refine⟨?_,?_⟩
      ·simp only[go_sem,Xo,jO b1 bn,hn,reduceIte,cu bp,a3a]
       rw[show cK q q ts en kk _ _ _=_ from e1]
       simp only[go_sem,bE b4,Kr,reduceIte];exact e3
      ·rw[Xp]
       simp only[go_sem,dO,dj b1,hn,reduceIte,tO TF,fv bn,cu bk];rw[show cV q q ts en kk _ _ 0 0 _=_ from e2]
       simp only[go_sem,aI hs (w:=[59]) rfl b4,Kr,reduceIte];exact e4
  ·simp only[cka,bya] at hv
   refine⟨.ok l a ns,⟨by omega,p1,by omega,aXa _,p4,hk,by omega,by omega⟩,cq.succ (cq.of fun q k=>⟨?_,?_⟩)⟩
   ·simp only[go_sem,Ga,cz,aa,tu b0,hv.1,hv.2]
   ·simp only[go_sem,Gb,cU,aa,gM hs (w:=[118,97,114]) rfl,gM hs (w:=[114,101,102]) rfl,hv.1,hv.2]
end
end Go.Fx.R5
namespace Go.Fx.R5
open Go Go.Fx
section
variable {ts:List zK} {en:Int} {c p:Int} {a d:Nat} {ns:List eu}
theorem P6(l:XI)(q:Nat):∀(m i k:Nat) (cG:XI),m+i=l.length→m<k→cG.length+m≤4000000→l.length≤4000000→eG q k l cG (i:Int)=some (cG++l.drop i,())
 |0,i,k+1,cG,h,_,h2,_=>by
  have:¬ i<l.length:=by omega
  have e:l.drop i=[]:=by simp;omega
  rw[e];simp[eG,this]
 |m+1,i,k+1,cG,h,hk,h2,h3=>by
  have bg:i<l.length:=by omega
  have e:l.drop i=l[i]::l.drop (i+1):=aQa bg;have e2:=P6 l q m (i+1) k (cG++[l[i]]) (by omega) (by omega) (by simp;omega) h3
  simp only[go_sem,eG,Q5,bg,cB bg,aAa,cu (show cG.length≤4000000 by omega),ai (show i<_ by omega),e2,e]
  simp
theorem Tk(l cG:XI)(k:Nat)(hk:l.length<k)(h:cG.length+l.length≤4000000):eG k k l cG 0=some (cG++l,()):=
 P6 l k l.length 0 k cG rfl hk h (by omega)
theorem ag5(l cG:XI)(h:cG.length+l.length≤4000000):Ev fun k=>eG k k l cG 0=some (cG++l,()):=⟨l.length+1,fun k hk=>Tk l cG k (by omega) h⟩
theorem WJ(q:Nat):∀ k t e p n d c a b,eH q k t e p n d c a b=ep (eC q) (mf q) (je q) q k t e p n d c a b
 |0,_,_,_,_,_,_,_,_=>rfl
 |k+1,t,e,p,n,d,c,a,b=>by simp only[eH,ep,WJ q k]
theorem afx(hc:c≠0):Ev fun k=>(∀(a:Nat) (ns:List eu) (l:XI),ao k k ts en (a:Int) ns c p l=some ((a:Int),ns,c,p,l,()))∧
  (∀(a:Nat) (ns:List eu) (d:Int) (l:XI),eH k k ts en (a:Int) ns d c p l=some ((a:Int),ns,d,c,p,l,())):=
 cq.jY (p2:=fun q k=>(∀(a:Nat) (ns:List eu) (l:XI),ao q k ts en (a:Int) ns c p l=some ((a:Int),ns,c,p,l,()))∧
  (∀(a:Nat) (ns:List eu) (d:Int) (l:XI),eH q k ts en (a:Int) ns d c p l=some ((a:Int),ns,d,c,p,l,()))) (cq.succ (cq.of fun q k=>⟨fun a ns l=>by
   simp only[go_sem,ao,aa,Q6.2 hc],fun a ns d l=>by
   simp only[go_sem,eH,aa,Q6.2 hc]⟩))
theorem Nu(hc:c≠0):Ev fun k=>(∀(a:Nat) (ns:List eu) (l:XI),ao k k ts en (a:Int) ns c p l=some ((a:Int),ns,c,p,l,())):=(afx hc).mono fun _ e=>e.1
theorem ag2(hs:pp ts)(hp:yo ts a d ns):BS (yn ts (·==4) 1 a d ns) (fun k=>cY k ts en (a:Int) (d:Int) ns) (fun k=>dm k ts (a:Int) en ns (d:Int) 0 0):=by
 have h7:=hs.len;obtain⟨p1,p2,p3,p4⟩:=hp;have b0:a≤4000000000000000000:=by omega
 have b1:a+1≤4000000000000000000:=by omega
 have hc:(6:Int)≠0:=by decide
 cases hn:uk ts a 1 with
 |false=>
  refine BS.er (c:=6) (p:=pl ts en a) hc ((Nu (ts:=ts) (en:=en) (p:=pl ts en a) hc).mono fun k e=>⟨?_,?_⟩)
  ·simp only[go_sem,cY,cW b0,hn,reduceIte]
  ·simp only[go_sem,dm,dO,dj b0,hn,reduceIte,fE hc,e,Hx hc,fA,apa,aPa]
 |true=>
 have bg:=jQ hn;cases mH:a6 ts (a+1) [40] with
 |false=>
  refine BS.er (c:=6) (p:=pl ts en (a+1)) hc ((Nu (ts:=ts) (en:=en) (p:=pl ts en (a+1)) hc).mono fun k e=>⟨?_,?_⟩)
  ·simp only[go_sem,cY,cW b0,hn,bE b1,mH,reduceIte]
  ·simp only[go_sem,dm,dO,dj b0,hn,aI hs (w:=[40]) rfl b1,mH,reduceIte,fE hc,e,Hx hc,fA,apa,aPa]
 |true=>
 have TF:=bz mH;obtain⟨r,hi,hx,hr⟩:=Um (en:=en) hs (a:=a+1+1) (d:=d) (ns:=ns) ⟨by omega,p2,by omega,p4⟩
 cases r with
 |er c p=>
  have hc:c≠0:=hi;refine BS.er (c:=c) (p:=p) hc (hr.mono fun k e=>?_);obtain⟨e1,l',a',et,e2,_⟩:=e;refine⟨?_,?_⟩
  ·simp only[go_sem,cY,cW b0,hn,bE b1,mH,reduceIte]
   exact e1 _
  ·simp only[go_sem,dm,dO,dj b0,hn,aI hs (w:=[40]) rfl b1,mH,reduceIte,e2,fE hc,Hx hc,fA,apa,aPa]
 |ok l1 a1 nh=>
  have mD:=hx _ _ _ rfl;have hi':LOk ts wO (a+1+1) ns 0 0 l1 a1 nh:=hi;obtain⟨g1,g2,g3,g4,g5,g6,g7,g8⟩:=hi';have ZJ:=bz mD;have c1:a1≤4000000000000000000:=by omega
  have c2:a1+1≤4000000000000000000:=by omega
  cases rU:a6 ts (a1+1) [123] with
  |false=>
   refine BS.er (c:=6) (p:=pl ts en (a1+1)) hc (hr.mono fun k e=>?_);obtain⟨e1,e2⟩:=e;refine⟨?_,?_⟩
   ·simp only[go_sem,cY,cW b0,hn,bE b1,mH,reduceIte]
    refine(e1 _).trans ?_;simp only[go_sem,reduceIte,bq,bE c2,rU]
   ·simp only[go_sem,dm,dO,dj b0,hn,aI hs (w:=[40]) rfl b1,mH,reduceIte,show ao k k ts en ((a+1+1:Nat):Int) ns 0 0 []=_ from e2,aI hs (w:=[41]) rfl c1,mD,aI hs (w:=[123]) rfl c2,rU,Hx hc,fA,apa,aPa]
  |true=>
  have aib:=bz rU;by_cases hd:d<10
  rotate_left
  ·refine BS.er (c:=7) (p:=pl ts en (a1+1+1)) (by decide) (hr.mono fun k e=>?_)
   obtain⟨e1,e2⟩:=e;refine⟨?_,?_⟩
   ·simp only[go_sem,cY,cW b0,hn,bE b1,mH,reduceIte]
    refine(e1 _).trans ?_;simp only[go_sem,reduceIte,bq,bE c2,rU,gN p2,hd]
   ·simp only[go_sem,dm,dO,dj b0,hn,aI hs (w:=[40]) rfl b1,mH,reduceIte,show ao k k ts en ((a+1+1:Nat):Int) ns 0 0 []=_ from e2,aI hs (w:=[41]) rfl c1,mD,aI hs (w:=[123]) rfl c2,rU,lY p2,hd,fA,apa,aPa]
  obtain⟨r,gi,gr⟩:=TU (en:=en) (d:=d) hs l1 (by omega) _ (a1+1+1) nh [] (awa _) ⟨by omega,p2,by omega,g5⟩ ja.nil (by simp)
  have gr:=gr.jY;simp only[bga] at gr;cases r with
  |er c p=>
   have hc:c≠0:=gi;obtain⟨K,gr⟩:=gr;refine BS.er (c:=c) (p:=p) hc ?_;have cpn:Ev fun k=>∀ l':XI,l'.length≤2000000→eG k k l' l1 0=some (l1++l',()):=
    ⟨2000002,fun k hk l' h=>Tk l' l1 k (by omega) (by omega)⟩
   refine((((hr.and ⟨K,gr⟩).and cpn).and (afx (ts:=ts) (en:=en) (p:=p) hc))).mono fun k e=>?_;obtain⟨⟨⟨⟨e1,e2⟩,e3,l',a',et,e4,Mx⟩,e5⟩,_,e6⟩:=e;refine⟨?_,?_⟩
   ·simp only[go_sem,cY,cW b0,hn,bE b1,mH,reduceIte]
    refine(e1 _).trans ?_;simp only[go_sem,reduceIte,bq,bE c2,rU,gN p2,hd,show cz k k ts en ((a1+1+1:Nat):Int) nh l1=_ from e3]
   ·simp only[go_sem,dm,dO,dj b0,hn,aI hs (w:=[40]) rfl b1,mH,reduceIte,show ao k k ts en ((a+1+1:Nat):Int) ns 0 0 []=_ from e2,aI hs (w:=[41]) rfl c1,mD,aI hs (w:=[123]) rfl c2,rU,lY p2,hd,pU,e4,e5 l' Mx,e6,fE hc,cg hc,cu (show(l1++l').length≤4000000 by simp;omega),fA,apa,aPa]
  |ok l2 a2 qt=>
   have gi':LOk ts wO (a1+1+1) nh ([]:XI).length (jM nh []) l2 a2 qt:=gi;obtain⟨k1,k2,k3,k4,k5,k6,k7,k8⟩:=gi';rw[zW] at k8;simp only[aCa] at k7;obtain⟨r,fi,fx,fr⟩:=OL (en:=en) hs (d:=d+1) (by omega) (a0:=0) (fun a' et h p=>aba hs p) _ a2 qt [] (awa _) (by omega) ⟨k2,by omega,by omega,k5⟩ ja.nil (by simp)
   have fI:Ev fun k=>Z3 r (d+1:Nat) (bT (dg k) (db k) (ij k) (gw k) k k ts en (a2:Int) ((d+1:Nat):Int) qt []):=(fr.mono fun _ _ e=>e.1).jY;have fS:Ev fun k=>Ps [] r (d+1:Nat) (eH k k ts en (a2:Int) qt ((d+1:Nat):Int) 0 0 []):=(fr.mono fun _ _ e=>e.2).jY.mono fun k e=>by rw[WJ];exact e
   have hcp:Ev fun k=>eG k k l2 l1 0=some (l1++l2,()):=ag5 l2 l1 (by omega)
   cases r with
   |er c p=>
    have hc:c≠0:=fi;have fI2:Ev fun k=>dg k ts en (a2:Int) ((d+1:Nat):Int) qt (pl ts en (a1+1))=some (.inr (c,p,())):=Ev.succ (fI.mono fun k e=>by
     rw[Ja,fH,show bT _ _ _ _ k k ts en (a2:Int) ((d+1:Nat):Int) qt []=_ from e];rfl)
    refine BS.er (c:=c) (p:=p) hc (((((hr.and gr).and fI2).and fS).and hcp).mono fun k e=>?_);obtain⟨⟨⟨⟨⟨e1,e2⟩,e3,e4⟩,e5⟩,l',a',et,d',e6⟩,e7⟩:=e;refine⟨?_,?_⟩
    ·simp only[go_sem,cY,cW b0,hn,bE b1,mH,reduceIte]
     refine(e1 _).trans ?_;simp only[go_sem,reduceIte,bq,bE c2,rU,gN p2,hd,show cz k k ts en ((a1+1+1:Nat):Int) nh l1=_ from e3,e5]
    ·simp only[go_sem,dm,dO,dj b0,hn,aI hs (w:=[40]) rfl b1,mH,reduceIte,show ao k k ts en ((a+1+1:Nat):Int) ns 0 0 []=_ from e2,aI hs (w:=[41]) rfl c1,mD,aI hs (w:=[123]) rfl c2,rU,lY p2,hd,pU,show cU k k ts en ((a1+1+1:Nat):Int) nh 0 0 []=_ from e4,e7,e6,fE hc,cg hc,cu (show(l1++l2).length≤4000000 by simp;omega),fA,apa,aPa]
   |ok l3 a3 MC=>
    have afI:=fx _ _ _ rfl;have ahs:=bz afI;have fi':LOk ts Pt a2 qt ([]:XI).length (jM qt []) l3 a3 MC:=fi;obtain⟨j1,j2,j3,j4,j5,j6,j7,j8⟩:=fi';rw[zW] at j8;have c3:a3≤4000000000000000000:=by omega
    have m3:MC.length≤4000000:=by omega
    have tU:jz (MC++[(8,pl ts en (a1+1),0,[],l3)]):=j5.add ⟨j6.v,aa5 j6,by simp,by simp at j7 ⊢;omega⟩
    have m4:(MC++[(8,pl ts en (a1+1),0,[],l3)]:List eu).length≤4000000:=by simp;omega
    have fI2:Ev fun k=>dg k ts en (a2:Int) ((d+1:Nat):Int) qt (pl ts en (a1+1))=some (.inl ((MC.length:Int),((a3+1:Nat):Int),(d:Int),MC++[(8,pl ts en (a1+1),0,[],l3)],())):=Ev.succ (fI.mono fun k e=>by
     rw[Ja,fH,show bT _ _ _ _ k k ts en (a2:Int) ((d+1:Nat):Int) qt []=_ from e]
     simp only[go_sem,ii m3,kC (show d≤_ by omega)])
    have kk:ja wO (MC++[(8,pl ts en (a1+1),0,[],l3)]) (l1++l2):=by
     have q1:=g6.up (k4.trans (j4.trans (aLa MC [(8,pl ts en (a1+1),0,[],l3)])));have q2:=k6.up (j4.trans (aLa MC [(8,pl ts en (a1+1),0,[],l3)]));refine⟨fun j hj=>?_,fun j hj=>?_⟩
     ·rcases aoa.1 hj with hj|hj
      ·exact q1.v j hj
      ·exact q2.v j hj
     ·rcases aoa.1 hj with hj|hj
      ·exact q1.c j hj
      ·exact q2.c j hj
    have bk:(l1++l2).length≤4000000:=by simp;omega
    refine⟨.ok _ (a3+1) d ((MC++[(8,pl ts en (a1+1),0,[],l3)])++[(4,(tk ts a).2.1,0,(tk ts a).2.2.1,l1++l2++[(MC.length:Int)])]),kS (by omega) (by omega) (by simp;omega) (g4.trans (k4.trans (j4.trans (aLa _ _)))) tU ⟨?_,?_,fun _=>?_,by simp;omega⟩ rfl (by rw[qB,qB,o9,og,pS (k4.trans (j4.trans (aLa _ _))) g6.v,pS (j4.trans (aLa _ _)) k6.v];simp;omega),((((hr.and gr).and fI2).and fS).and hcp).mono fun k e=>?_⟩
    ·intro j hj
     rcases aoa.1 hj with hj|hj
     ·exact kk.v j hj
     ·rw[Q7.1 hj];simp;omega
    ·have:(l1++l2).all (fun j=>wO (kd (MC++[(8,pl ts en (a1+1),0,[],l3)]) j))=true:=ana.2 kk.c
     have:((l1++l2).map (kd (MC++[(8,pl ts en (a1+1),0,[],l3)]))).all wO=true:=by rw[cPa];exact this
     rw[show List.map (kd (MC++[(8,pl ts en (a1+1),0,[],l3)])) (l1++l2++[(MC.length:Int)])=(l1++l2).map (kd (MC++[(8,pl ts en (a1+1),0,[],l3)]))++[8] by simp[rk]]
     show((_:XI).dropLast.all wO&&_)=true;rw[List.dropLast_concat,this];simp
    ·rcases(Ri hs bg).k with ⟨_,_,_,h⟩|⟨h,_⟩|⟨h,_⟩|⟨h,_⟩
     ·exact h
     ·rw[Ks hn] at h;cases h
     ·rw[Ks hn] at h;cases h
     ·rw[Ks hn] at h;cases h
    ·obtain⟨⟨⟨⟨e1,e2⟩,e3,e4⟩,e5⟩,e6⟩:=e.1
     have e7:=e.2;refine⟨?_,?_⟩
     ·simp only[go_sem,uJ,cY,cW b0,hn,bE b1,mH,reduceIte]
      refine(e1 _).trans ?_;simp only[go_sem,reduceIte,bq,bE c2,rU,gN p2,hd,show cz k k ts en ((a1+1+1:Nat):Int) nh l1=_ from e3,e5,cu bk,ii m4]
     ·simp only[go_sem,NZ,dm,dO,dj b0,hn,aI hs (w:=[40]) rfl b1,mH,reduceIte,show ao k k ts en ((a+1+1:Nat):Int) ns 0 0 []=_ from e2,aI hs (w:=[41]) rfl c1,mD,aI hs (w:=[123]) rfl c2,rU,lY p2,hd,pU,show cU k k ts en ((a1+1+1:Nat):Int) nh 0 0 []=_ from e4,e7,show eH k k ts en (a2:Int) qt ((d+1:Nat):Int) 0 0 []=_ from e6,aI hs (w:=[125]) rfl c3,afI,fv m3,aYa,cu bk,fv m4,tO bg,kC (show d≤_ by omega)]
end
end Go.Fx.R5
namespace Go.Fx.R5
open Go Go.Fx
section
variable {ts:List zK} {en:Int} {a d:Nat} {ns:List eu}
def L8(r:O8)(d:Int)(o:Option ((Int×Int×List eu×XI×Unit)⊕(Int×Int×Unit))):Prop:=match r with
 |.ok l a ns=>o=some (.inl ((a:Int),d,ns,l,()))
 |.er c p=>o=some (.inr (c,p,()))
theorem Zg{k:Int}(hk:F9 k=true)(hs0:cf k []=true)(h4:k≠4){l:XI}{y:eu}(hy:y.1=k)(I4:y.2.2.2.2=[])(h:ja F9 ns l)(hp:jz ns):
  jz (ns++[y])∧ja F9 (ns++[y]) (l++[(ns.length:Int)]):=by
 obtain⟨k',a',n',s',l'⟩:=y;simp only at hy I4;subst hy;subst I4;exact⟨hp.add (te hs0 h4),(h.up (aLa _ _)).add (by omega) (by simp;omega) (by rw[rk];exact hk)⟩
theorem afu{c p:Int}(hc:c≠0):Ev fun k=>∀(a:Nat) (ns:List eu) (d:Int),fA c p (dm k ts (a:Int) en ns d c p):=
 (Nu (ts:=ts) (en:=en) (p:=p) hc).mono fun k e a ns d=>by simp only[go_sem,dm,dO,Nt hc,fE hc,e,Hx hc,fA,apa,aPa]
theorem Sw(hs:pp ts):∀ m a (ns:List eu) (l:XI),ts.length - a≤m→yo ts a 0 ns→ja F9 ns l→l.length≤a→
  ∃ r,O7 ts F9 a ns l.length (jM ns l) r∧cq fun q k=>L8 r 0 (aJ q k ts en (a:Int) 0 ns l)∧Ps [] r 0 (ax q k ts en (a:Int) ns 0 0 0 l):=by
 have h7:=hs.len;have hc:(6:Int)≠0:=by decide
 intro m;induction m with
 |zero=>
  intro a ns l hm hp hk Qr;have bg:¬ a<ts.length:=by omega
  exact⟨.ok l a ns,⟨by omega,hp.hi,by omega,aXa _,hp.all,hk,by omega,by omega⟩,cq.succ (cq.of fun q k=>⟨by simp only[go_sem,L8,aJ,Q5,bg],
   by simp only[go_sem,Ps,aYa,ax,aa,Q5,bg]⟩)⟩
 |succ m ih=>
  intro a ns l hm hp hk Qr;obtain⟨p1,p2,p3,p4⟩:=hp;by_cases bg:a<ts.length
  rotate_left
  ·exact⟨.ok l a ns,⟨by omega,p1,by omega,aXa _,p4,hk,by omega,by omega⟩,cq.succ (cq.of fun q k=>⟨by simp only[go_sem,L8,aJ,Q5,bg],
    by simp only[go_sem,Ps,aYa,ax,aa,Q5,bg]⟩)⟩
  have b0:a≤4000000000000000000:=by omega
  have b1:a+1≤4000000000000000000:=by omega
  have b2:a+1+1≤4000000000000000000:=by omega
  have b3:a+1+1+1≤4000000000000000000:=by omega
  have b4:a+1+1+1+1≤4000000000000000000:=by omega
  have b5:a+1+1+1+1+1≤4000000000000000000:=by omega
  have bn:ns.length≤4000000:=by omega
  have bk:l.length≤4000000:=by omega
  cases hA:a6 ts a [97,114,114,97,121] with
  |true=>
   cases h1:uk ts (a+1) 1 with
   |false=>
    refine⟨.er 6 (pl ts en (a+1)),hc,cq.succ (cq.succ (cq.of fun q k=>⟨?_,l++[0],a+1,ns,0,?_⟩))⟩
    ·simp only[go_sem,L8,aJ,Q5,bg,aG b0,reduceIte,cW b1,ii bn,cu bk,hA,h1]
    ·rw[ax]
     simp only[go_sem,aa,Q5,bg,af hs (w:=[97,114,114,97,121]) rfl b0,dO,dj b1,reduceIte,cu bk,fE hc,Tv hc,cg hc,hA,h1];rw[ax];simp only[go_sem,aa,show((6:Int)==0)=false from rfl]
   |true=>
   cases h2:a6 ts (a+1+1) [91] with
   |false=>
    refine⟨.er 6 (pl ts en (a+1+1)),hc,cq.succ (cq.succ (cq.of fun q k=>⟨?_,l++[0],a+1+1,ns,0,?_⟩))⟩
    ·simp only[go_sem,L8,aJ,Q5,bg,aG b0,reduceIte,cW b1,bE b2,ii bn,cu bk,hA,h1,h2]
    ·rw[ax]
     simp only[go_sem,aa,Q5,bg,af hs (w:=[97,114,114,97,121]) rfl b0,dO,dj b1,aI hs (w:=[91]) rfl b2,reduceIte,cu bk,fE hc,Tv hc,cg hc,hA,h1,h2];rw[ax];simp only[go_sem,aa,show((6:Int)==0)=false from rfl]
   |true=>
   cases h3:uk ts (a+1+1+1) 2 with
   |false=>
    refine⟨.er 6 (pl ts en (a+1+1+1)),hc,cq.succ (cq.succ (cq.of fun q k=>⟨?_,l++[0],a+1+1+1,ns,0,?_⟩))⟩
    ·simp only[go_sem,L8,aJ,Q5,bg,aG b0,reduceIte,cW b1,cW b3,bE b2,ii bn,cu bk,hA,h1,h2,h3]
    ·rw[ax]
     simp only[go_sem,aa,Q5,bg,af hs (w:=[97,114,114,97,121]) rfl b0,dO,dj b1,aI hs (w:=[91]) rfl b2,E0 b3,reduceIte,cu bk,fE hc,cg hc,hA,h1,h2,h3];rw[ax];simp only[go_sem,aa,show((6:Int)==0)=false from rfl]
   |true=>
   cases h4:a6 ts (a+1+1+1+1) [93] with
   |false=>
    refine⟨.er 6 (pl ts en (a+1+1+1+1)),hc,cq.succ (cq.succ (cq.of fun q k=>⟨?_,l++[0],a+1+1+1+1,ns,0,?_⟩))⟩
    ·simp only[go_sem,L8,aJ,Q5,bg,aG b0,reduceIte,cW b1,cW b3,bE b2,bE b4,ii bn,cu bk,hA,h1,h2,h3,h4]
    ·rw[ax]
     simp only[go_sem,aa,Q5,bg,af hs (w:=[97,114,114,97,121]) rfl b0,dO,dj b1,aI hs (w:=[91]) rfl b2,E0 b3,aI hs (w:=[93]) rfl b4,reduceIte,cu bk,fE hc,cg hc,hA,h1,h2,h3,h4];rw[ax];simp only[go_sem,aa,show((6:Int)==0)=false from rfl]
   |true=>
   cases h5:a6 ts (a+1+1+1+1+1) [59] with
   |false=>
    refine⟨.er 6 (pl ts en (a+1+1+1+1+1)),hc,cq.succ (cq.succ (cq.of fun q k=>⟨?_,l++[0],a+1+1+1+1+1,ns,0,?_⟩))⟩
    ·simp only[go_sem,L8,aJ,Q5,bg,aG b0,reduceIte,cW b1,cW b3,bE b2,bE b4,bE b5,ii bn,cu bk,hA,h1,h2,h3,h4,h5]
    ·rw[ax]
     simp only[go_sem,aa,Q5,bg,af hs (w:=[97,114,114,97,121]) rfl b0,dO,dj b1,aI hs (w:=[91]) rfl b2,E0 b3,aI hs (w:=[93]) rfl b4,aI hs (w:=[59]) rfl b5,reduceIte,cu bk,cg hc,hA,h1,h2,h3,h4,h5];rw[ax];simp only[go_sem,aa,show((6:Int)==0)=false from rfl]
   |true=>
   have l1:=jQ h1;have l5:=bz h5;obtain⟨x1,x2⟩:=Zg (k:=2) (y:=(2,(tk ts (a+1)).2.1,(tk ts (a+1+1+1)).2.2.2,(tk ts (a+1)).2.2.1,[])) rfl rfl (by decide) rfl rfl hk p4
   obtain⟨r,gi,gr⟩:=ih (a+1+1+1+1+1+1) (ns++[(2,(tk ts (a+1)).2.1,(tk ts (a+1+1+1)).2.2.2,(tk ts (a+1)).2.2.1,[])]) (l++[(ns.length:Int)]) (by omega) ⟨by omega,p2,by simp;omega,x1⟩ x2 (by simp;omega)
   refine⟨r,gi.from (by omega) (by simp;omega) (aLa _ _) (by simp;omega) (by rw[qB,o9,og,zW,pS (aLa _ _) hk.v];simp;omega),cq.succ (gr.mono fun q k e=>⟨?_,?_⟩)⟩
   ·simp only[go_sem,aJ,Q5,bg,aG b0,reduceIte,cW b1,cW b3,bE b2,bE b4,bE b5,ii bn,cu bk,hA,h1,h2,h3,h4,h5]
    exact e.1
   ·rw[ax]
    simp only[go_sem,aa,Q5,bg,af hs (w:=[97,114,114,97,121]) rfl b0,dO,dj b1,aI hs (w:=[91]) rfl b2,E0 b3,aI hs (w:=[93]) rfl b4,aI hs (w:=[59]) rfl b5,reduceIte,fv bn,cu bk,hA,h1,h2,h3,h4,h5,tO l1];exact e.2
  |false=>
  cases hV:a6 ts a [118,97,114] with
  |true=>
   cases h1:uk ts (a+1) 1 with
   |false=>
    refine⟨.er 6 (pl ts en (a+1)),hc,cq.succ (cq.succ (cq.of fun q k=>⟨?_,l++[0],a+1,ns,0,?_⟩))⟩
    ·simp only[go_sem,L8,aJ,Q5,bg,aG b0,reduceIte,jO b1 bn,ii bn,cu bk,hA,hV,h1]
    ·rw[ax]
     simp only[go_sem,aa,Q5,bg,af hs (w:=[97,114,114,97,121]) rfl b0,af hs (w:=[118,97,114]) rfl b0,dO,dj b1,reduceIte,cu bk,fE hc,cg hc,hA,hV,h1];rw[ax];simp only[go_sem,aa,show((6:Int)==0)=false from rfl]
   |true=>
   cases h2:a6 ts (a+1+1) [59] with
   |false=>
    refine⟨.er 6 (pl ts en (a+1+1)),hc,cq.succ (cq.succ (cq.of fun q k=>⟨?_,l++[0],a+1+1,ns,0,?_⟩))⟩
    ·simp only[go_sem,L8,aJ,Q5,bg,aG b0,reduceIte,bE b2,jO b1 bn,ii bn,cu bk,hA,hV,h1,h2]
    ·rw[ax]
     simp only[go_sem,aa,Q5,bg,af hs (w:=[97,114,114,97,121]) rfl b0,af hs (w:=[118,97,114]) rfl b0,dO,dj b1,aI hs (w:=[59]) rfl b2,reduceIte,cu bk,cg hc,hA,hV,h1,h2];rw[ax];simp only[go_sem,aa,show((6:Int)==0)=false from rfl]
   |true=>
   have l1:=jQ h1;have l5:=bz h2;obtain⟨x1,x2⟩:=Zg (k:=3) (y:=(3,(tk ts (a+1)).2.1,0,(tk ts (a+1)).2.2.1,[])) rfl rfl (by decide) rfl rfl hk p4
   obtain⟨r,gi,gr⟩:=ih (a+1+1+1) (ns++[(3,(tk ts (a+1)).2.1,0,(tk ts (a+1)).2.2.1,[])]) (l++[(ns.length:Int)]) (by omega) ⟨by omega,p2,by simp;omega,x1⟩ x2 (by simp;omega)
   refine⟨r,gi.from (by omega) (by simp;omega) (aLa _ _) (by simp;omega) (by rw[qB,o9,og,zW,pS (aLa _ _) hk.v];simp;omega),cq.succ (gr.mono fun q k e=>⟨?_,?_⟩)⟩
   ·simp only[go_sem,aJ,Q5,bg,aG b0,reduceIte,bE b2,jO b1 bn,ii bn,cu bk,hA,hV,h1,h2]
    exact e.1
   ·rw[ax]
    simp only[go_sem,aa,Q5,bg,af hs (w:=[97,114,114,97,121]) rfl b0,af hs (w:=[118,97,114]) rfl b0,dO,dj b1,aI hs (w:=[59]) rfl b2,reduceIte,fv bn,cu bk,hA,hV,h1,h2,tO l1];exact e.2
  |false=>
  cases hF:a6 ts a [102,117,110,99] with
  |false=>
   refine⟨.er 6 (pl ts en a),hc,cq.succ (cq.succ ((afu (ts:=ts) (en:=en) (p:=pl ts en a) hc).tj.mono fun q k e=>?_))⟩;obtain⟨v,a',et,d',e⟩:=fA.vK (e a ns 0);refine⟨?_,l++[v],a',et,d',?_⟩
   ·simp only[go_sem,L8,aJ,Q5,bg,aG b0,reduceIte,ii bn,cu bk,AG,hA,hV,hF]
   ·rw[ax]
    simp only[go_sem,aa,Q5,bg,af hs (w:=[97,114,114,97,121]) rfl b0,af hs (w:=[118,97,114]) rfl b0,aI hs (w:=[102,117,110,99]) rfl b0,dO,reduceIte,cu bk,hA,hV,hF,e];rw[ax];simp only[go_sem,aa,show((6:Int)==0)=false from rfl]
  |true=>
  obtain⟨r,hi,hr⟩:=ag2 (en:=en) hs (a:=a+1) (d:=0) (ns:=ns) ⟨by omega,p2,by omega,p4⟩
  cases r with
  |er c p=>
   have hc':c≠0:=hi;refine⟨.er c p,hi,cq.succ (cq.succ (hr.tj.mono fun q k e=>?_))⟩;obtain⟨e1,v,a',et,d',e2⟩:=e;refine⟨?_,l++[v],a',et,d',?_⟩
   ·simp only[go_sem,L8,aJ,Q5,bg,aG b0,reduceIte,ii bn,cu bk,AG,hA,hV,hF,show cY q ts en ((a+1:Nat):Int) 0 ns=_ from e1]
   ·rw[ax]
    simp only[go_sem,aa,Q5,bg,af hs (w:=[97,114,114,97,121]) rfl b0,af hs (w:=[118,97,114]) rfl b0,aI hs (w:=[102,117,110,99]) rfl b0,dO,reduceIte,cu bk,hA,hV,hF,show dm q ts ((a+1:Nat):Int) en ns 0 0 0=_ from e2]
    rw[ax];simp only[go_sem,aa,Q6.2 hc']
  |ok v a1 d1 nh=>
   obtain⟨q1,q2,rfl,q3,q4,q5,q6,q7,q8,q9⟩:=hi;obtain⟨r,gi,gr⟩:=ih a1 nh (l++[v]) (by omega) ⟨q2,p2,by omega,q5⟩ ((hk.up q4).add q6 q7 (by rw[a9a.1 q8];rfl)) (by simp;omega)
   refine⟨r,gi.from (by omega) (by omega) q4 (by simp;omega) (by rw[qB,o9,pS q4 hk.v];omega),cq.succ ((hr.tj.and gr).mono fun q k e=>?_)⟩
   obtain⟨⟨e1,e2⟩,e3,e4⟩:=e;refine⟨?_,?_⟩
   ·simp only[go_sem,aJ,Q5,bg,aG b0,reduceIte,ii bn,cu bk,AG,hA,hV,hF,show cY q ts en ((a+1:Nat):Int) 0 ns=_ from e1]
    exact e3
   ·rw[ax]
    simp only[go_sem,aa,Q5,bg,af hs (w:=[97,114,114,97,121]) rfl b0,af hs (w:=[118,97,114]) rfl b0,aI hs (w:=[102,117,110,99]) rfl b0,dO,reduceIte,cu bk,hA,hV,hF,show dm q ts ((a+1:Nat):Int) en ns 0 0 0=_ from e2]
    exact e4
structure U5(ns:List eu):Prop where
 all:jz ns
 len:ns.length≤1401
 aid:∃(ns0:List eu) (l:XI),ns=ns0++[(1,0,0,[],l)]∧ja F9 ns0 l∧jM ns0 l≤ns0.length
theorem VH(t:ab):(∃ ns,U5 ns∧Ev fun k=>gQ k t=some (ns,(0,0),())∧pA k t=some (ns,(0,0),()))∨
  ∃(c p:Int),c≠0∧Ev fun k=>gQ k t=some ([],(c,p),())∧pA k t=some ([],(c,p),()):=by
 rcases aad t with ⟨ts,hl,h7,hok,he⟩|⟨c,p,hc,he⟩
 ·have hs:pp ts:=⟨h7,hok⟩
  obtain⟨r,hi,hr⟩:=Sw (en:=(t.length:Int)) hs _ 0 [] [] (awa _) ⟨by omega,by omega,by simp,jz.nil⟩ ja.nil (by simp)
  have hr:=hr.jY;cases r with
  |er c p=>
   have hc:c≠0:=hi;refine .inr ⟨c,p,hc,(he.and hr).mono fun k e=>?_⟩;obtain⟨⟨e1,e2⟩,e3,l',a',et,d',e4⟩:=e;have e3:aJ k k ts (t.length:Int) 0 0 [] []=_:=e3;have e4:ax k k ts (t.length:Int) 0 [] 0 0 0 []=_:=e4;refine⟨?_,?_⟩
   ·simp only[go_sem,gQ,rC,e1,e4,cg hc,aUa.2 hc]
   ·simp only[go_sem,pA,oH,e2,e3]
  |ok l a ns=>
   have hi':LOk ts F9 0 [] 0 (jM [] []) l a ns:=hi;obtain⟨g1,g2,g3,g4,g5,g6,g7,g8⟩:=hi';rw[zW] at g8;simp only[aCa] at g3 g8;have m:ns.length≤4000000:=by omega
   refine .inl ⟨ns++[(1,0,0,[],l)],⟨g5.add ⟨g6.v,?_,by simp,by simp at g7 ⊢;omega⟩,by simp;omega,ns,l,rfl,g6,by omega⟩,(he.and hr).mono fun k e=>?_⟩
   ·have:(l.map (kd ns)).all F9=true:=by rw[cPa];exact ana.2 g6.c
    simpa[cf] using this
   ·obtain⟨⟨e1,e2⟩,e3,e4⟩:=e
    have e3:aJ k k ts (t.length:Int) 0 0 [] []=_:=e3;have e4:ax k k ts (t.length:Int) 0 [] 0 0 0 []=_:=e4;refine⟨?_,?_⟩
    ·simp only[go_sem,gQ,rC,e1,e4,fv m,aYa]
    ·simp only[go_sem,pA,oH,e2,e3,ii m]
 ·refine .inr ⟨c,p,hc,he.mono fun k e=>?_⟩
  simp only[go_sem,gQ,pA,e.1,e.2,aUa.2 hc,aPa]
end
end Go.Fx.R5
namespace Go.Fx.R5
open Go Go.Fx
abbrev AS:=XA
abbrev FS:=XF
abbrev zw:=AS×XS×FS
def nM{α:Type}(p:α→Bool):List α→Int→Int
 |[],_=>-1
 |x::r,i=>bif p x then i else nM p r (i+1)
section
variable {α:Type} {p:α→Bool}
theorem rx:∀(l:List α) (i:Int),0≤i→(nM p l i = -1∧∀ x∈l,p x=false)∨(∃ n x,nM p l i=i+(n:Nat)∧l[n]? = some x∧p x=true)
 |[],i,h=>.inl ⟨rfl,by simp⟩
 |x::r,i,h=>by
  cases hp:p x with
  |true=>exact .inr ⟨0,x,by simp[nM,hp],rfl,hp⟩
  |false=>
   rcases rx r (i+1) (by omega) with ⟨e,f⟩|⟨n,y,e,f,g⟩
   ·exact .inl ⟨by simp[nM,hp,e],by simpa[hp] using f⟩
   ·exact .inr ⟨n+1,y,by simp[nM,hp,e];omega,by simpa using f,g⟩
theorem Ju{l:List α}(h:0≤nM p l 0):∃(n:Nat) (x:α),nM p l 0=(n:Int)∧l[n]? = some x∧p x=true:=by
 rcases rx (p:=p) l 0 (by omega) with ⟨e,_⟩|⟨n,x,e,f,g⟩
 ·omega
 ·exact⟨n,x,by omega,f,g⟩
theorem W7{l:List α}(h:¬ 0≤nM p l 0):nM p l 0 = -1∧∀ x∈l,p x=false:=by
 rcases rx (p:=p) l 0 (by omega) with e|⟨n,x,e,f,g⟩
 ·exact e
 ·omega
theorem Cx{l:List α}:0≤nM p l 0↔∃ x∈l,p x=true:=by
 constructor
 ·intro h
  obtain⟨n,x,_,f,g⟩:=Ju h;exact⟨x,a1a f,g⟩
 ·rintro⟨x,hx,g⟩
  apply Decidable.byContradiction;intro h;rw[(W7 h).2 x hx] at g;cases g
theorem aaL{l:List α}(h:0≤nM p l 0):nM p l 0<l.length:=by obtain⟨n,x,e,f,_⟩:=Ju h;have:=(aka.1 f).1;omega
end
def plX(n:Int):Unit⊕(Int×Unit):=bif decide (0≤n) then .inr (n,()) else .inl ()
def plY(k n:Int):Unit⊕(Int×Int×Unit):=bif decide (0≤n) then .inr (k,n,()) else .inl ()
theorem ze{α:Type}{p:α→Bool}{l:List α}{i:Nat}(h:i<l.length):nM p (l.drop i) (i:Int)=bif p l[i] then(i:Int) else nM p (l.drop (i+1)) ((i+1:Nat):Int):=by rw[aQa h];rfl
theorem WP(l:XF)(s:ab)(hl:l.length≤1000000):∀ m i,m+i=l.length→cq fun q k=>nr q k l s (i:Int)=some (plX (nM (fun x=>x.1==s) (l.drop i) (i:Int)))
 |0,i,h=>by
  have h2:¬ i<l.length:=by omega
  have e:l.drop i=[]:=by simp;omega
  rw[e];exact cq.succ (cq.of fun q k=>by simp only[go_sem,nr,Q5,h2];rfl)
 |m+1,i,h=>by
  have bg:i<l.length:=by omega
  refine cq.succ ((WP l s hl m (i+1) (by omega)).mono fun q k e=>?_)
  simp only[go_sem,nr,Q5,bg,cB bg,ai (show i<_ by omega),e,ze (p:=fun x:(ab×Int×XS×XS×Int)=>x.1==s) bg]
  cases (l[i].1==s) with
  |true=>simp[plX]
  |false=>simp
theorem WR(l:XS)(s:ab)(hl:l.length≤1000000):∀ m i,m+i=l.length→cq fun q k=>mj q k l s (i:Int)=some (plX (nM (fun x=>x==s) (l.drop i) (i:Int)))
 |0,i,h=>by
  have h2:¬ i<l.length:=by omega
  have e:l.drop i=[]:=by simp;omega
  rw[e];exact cq.succ (cq.of fun q k=>by simp only[go_sem,mj,Q5,h2];rfl)
 |m+1,i,h=>by
  have bg:i<l.length:=by omega
  refine cq.succ ((WR l s hl m (i+1) (by omega)).mono fun q k e=>?_)
  simp only[go_sem,mj,Q5,bg,cB bg,ai (show i<_ by omega),e,ze (p:=fun x:ab=>x==s) bg]
  cases (l[i]==s) with
  |true=>simp[plX]
  |false=>simp
theorem aai(l:XA)(s:ab)(hl:l.length≤1000000):∀ m i,m+i=l.length→cq fun q k=>mi q k l s (i:Int)=some (plX (nM (fun x=>x.1==s) (l.drop i) (i:Int)))
 |0,i,h=>by
  have h2:¬ i<l.length:=by omega
  have e:l.drop i=[]:=by simp;omega
  rw[e];exact cq.succ (cq.of fun q k=>by simp only[go_sem,mi,Q5,h2];rfl)
 |m+1,i,h=>by
  have bg:i<l.length:=by omega
  refine cq.succ ((aai l s hl m (i+1) (by omega)).mono fun q k e=>?_)
  simp only[go_sem,mi,Q5,bg,cB bg,ai (show i<_ by omega),e,ze (p:=fun x:(ab×Int)=>x.1==s) bg]
  cases (l[i].1==s) with
  |true=>simp[plX]
  |false=>simp
theorem WQ(l:XF)(s:ab)(hl:l.length≤1000000):∀ m i,m+i=l.length→cq fun q k=>kK q k l (l.length:Int) (i:Int)=some (plX (nM (fun x=>x.1==([109,97,105,110]:ab)) (l.drop i) (i:Int)))
 |0,i,h=>by
  have h2:¬ i<l.length:=by omega
  have e:l.drop i=[]:=by simp;omega
  rw[e];exact cq.succ (cq.of fun q k=>by simp only[go_sem,kK,Q5,h2];rfl)
 |m+1,i,h=>by
  have bg:i<l.length:=by omega
  refine cq.succ ((WQ l s hl m (i+1) (by omega)).mono fun q k e=>?_)
  simp only[go_sem,kK,Q5,bg,cB bg,ai (show i<_ by omega),e,ze (p:=fun x:(ab×Int×XS×XS×Int)=>x.1==([109,97,105,110]:ab)) bg]
  cases (l[i].1==([109,97,105,110]:ab)) with
  |true=>simp[plX]
  |false=>simp
theorem aaj(l:XS)(s:ab)(hl:l.length≤1000000):∀ m i,m+i=l.length→cq fun q k=>ka q k s l (l.length:Int) (i:Int)=some (plX (nM (fun x=>x==s) (l.drop i) (i:Int)))
 |0,i,h=>by
  have h2:¬ i<l.length:=by omega
  have e:l.drop i=[]:=by simp;omega
  rw[e];exact cq.succ (cq.of fun q k=>by simp only[go_sem,ka,Q5,h2];rfl)
 |m+1,i,h=>by
  have bg:i<l.length:=by omega
  refine cq.succ ((aaj l s hl m (i+1) (by omega)).mono fun q k e=>?_)
  simp only[go_sem,ka,Q5,bg,cB bg,ai (show i<_ by omega),e,ze (p:=fun x:ab=>x==s) bg]
  cases (l[i]==s) with
  |true=>simp[plX]
  |false=>simp
theorem ads(l:XA)(s:ab)(hl:l.length≤1000000):∀ m i,m+i=l.length→cq fun q k=>jH q k s l (l.length:Int) (i:Int)=some (plY 1 (nM (fun x=>x.1==s) (l.drop i) (i:Int)))
 |0,i,h=>by
  have h2:¬ i<l.length:=by omega
  have e:l.drop i=[]:=by simp;omega
  rw[e];exact cq.succ (cq.of fun q k=>by simp only[go_sem,jH,Q5,h2];rfl)
 |m+1,i,h=>by
  have bg:i<l.length:=by omega
  refine cq.succ ((ads l s hl m (i+1) (by omega)).mono fun q k e=>?_)
  simp only[go_sem,jH,Q5,bg,cB bg,ai (show i<_ by omega),e,ze (p:=fun x:(ab×Int)=>x.1==s) bg]
  cases (l[i].1==s) with
  |true=>simp[plY]
  |false=>simp
theorem adt(l:XF)(s:ab)(hl:l.length≤1000000):∀ m i,m+i=l.length→cq fun q k=>jI q k s l (l.length:Int) (i:Int)=some (plY 5 (nM (fun x=>x.1==s) (l.drop i) (i:Int)))
 |0,i,h=>by
  have h2:¬ i<l.length:=by omega
  have e:l.drop i=[]:=by simp;omega
  rw[e];exact cq.succ (cq.of fun q k=>by simp only[go_sem,jI,Q5,h2];rfl)
 |m+1,i,h=>by
  have bg:i<l.length:=by omega
  refine cq.succ ((adt l s hl m (i+1) (by omega)).mono fun q k e=>?_)
  simp only[go_sem,jI,Q5,bg,cB bg,ai (show i<_ by omega),e,ze (p:=fun x:(ab×Int×XS×XS×Int)=>x.1==s) bg]
  cases (l[i].1==s) with
  |true=>simp[plY]
  |false=>simp
theorem ag0{n:Int}{α:Type}{f:Int→Option α}{g:Option α}(h:-1≤n):(match plX n with | .inl _=>g | .inr o2=>f o2.1)=bif decide (0≤n) then f n else g:=by unfold plX;cases decide (0≤n)<;>rfl
theorem ahM{α:Type}{p:α→Bool}(l:List α):-1≤nM p l 0:=by rcases rx (p:=p) l 0 (by omega) with e|⟨n,x,e,_⟩<;>omega
theorem JA(l:XS)(s:ab)(hl:l.length≤1000000):Ev fun k=>ik k l s=some (nM (fun x=>x==s) l 0,()):=
 (WR l s hl l.length 0 rfl).jY.mono fun k e=>by
  simp only[go_sem,ik,show mj k k l s 0=_ from e,bMa,plX]
  rcases rx (p:=fun x=>x==s) l 0 (by omega) with ⟨e,_⟩|⟨n,x,e,_⟩<;>(simp only[b1a,e];simp)
theorem SA(t:zw)(s:ab)(hl:t.2.2.length≤1000000):Ev fun k=>kr k t s=some (nM (fun x=>x.1==s) t.2.2 0,()):=
 (WP t.2.2 s hl t.2.2.length 0 rfl).jY.mono fun k e=>by
  simp only[go_sem,kr,show nr k k t.2.2 s 0=_ from e,bMa,plX]
  rcases rx (p:=fun x:ab×Int×XS×XS×Int=>x.1==s) t.2.2 0 (by omega) with ⟨e,_⟩|⟨n,x,e,_⟩<;>(simp only[b1a,e];simp)
theorem acx(t:zw)(s:ab)(hl:t.1.length≤1000000):Ev fun k=>od k t s=some (nM (fun x=>x.1==s) t.1 0,()):=
 (aai t.1 s hl t.1.length 0 rfl).jY.mono fun k e=>by
  simp only[go_sem,od,show mi k k t.1 s 0=_ from e,bMa,plX]
  rcases rx (p:=fun x:ab×Int=>x.1==s) t.1 0 (by omega) with ⟨e,_⟩|⟨n,x,e,_⟩<;>(simp only[b1a,e];simp)
theorem aep(t:zw)(hl:t.2.2.length≤1000000):Ev fun k=>vN k t=some (nM (fun x=>x.1==([109,97,105,110]:ab)) t.2.2 0,()):=
 (WQ t.2.2 [] hl t.2.2.length 0 rfl).jY.mono fun k e=>by
  simp only[go_sem,vN,show kK k k t.2.2 (t.2.2.length:Int) 0=_ from e,bMa,plX]
  rcases rx (p:=fun x:ab×Int×XS×XS×Int=>x.1==([109,97,105,110]:ab)) t.2.2 0 (by omega) with ⟨e,_⟩|⟨n,x,e,_⟩<;>(simp only[b1a,e];simp)
theorem Z0(l:XS)(s:ab)(hl:l.length≤1000000):Ev fun k=>m9 k l s=some (nM (fun x=>x==s) l 0,()):=
 (aaj l s hl l.length 0 rfl).jY.mono fun k e=>by
  simp only[go_sem,m9,show ka k k s l (l.length:Int) 0=_ from e,bMa,plX]
  rcases rx (p:=fun x=>x==s) l 0 (by omega) with ⟨e,_⟩|⟨n,x,e,_⟩<;>(simp only[b1a,e];simp)
def Pw(t:zw)(s:ab):Int×Int:=
 bif decide (0≤nM (fun x=>x.1==s) t.1 0) then(1,nM (fun x=>x.1==s) t.1 0) else
 bif decide (0≤nM (fun x=>x==s) t.2.1 0) then(2,nM (fun x=>x==s) t.2.1 0) else
 bif decide (0≤nM (fun x=>x.1==s) t.2.2 0) then(5,nM (fun x=>x.1==s) t.2.2 0) else(0,0)
def nk(t:zw)(fn s:ab):Int×Int:=
 match t.2.2.find? (fun x=>x.1==fn) with
 |none=>Pw t s
 |some x=>bif decide (0≤nM (fun y=>y==s) x.2.2.1 0) then(3,nM (fun y=>y==s) x.2.2.1 0) else
  bif decide (0≤nM (fun y=>y==s) x.2.2.2.1 0) then(4,nM (fun y=>y==s) x.2.2.2.1 0) else Pw t s
structure iO(t:zw):Prop where
 a:t.1.length≤4
 g:t.2.1.length≤4
 f:t.2.2.length≤6
 i:∀ x∈t.2.2,x.2.2.1.length≤8∧x.2.2.2.1.length≤3∧0≤x.2.1∧x.2.1≤3
theorem aaK{α:Type}{p:α→Bool}:∀(l:List α),(nM p l 0 = -1∧l.find? p=none)∨∃(n:Nat) (x:α),nM p l 0=(n:Int)∧l[n]? = some x∧l.find? p=some x:=by
 have key:∀(l:List α) (i:Int),0≤i→(nM p l i = -1∧l.find? p=none)∨∃(n:Nat) (x:α),nM p l i=i+(n:Int)∧l[n]? = some x∧l.find? p=some x:=by
  intro l;induction l with
  |nil=>intro i _;exact .inl ⟨rfl,rfl⟩
  |cons y r ih=>
   intro i hi;cases hp:p y with
   |true=>exact .inr ⟨0,y,by simp[nM,hp],rfl,by simp[hp]⟩
   |false=>
    rcases ih (i+1) (by omega) with ⟨e,f⟩|⟨n,x,e,f,g⟩
    ·exact .inl ⟨by simp[nM,hp,e],by simp[hp,f]⟩
    ·exact .inr ⟨n+1,x,by simp[nM,hp,e];omega,by simpa using f,by simp[hp,g]⟩
 intro l;rcases key l 0 (by omega) with h|⟨n,x,e,f,g⟩
 ·exact .inl h
 ·exact .inr ⟨n,x,by omega,f,g⟩
theorem ge0(n:Int):decide (n≥0)=decide (0≤n):=rfl
theorem VT{t:zw}(ht:iO t)(fn s:ab):Ev fun k=>cR k t fn s=some ((nk t fn s).1,(nk t fn s).2,()):=by
 have e1:=SA t fn (by have:=ht.f;omega)
 have e2:=acx t s (by have:=ht.a;omega)
 have e3:=JA t.2.1 s (by have:=ht.g;omega)
 have e4:=SA t s (by have:=ht.f;omega)
 have tail:∀ k,od k t s=some (nM (fun x=>x.1==s) t.1 0,())→ik k t.2.1 s=some (nM (fun x=>x==s) t.2.1 0,())→kr k t s=some (nM (fun x=>x.1==s) t.2.2 0,())→
   ((od k t s).bind fun r6=>
   bif decide (r6.1≥0) then
    (od k t s).bind fun r7=>
    some ((1:Int),r7.1,())
   else
    (ik k t.2.1 s).bind fun r8=>
    bif decide (r8.1≥0) then
     (ik k t.2.1 s).bind fun r9=>
     some (2,r9.1,())
    else
     (kr k t s).bind fun kz=>
     bif decide (kz.1≥0) then
      (kr k t s).bind fun n8=>
      some (5,n8.1,())
     else
      some (0,0,()))=some ((Pw t s).1,(Pw t s).2,()):=by
  intro k a1 a2 a3;simp only[go_sem,a1,a2,a3,Pw,ge0];cases decide (0≤nM (fun x=>x.1==s) t.1 0)<;>cases decide (0≤nM (fun x=>x==s) t.2.1 0)<;>cases decide (0≤nM (fun x=>x.1==s) t.2.2 0)<;>rfl
 rcases aaK (p:=fun x:ab×Int×XS×XS×Int=>x.1==fn) t.2.2 with ⟨f1,f2⟩|⟨n,x,f1,f2,f3⟩
 ·refine((e1.and e2).and (e3.and e4)).mono fun k e=>?_
  simp only[go_sem,cR,e.1.1,f1,aa,ge0,show decide ((0:Int)≤-1)=false from rfl,nk,f2]
  exact tail k e.1.2 e.2.1 e.2.2
 ·have hb:=ht.i x (a1a f2)
  have e5:=JA x.2.2.1 s (by omega)
  have e6:=JA x.2.2.2.1 s (by omega)
  refine(((e1.and e2).and (e3.and e4)).and (e5.and e6)).mono fun k e=>?_;simp only[go_sem,cR,e.1.1.1,f1,aa,ge0,show decide ((0:Int)≤(n:Int))=true by simp,bf f2,e.2.1,e.2.2,nk,f3]
  cases decide (0≤nM (fun y=>y==s) x.2.2.1 0) with
  |true=>rfl
  |false=>
   cases decide (0≤nM (fun y=>y==s) x.2.2.2.1 0) with
   |true=>rfl
   |false=>simp only[go_sem];exact tail k e.1.1.2 e.1.2.1 e.1.2.2
def k0X(s:ab):Option (ab×Int×XS×XS×Int)→Unit⊕(Int×Int×Unit)
 |none=>.inl ()
 |some x=>bif decide (0≤nM (fun y=>y==s) x.2.2.1 0) then .inr (3,nM (fun y=>y==s) x.2.2.1 0,()) else(bif decide (0≤nM (fun y=>y==s) x.2.2.2.1 0) then .inr (4,nM (fun y=>y==s) x.2.2.2.1 0,()) else .inl ())
theorem WF{F:FS}(hF:∀ x∈F,x.2.2.1.length≤8∧x.2.2.2.1.length≤3)(hl:F.length≤6)(fn s:ab):∀ m i,m+i=F.length→cq fun q k=>kG q k fn s F (F.length:Int) (i:Int) =
  some (k0X s ((F.drop i).find? (fun x=>x.1==fn)))
 |0,i,h=>by
  have h2:¬ i<F.length:=by omega
  have e:F.drop i=[]:=by simp;omega
  rw[e];exact cq.succ (cq.of fun q k=>by simp only[go_sem,kG,Q5,h2];rfl)
 |m+1,i,h=>by
  have bg:i<F.length:=by omega
  have hb:=hF F[i] (aRa bg);refine cq.succ (((WF hF hl fn s m (i+1) (by omega)).and ((Z0 F[i].2.2.1 s (by omega)).and (Z0 F[i].2.2.2.1 s (by omega))).tj).mono fun q k e=>?_)
  rw[aQa bg,List.find?_cons];simp only[go_sem,kG,Q5,bg,cB bg,ai (show i<_ by omega),e.1,e.2.1,e.2.2,ge0]
  cases (F[i].1==fn) with
  |false=>rfl
  |true=>simp only[go_sem,k0X];cases decide (0≤nM (fun y=>y==s) F[i].2.2.1 0)<;>cases decide (0≤nM (fun y=>y==s) F[i].2.2.2.1 0)<;>rfl
theorem ZZ{t:zw}(ht:iO t)(fn s:ab):Ev fun k=>fF k t fn s=some ((nk t fn s).1,(nk t fn s).2,()):=by
 have e1:=(WF (fun x hx=>let h:=ht.i x hx;⟨h.1,h.2.1⟩) ht.f fn s t.2.2.length 0 rfl).jY
 have e2:=(ads t.1 s (by have:=ht.a;omega) t.1.length 0 rfl).jY
 have e3:=Z0 t.2.1 s (by have:=ht.g;omega)
 have e4:=(adt t.2.2 s (by have:=ht.f;omega) t.2.2.length 0 rfl).jY
 refine((e1.and e2).and (e3.and e4)).mono fun k e=>?_;obtain⟨⟨e1,e2⟩,e3,e4⟩:=e;have e1:kG k k fn s t.2.2 (t.2.2.length:Int) 0=_:=e1;have e2:jH k k s t.1 (t.1.length:Int) 0=_:=e2;have e4:jI k k s t.2.2 (t.2.2.length:Int) 0=_:=e4;simp only[bMa,b1a] at e1 e2 e4;have tail:((jH k k s t.1 (t.1.length:Int) 0).bind fun r=>match r with
  |.inl o3=>
   (m9 k t.2.1 s).bind fun r1=>
   bif decide (r1.1≥0) then
    some ((2:Int),r1.1,())
   else
    (jI k k s t.2.2 (t.2.2.length:Int) 0).bind fun r=>match r with
    |.inl o5=>
     some (0,0,())
    |.inr o6=>
     some (o6.1,o6.2.1,())
  |.inr o4=>
   some (o4.1,o4.2.1,()))=some ((Pw t s).1,(Pw t s).2,()):=by
   simp only[go_sem,e2,e3,e4,Pw,ge0,plY];cases decide (0≤nM (fun x=>x.1==s) t.1 0)<;>cases decide (0≤nM (fun x=>x==s) t.2.1 0)<;>cases decide (0≤nM (fun x=>x.1==s) t.2.2 0)<;>rfl
 simp only[go_sem,fF,e1,nk];cases hf:t.2.2.find? (fun x=>x.1==fn) with
 |none=>simp only[k0X];exact tail
 |some x=>
   simp only[k0X];cases decide (0≤nM (fun y=>y==s) x.2.2.1 0) with
   |true=>rfl
   |false=>
     cases decide (0≤nM (fun y=>y==s) x.2.2.2.1 0) with
     |true=>rfl
     |false=>simp only[go_sem];exact tail
end Go.Fx.R5
namespace Go.Fx.R5
open Go Go.Fx
theorem Fq(D:AS)(n s:ab)(v:Int):qE (ro D n v) s=if n=s then v else qE D s:=by
 induction D with
 |nil=>by_cases h:n=s<;>simp[ro,qE,h]
 |cons p r ih=>
  by_cases h:p.1=n
  ·subst h;by_cases h2:p.1=s<;>simp[ro,qE,h2]
  ·simp only[go_sem,ro,h,qE,ih]
   by_cases h2:p.1=s
   ·have:¬ n=s:=fun e=>h (by rw[h2,e])
    simp[h2,this]
   ·simp[h2]
def pG(t:zw)(s:ab):Prop:=(∃ x∈t.1,x.1=s)∨s∈t.2.1∨∃ x∈t.2.2,x.1=s
theorem WV(t:zw)(s:ab):(Pw t s).1≠0↔pG t s:=by
 have h1:(0≤nM (fun x:ab×Int=>x.1==s) t.1 0)↔∃ x∈t.1,x.1=s:=by rw[Cx];simp
 have h2:(0≤nM (fun x=>x==s) t.2.1 0)↔s∈t.2.1:=by rw[Cx];simp
 have h3:(0≤nM (fun x:ab×Int×XS×XS×Int=>x.1==s) t.2.2 0)↔∃ x∈t.2.2,x.1=s:=by rw[Cx];simp
 unfold pG;rw[←h1,←h2,←h3];simp only[Pw];by_cases g1:0≤nM (fun x:ab×Int=>x.1==s) t.1 0
 ·simp[g1]
 ·by_cases g2:0≤nM (fun x=>x==s) t.2.1 0
  ·simp[g1,g2]
  ·by_cases g3:0≤nM (fun x:ab×Int×XS×XS×Int=>x.1==s) t.2.2 0<;>simp[g1,g2,g3]
theorem acb{t:zw}{s:ab}(h:∀ x∈t.2.2,x.1≠[]):nk t [] s=Pw t s:=by
 have:t.2.2.find? (fun x=>x.1==([]:ab))=none:=by rw[List.find?_eq_none];intro x hx;simpa using h x hx
 simp only[nk,this]
theorem abM{F:FS}(hd:F.Pairwise fun x y=>x.1≠y.1):∀{f:Nat} {x:ab×Int×XS×XS×Int},F[f]? = some x→F.find? (fun y=>y.1==x.1)=some x:=by
 induction F with
 |nil=>intro f x h;simp at h
 |cons y r ih=>
  intro f x h;obtain⟨h1,h2⟩:=List.pairwise_cons.1 hd;cases f with
  |zero=>simp at h;subst h;simp
  |succ f=>
   have h:r[f]? = some x:=by simpa using h
   have:y.1≠x.1:=h1 x (a1a h);rw[List.find?_cons,Q6.2 this];exact ih h2 h
theorem aeD{t:zw}(hd:t.2.2.Pairwise fun x y=>x.1≠y.1){f:Nat}{x:ab×Int×XS×XS×Int}(h:t.2.2[f]? = some x)(s:ab):
  (nk t x.1 s).1≠0↔(s∈x.2.2.1∨s∈x.2.2.2.1)∨pG t s:=by
 have h2:(0≤nM (fun y=>y==s) x.2.2.1 0)↔s∈x.2.2.1:=by rw[Cx];simp
 have h3:(0≤nM (fun y=>y==s) x.2.2.2.1 0)↔s∈x.2.2.2.1:=by rw[Cx];simp
 simp only[nk,abM hd h];rw[←h2,←h3,←WV];by_cases g2:0≤nM (fun y=>y==s) x.2.2.1 0
 ·simp[g2]
 ·by_cases g3:0≤nM (fun y=>y==s) x.2.2.2.1 0<;>simp[g2,g3]
structure P1(ns:List eu)(t:zw)(D:AS):Prop where
 iE:iO t
 ne:∀ x∈t.2.2,x.1≠[]
 bd:∀ x∈t.2.2,0≤x.2.2.2.2∧x.2.2.2.2<ns.length∧kd ns x.2.2.2.2=8∧wt ns x.2.2.2.2≤ns.length
 Zk:t.2.2.Pairwise fun x y=>x.1≠y.1
 dec:∀ s,0<qE D s↔pG t s
theorem OY{ns:List eu}{i:Nat}{x:eu}(h:ns[i]? = some x)(hk:∀ j∈x.2.2.2.2,0≤j∧j<(i:Int)):wt ns (i:Int)=1+jM ns x.2.2.2.2:=by
 obtain⟨hl,hx⟩:=aka.1 h;have hp:ns.take i++[x] <+: ns:=⟨ns.drop (i+1),by rw[←hx];simp⟩
 have If:ns.take i <+: ns:=List.take_prefix _ _;have jy:(ns.take i).length=i:=by simp;omega
 rw[rT hp (by omega) (by simp;omega)]
 have:=og (ns:=ns.take i) (x:=x);rw[jy] at this;rw[this,pS If (fun j hj=>by rw[jy];exact hk j hj)]
theorem abr{ns:List eu}{l:XI}{j:Int}(h:j∈l):wt ns j≤jM ns l:=by
 induction l with
 |nil=>cases h
 |cons a l ih=>
  have e:jM ns (a::l)=wt ns a+jM ns l:=by simp[jM]
  rcases ama.1 h with rfl|h
  ·omega
  ·have:=ih h;omega
theorem vu{ns:List eu}{j:Int}(h0:0≤j)(h1:j<ns.length):∃ x,ns[j.toNat]? = some x∧kd ns j=x.1∧bC ns j=some x:=by
 have:j.toNat<ns.length:=by omega
 refine⟨ns[j.toNat],by simp[this],by simp[kd,this],?_⟩
 have:bC ns ((j.toNat:Nat):Int)=some ns[j.toNat]:=cB this;rwa[aNa h0] at this
theorem aa4{ns:List eu}{i:Nat}{x:eu}(h:oi ns i x)(hk:x.1=4):∃ b,x.2.2.2.2.getLast? = some b∧0≤b∧b<i∧kd ns b=8∧(∀ j∈x.2.2.2.2.dropLast,0≤j∧j<i∧wO (kd ns j)=true):=by
 have hs:=h.shp;rw[hk] at hs;have hs:((x.2.2.2.2.map (kd ns)).dropLast.all wO&&((x.2.2.2.2.map (kd ns)).getLast?==some 8))=true:=hs;simp only[Q3,a9a] at hs;cases hl:x.2.2.2.2.getLast? with
 |none=>rw[List.getLast?_map,hl] at hs;simp at hs
 |some b=>
  have hb:=List.mem_of_getLast? hl;have:=h.cG b hb;refine⟨b,rfl,this.1,this.2,?_,fun j hj=>?_⟩
  ·rw[List.getLast?_map,hl] at hs;simpa using hs.2
  ·have:=h.cG j ((List.dropLast_sublist _).subset hj)
   refine⟨this.1,this.2,?_⟩;have h1:=hs.1;rw[←List.map_dropLast,cPa,ana] at h1;exact h1 j hj
theorem aaa{l:XI}{b:Int}(h:l.getLast? = some b)(hl:l.length≤1000000):bC l (bh ((l.length:Int) - 1))=some b:=by
 have hG:l≠[]:=by intro e;rw[e] at h;cases h
 have hp:=List.length_pos_iff.2 hG;rw[bw (by omega) (by omega),show(l.length:Int) - 1=((l.length - 1:Nat):Int) by omega]
 exact bf (by rw[←h,List.getLast?_eq_getElem?])
theorem Id{t:zw}{s:ab}{t':zw}(h:(∃ z,t' = (t.1++[(s,z)],t.2.1,t.2.2))∨t' = (t.1,t.2.1++[s],t.2.2)∨∃ z,t' = (t.1,t.2.1,t.2.2++[(s,z)]))(u:ab):pG t' u↔s=u∨pG t u:=by
 rcases h with ⟨z,rfl⟩|rfl|⟨z,rfl⟩
 ·simp only[pG,aoa,Q7]
  constructor
  ·rintro(⟨x,hx|rfl,rfl⟩|h|h)
   ·exact .inr (.inl ⟨x,hx,rfl⟩)
   ·exact .inl rfl
   ·exact .inr (.inr (.inl h))
   ·exact .inr (.inr (.inr h))
  ·rintro(rfl|⟨x,hx,rfl⟩|h|h)
   ·exact .inl ⟨_,.inr rfl,rfl⟩
   ·exact .inl ⟨x,.inl hx,rfl⟩
   ·exact .inr (.inl h)
   ·exact .inr (.inr h)
 ·simp only[pG,aoa,Q7]
  constructor
  ·rintro(h|(h|rfl)|h)
   ·exact .inr (.inl h)
   ·exact .inr (.inr (.inl h))
   ·exact .inl rfl
   ·exact .inr (.inr (.inr h))
  ·rintro(rfl|h|h|h)
   ·exact .inr (.inl (.inr rfl))
   ·exact .inl h
   ·exact .inr (.inl (.inl h))
   ·exact .inr (.inr h)
 ·simp only[pG,aoa,Q7]
  constructor
  ·rintro(h|h|⟨x,hx|rfl,rfl⟩)
   ·exact .inr (.inl h)
   ·exact .inr (.inr (.inl h))
   ·exact .inr (.inr (.inr ⟨x,hx,rfl⟩))
   ·exact .inl rfl
  ·rintro(rfl|h|h|⟨x,hx,rfl⟩)
   ·exact .inr (.inr ⟨_,.inr rfl,rfl⟩)
   ·exact .inl h
   ·exact .inr (.inl h)
   ·exact .inr (.inr ⟨x,.inl hx,rfl⟩)
theorem RK{t t':zw}{D:AS}{s:ab}(h:∀ u,0<qE D u↔pG t u)(h2:∀ u,pG t' u↔s=u∨pG t u):∀ u,0<qE (ro D s 1) u↔pG t' u:=by
 intro u;rw[Fq,h2];by_cases e:s=u
 ·simp[e]
 ·simp[e,h]
theorem XX{ns:List eu}{t:zw}{D:AS}(hp:P1 ns t D){j:Int}{x:eu}(h0:0≤j)(hx:ns[j.toNat]? = some x)(AQ:bC ns j=some x)(hn:oi ns j.toNat x)(hk:F9 x.1=true)(hl:ns.length≤100000)(hw:wt ns j≤ns.length):
  (∃ c,c≠0∧∃ A' G' F' D',Ev (fun k=>kV k t.1 t.2.1 t.2.2 x=some (t.1,t.2.1,t.2.2,c,()))∧eL t.1 t.2.1 t.2.2 ns j D=some (c,A',G',F',D',()))∨
  ∃(t':zw) (D':AS),P1 ns t' D'∧t'.2.2.length=t.2.2.length+(if x.1=4 then 1 else 0)∧((∀ f∈t.2.2,f.2.1=0∧f.2.2.1=[]∧f.2.2.2.1=[])→∀ f∈t'.2.2,f.2.1=0∧f.2.2.1=[]∧f.2.2.2.1=[])∧
   Ev (fun k=>kV k t.1 t.2.1 t.2.2 x=some (t'.1,t'.2.1,t'.2.2,0,()))∧eL t.1 t.2.1 t.2.2 ns j D=some (0,t'.1,t'.2.1,t'.2.2,D',()):=by
 obtain⟨A,G,F⟩:=t;have hj:j.toNat<ns.length:=(aka.1 hx).1;have hs:=VT hp.iE ([]:ab) x.2.2.2.1;rw[acb hp.ne] at hs;have Vh:=hp.dec x.2.2.2.1;have af9:=WV (A,G,F) x.2.2.2.1;have ha:=hp.iE.a;have hg:=hp.iE.g;have hf:=hp.iE.f;simp only at ha hg hf;by_cases ht:pG (A,G,F) x.2.2.2.1
 ·have h1:0<qE D x.2.2.2.1:=Vh.2 ht
  have h2:((Pw (A,G,F) x.2.2.2.1).1 != 0)=true:=aUa.2 (af9.2 ht);refine .inl ⟨9,by decide,A,G,F,D,hs.mono fun k e=>?_,?_⟩
  ·simp only[go_sem,kV,e,h2]
  ·simp only[go_sem,eL,AQ,bTa,h1]
 ·have h1:¬ 0<qE D x.2.2.2.1:=fun h=>ht (Vh.1 h)
  have h2:((Pw (A,G,F) x.2.2.2.1).1 != 0)=false:=by
   cases h:((Pw (A,G,F) x.2.2.2.1).1 != 0) with
   |false=>rfl
   |true=>exact absurd (af9.1 (aUa.1 h)) ht
  have hk:x.1=2∨x.1=3∨x.1=4:=by simpa[F9,or_assoc] using hk
  rcases hk with hk|hk|hk
  ·
   have hin:tR x.2.2.1 1 64=some (decide (1≤x.2.2.1)&&decide (x.2.2.1≤64),()):=by simp only[tR,aa,ge_iff_le];cases decide (1≤x.2.2.1)<;>rfl
   by_cases L5:A.length=4∨¬ (1≤x.2.2.1∧x.2.2.1≤64)
   ·refine .inl ⟨8,by decide,A,G,F,ro D x.2.2.2.1 1,hs.mono fun k e=>?_,?_⟩
    ·by_cases h4:A.length=4
     ·simp only[go_sem,kV,e,h2,hk,aa,h4,show decide (((4:Nat):Int)≥4)=true from rfl]
     ·have hb:(decide (1≤x.2.2.1)&&decide (x.2.2.1≤64))=false:=by
       rcases L5 with h|h
       ·exact absurd h h4
       ·simpa using h
      simp only[go_sem,kV,e,h2,hk,aa,show decide ((A.length:Int)≥4)=false from bha (by omega),hin,hb]
    ·by_cases h4:A.length=4
     ·simp only[go_sem,eL,AQ,bTa,h1,hk,aa,h4,show(((4:Nat):Int)==4)=true from rfl]
     ·have h5:((A.length:Int)==4)=false:=by simp;omega
      by_cases h6:x.2.2.1<1
      ·simp only[go_sem,eL,AQ,bTa,h1,hk,aa,h5,h6]
      ·have h7:64<x.2.2.1:=by omega
       simp only[go_sem,eL,AQ,bTa,h1,hk,aa,h5,h6,h7]
   ·simp only[cka,Decidable.not_not] at L5
    have L1:bD A [(x.2.2.2.1,x.2.2.1)]=some (A++[(x.2.2.2.1,x.2.2.1)]):=oj (by simp;omega)
    have h5:((A.length:Int)==4)=false:=by simp;omega
    have h6:¬ x.2.2.1<1:=by omega
    have h7:¬ 64<x.2.2.1:=by omega
    refine .inr ⟨(A++[(x.2.2.2.1,x.2.2.1)],G,F),ro D x.2.2.2.1 1,⟨⟨by simp;omega,hg,hf,hp.iE.i⟩,hp.ne,hp.bd,hp.Zk,RK hp.dec (Id (.inl ⟨_,rfl⟩))⟩,by simp[hk],fun h=>h,hs.mono fun k e=>?_,?_⟩
    ·simp only[go_sem,kV,e,h2,hk,aa,show decide ((A.length:Int)≥4)=false from bha (by omega),hin,L5.2.1,L5.2.2,bAa,L1]
    ·simp only[go_sem,eL,AQ,bTa,h1,hk,aa,h5,h6,h7,L1]
  ·
   have e2:((3:Int)==2)=false:=rfl;by_cases L5:G.length=4
   ·refine .inl ⟨8,by decide,A,G,F,ro D x.2.2.2.1 1,hs.mono fun k e=>?_,?_⟩
    ·simp only[go_sem,kV,e,h2,hk,e2,L5,show decide (((4:Nat):Int)≥4)=true from rfl]
    ·simp only[go_sem,eL,AQ,bTa,h1,hk,e2,aa,L5,show(((4:Nat):Int)==4)=true from rfl]
   ·have L1:bD G [x.2.2.2.1]=some (G++[x.2.2.2.1]):=oj (by simp;omega)
    have h5:((G.length:Int)==4)=false:=by simp;omega
    refine .inr ⟨(A,G++[x.2.2.2.1],F),ro D x.2.2.2.1 1,⟨⟨ha,by simp;omega,hf,hp.iE.i⟩,hp.ne,hp.bd,hp.Zk,RK hp.dec (Id (.inr (.inl rfl)))⟩,by simp[hk],fun h=>h,hs.mono fun k e=>?_,?_⟩
    ·simp only[go_sem,kV,e,h2,hk,e2,show decide ((G.length:Int)≥4)=false from bha (by omega),L1]
    ·simp only[go_sem,eL,AQ,bTa,h1,hk,e2,aa,h5,L1]
  ·
   obtain⟨b,hb,b0,b1,b2,_⟩:=aa4 hn hk;have e2:((4:Int)==2)=false:=rfl;have e3:((4:Int)==3)=false:=rfl;have HM:=aaa hb (by have:=hn.nm.2;omega)
   by_cases L5:F.length=6
   ·refine .inl ⟨8,by decide,A,G,F,ro D x.2.2.2.1 1,hs.mono fun k e=>?_,?_⟩
    ·simp only[go_sem,kV,e,h2,hk,e2,e3,L5,show decide (((6:Nat):Int)≥6)=true from rfl]
    ·simp only[go_sem,eL,AQ,bTa,h1,hk,e2,e3,aa,L5,show(((6:Nat):Int)==6)=true from rfl]
   ·have L1:bD F [(x.2.2.2.1,0,[],[],b)]=some (F++[(x.2.2.2.1,0,[],[],b)]):=oj (by simp;omega)
    have h5:((F.length:Int)==6)=false:=by simp;omega
    refine .inr ⟨(A,G,F++[(x.2.2.2.1,0,[],[],b)]),ro D x.2.2.2.1 1,⟨⟨ha,hg,by simp;omega,?_⟩,?_,?_,?_,RK hp.dec (Id (.inr (.inr ⟨_,rfl⟩)))⟩,by simp[hk],?_,hs.mono fun k e=>?_,?_⟩
    ·intro y hy
     rcases aoa.1 hy with hy|hy
     ·exact hp.iE.i y hy
     ·rw[Q7.1 hy];simp
    ·intro y hy
     rcases aoa.1 hy with hy|hy
     ·exact hp.ne y hy
     ·rw[Q7.1 hy];exact hn.nm.1 hk
    ·intro y hy
     rcases aoa.1 hy with hy|hy
     ·exact hp.bd y hy
     ·rw[Q7.1 hy]
      have h1:=OY hx hn.cG;rw[aNa h0] at h1;have h2:=abr (ns:=ns) (List.mem_of_getLast? hb);exact⟨b0,by show b<_;omega,b2,by show wt ns b≤_;omega⟩
    ·refine List.pairwise_append.2 ⟨hp.Zk,List.pairwise_singleton _ _,fun y hy z hz=>?_⟩
     rw[Q7.1 hz];exact fun e=>ht (.inr (.inr ⟨y,hy,e⟩))
    ·intro h f hf
     rcases aoa.1 hf with hf|hf
     ·exact h f hf
     ·rw[Q7.1 hf];exact⟨rfl,rfl,rfl⟩
    ·simp only[go_sem,kV,e,h2,hk,e2,e3,show decide ((F.length:Int)≥6)=false from bha (by omega),HM,L1]
    ·simp only[go_sem,eL,AQ,bTa,h1,hk,e2,e3,aa,h5,HM,L1]
end Go.Fx.R5
namespace Go.Fx.R5
open Go Go.Fx
def cnt(ns:List eu)(l:XI):Nat:=(l.filter fun j=>kd ns j==4).length
def acQ(t:zw):Prop:=∀ f∈t.2.2,f.2.1=0∧f.2.2.1=[]∧f.2.2.2.1=[]
section
variable {ns:List eu} {cG:XI}
theorem WI(fk:jz ns)(hk:ja F9 ns cG){i:Nat}(hi:i<cG.length):∃ x:eu,bC cG (i:Int)=some cG[i]∧bC ns cG[i]=some x∧ns[cG[i].toNat]? = some x∧oi ns cG[i].toNat x∧F9 x.1=true∧kd ns cG[i]=x.1∧0≤cG[i]:=by have hv:=hk.v _ (aRa hi);obtain⟨x,e1,e2,e3⟩:=vu hv.1 hv.2;exact⟨x,cB hi,e3,e1,fk _ _ e1,by rw[←e2];exact hk.c _ (aRa hi),e2,hv.1⟩
theorem P8(fk:jz ns)(hl:ns.length≤100000)(hk:ja F9 ns cG)(AD:cG.length≤5000)(hks:jM ns cG≤ns.length):∀ m i (t:zw) (D:AS),m+i=cG.length→P1 ns t D→acQ t→
  (∃(c p:Int),c≠0∧cq fun q k=>dl q k ns cG 0 0 t.1 t.2.1 t.2.2 (i:Int)=some (.inr (c,p,()))∧dJ q k ns cG (cG.length:Int) t.1 t.2.1 t.2.2 0 0 D (i:Int)=some (.inr (c,p,())))∨
  ∃(t':zw) (D':AS),P1 ns t' D'∧acQ t'∧t'.2.2.length=t.2.2.length+cnt ns (cG.drop i)∧cq fun q k=>dl q k ns cG 0 0 t.1 t.2.1 t.2.2 (i:Int)=some (.inl (0,0,t'.1,t'.2.1,t'.2.2,()))∧
   dJ q k ns cG (cG.length:Int) t.1 t.2.1 t.2.2 0 0 D (i:Int)=some (.inl (t'.1,t'.2.1,t'.2.2,0,0,D',()))
 |0,i,t,D,h,hp,hf=>by
  have h2:¬ i<cG.length:=by omega
  refine .inr ⟨t,D,hp,hf,?_,cq.succ (cq.of fun q k=>⟨?_,?_⟩)⟩
  ·have:cG.drop i=[]:=by simp;omega
   simp[this,cnt]
  ·simp only[go_sem,dl,Q5,h2]
  ·simp only[go_sem,dJ,Q5,h2]
 |m+1,i,t,D,h,hp,hf=>by
  have bg:i<cG.length:=by omega
  obtain⟨x,e1,e2,e3,e4,e5,e6,e7⟩:=WI fk hk bg;have hwk:=abr (ns:=ns) (aRa bg);rcases XX hp e7 e3 e2 e4 e5 hl (by omega) with ⟨c,hc,A',G',F',D',g1,g2⟩|⟨t',D',AF,jy,tV,g1,g2⟩
  ·refine .inl ⟨c,x.2.1,hc,cq.succ (g1.tj.mono fun q k e=>⟨?_,?_⟩)⟩
   ·simp only[go_sem,dl,pD,Q5,bg,e1,e2,e,aUa.2 hc]
   ·simp only[go_sem,dJ,Q5,bg,e1,e2,g2,aUa.2 hc]
  ·have hdr:cnt ns (cG.drop i)=(if x.1=4 then 1 else 0)+cnt ns (cG.drop (i+1)):=by
    rw[aQa bg];simp only[cnt,cra,e6];by_cases h4:x.1=4<;>simp[h4]<;>omega
   have adC:∀{q k r},kV q t.1 t.2.1 t.2.2 x=some (t'.1,t'.2.1,t'.2.2,0,())→dl q k ns cG 0 0 t'.1 t'.2.1 t'.2.2 ((i+1:Nat):Int)=r→dl q (k+1) ns cG 0 0 t.1 t.2.1 t.2.2 (i:Int)=r:=by intro q k r a1 a2;simp only[go_sem,dl,pD,Q5,bg,e1,e2,a1,ai (show i<_ by omega),a2]
   have adD:∀{q k r},dJ q k ns cG (cG.length:Int) t'.1 t'.2.1 t'.2.2 0 0 D' ((i+1:Nat):Int)=r→dJ q (k+1) ns cG (cG.length:Int) t.1 t.2.1 t.2.2 0 0 D (i:Int)=r:=by intro q k r a2;simp only[go_sem,dJ,Q5,bg,e1,g2,ai (show i<_ by omega),a2]
   rcases P8 fk hl hk AD hks m (i+1) t' D' (by omega) AF (tV hf) with ⟨c,p,hc,he⟩|⟨t2,D2,q1,q2,q3,he⟩
   ·exact .inl ⟨c,p,hc,cq.succ ((g1.tj.and he).mono fun q k e=>⟨adC e.1 e.2.1,adD e.2.2⟩)⟩
   ·exact .inr ⟨t2,D2,q1,q2,by omega,cq.succ ((g1.tj.and he).mono fun q k e=>⟨adC e.1 e.2.1,adD e.2.2⟩)⟩
end
section
variable {ns:List eu} {t:zw} {D:AS}
theorem V7{F:FS}{A:AS}{G:XS}{f:Nat}{x y:ab×Int×XS×XS×Int}(hx:F[f]? = some x)(hn:y.1=x.1)(u:ab):pG (A,G,F.set f y) u↔pG (A,G,F) u:=by
 have:(∃ z∈F.set f y,z.1=u)↔∃ z∈F,z.1=u:=by
  have h1:(F.set f y).map (·.1)=F.map (·.1):=by
   rw[List.map_set,hn];have:(F.map (·.1))[f]? = some x.1:=by simp[hx]
   apply bHa;intro n;rw[cNa];by_cases e:f=n
   ·subst e
    obtain⟨bg,hxe⟩:=aka.1 hx;simp[bg,hxe]
   ·simp[e]
  have:∀ F':FS,(∃ z∈F',z.1=u)↔u∈F'.map (·.1):=fun F'=>by simp
  rw[this,this,h1]
 simp only[pG,this]
theorem Zl{F:FS}{f:Nat}{x y:ab×Int×XS×XS×Int}(hx:F[f]? = some x)(hn:y.1=x.1)(h:F.Pairwise fun x y=>x.1≠y.1):(F.set f y).Pairwise fun x y=>x.1≠y.1:=by
 have h1:(F.set f y).map (·.1)=F.map (·.1):=by
  rw[List.map_set,hn];apply bHa;intro n;rw[cNa];by_cases e:f=n
  ·subst e
   obtain⟨bg,hxe⟩:=aka.1 hx;simp[bg,hxe]
  ·simp[e]
 have h2:∀ F':FS,F'.Pairwise (fun x y=>x.1≠y.1)↔(F'.map (·.1)).Pairwise (·≠·):=fun F'=>by rw[List.pairwise_map]
 rw[h2,h1,←h2];exact h
theorem P1.set(hp:P1 ns t D){f:Nat}{x y:ab×Int×XS×XS×Int}(hx:t.2.2[f]? = some x)(hn:y.1=x.1)(hb:y.2.2.2.2=x.2.2.2.2)(hi:y.2.2.1.length≤8∧y.2.2.2.1.length≤3∧0≤y.2.1∧y.2.1≤3):P1 ns (t.1,t.2.1,t.2.2.set f y) D:=by
 have hm:∀ z∈t.2.2.set f y,z∈t.2.2∨z=y:=fun z hz=>List.mem_or_eq_of_mem_set hz;have hxm:=a1a hx;refine⟨⟨hp.iE.a,hp.iE.g,by simpa using hp.iE.f,fun z hz=>?_⟩,fun z hz=>?_,fun z hz=>?_,Zl hx hn hp.Zk,fun s=>?_⟩
 ·rcases hm z hz with h|rfl
  ·exact hp.iE.i z h
  ·exact hi
 ·rcases hm z hz with h|rfl
  ·exact hp.ne z h
  ·rw[hn];exact hp.ne x hxm
 ·rcases hm z hz with h|rfl
  ·exact hp.bd z h
  ·rw[hb];exact hp.bd x hxm
 ·rw[hp.dec];exact(V7 hx hn s).symm
theorem adu(is rs:XS)(n s:ab):(s∈is++[n]∨s∈rs)↔n=s∨(s∈is∨s∈rs):=by
 rw[aoa,Q7];constructor
 ·rintro((h|rfl)|h)
  ·exact .inr (.inl h)
  ·exact .inl rfl
  ·exact .inr (.inr h)
 ·rintro(rfl|h|h)
  ·exact .inl (.inr rfl)
  ·exact .inl (.inl h)
  ·exact .inr h
theorem agn(is rs:XS)(n s:ab):(s∈is∨s∈rs++[n])↔n=s∨(s∈is∨s∈rs):=by
 rw[aoa,Q7];constructor
 ·rintro(h|h|rfl)
  ·exact .inr (.inl h)
  ·exact .inr (.inr h)
  ·exact .inl rfl
 ·rintro(rfl|h|h)
  ·exact .inr (.inr rfl)
  ·exact .inl h
  ·exact .inr (.inl h)
def U0(ns:List eu)(D:AS)(K:XI)(f:Nat)(nm:ab)(body:Int)(t:zw)(ps:Int)(is rs:XS)(gz:AS)(i:Nat):Prop:=
 (∃(c p:Int),c≠0∧cq fun q k=>(∃ A G F,dE q k K ns (f:Int) t.1 t.2.1 t.2.2 0 0 (i:Int)=some (.inr (c,p,A,G,F,())))∧
  ∃ Ig F8 Ge,bU q k D ns K.dropLast (K.dropLast.length:Int) 0 0 ps is rs gz (i:Int)=some (.inr (c,p,Ig,F8,Ge,())))∨
 ∃(Ig:Int) (F8 Ge:XS),P1 ns (t.1,t.2.1,t.2.2.set f (nm,Ig,F8,Ge,body)) D∧cq fun q k=>dE q k K ns (f:Int) t.1 t.2.1 t.2.2 0 0 (i:Int)=some (.inl (t.1,t.2.1,t.2.2.set f (nm,Ig,F8,Ge,body),0,0,()))∧
  bU q k D ns K.dropLast (K.dropLast.length:Int) 0 0 ps is rs gz (i:Int)=some (.inl (0,0,Ig,F8,Ge,()))
theorem aaF(fk:jz ns){K:XI}{f:Nat}(hK:∀ j∈K.dropLast,0≤j∧j<(ns.length:Int)∧wO (kd ns j)=true)(hKl:K.length≤5000){nm:ab}{body:Int}:∀ m i (t:zw) (ps:Int) (is rs:XS) (gz:AS),m+i=K.dropLast.length→P1 ns t D→t.2.2[f]? = some (nm,ps,is,rs,body)→(∀ s,0<qE gz s↔(s∈is∨s∈rs))→
  U0 ns D K f nm body t ps is rs gz i:=by
 intro m;have mT:K.dropLast.length=K.length - 1:=List.length_dropLast;induction m with
 |zero=>
  intro i t ps is rs gz h hp hx ho;have h1:¬ (i+1:Nat)<K.length:=by omega
  have h2:¬ i<K.dropLast.length:=by omega
  have NS:t.2.2.set f (nm,ps,is,rs,body)=t.2.2:=by obtain⟨hl,he⟩:=aka.1 hx;rw[←he];simp
  refine .inr ⟨ps,is,rs,by rw[NS];exact hp,cq.succ (cq.of fun q k=>⟨?_,?_⟩)⟩
  ·simp only[go_sem,dE,ai (show i<_ by omega),Q5,h1,NS]
  ·simp only[go_sem,bU,Q5,h2]
 |succ m ih=>
  intro i t ps is rs gz h hp hx ho;obtain⟨A,G,F⟩:=t;have hx:F[f]? = some (nm,ps,is,rs,body):=hx;have bg:i<K.dropLast.length:=by omega
  have h1:(i+1:Nat)<K.length:=by omega
  have HN:i<K.length:=by omega
  have hj:K.dropLast[i]=K[i]:=by simp
  have hv:=hK _ (aRa bg);rw[hj] at hv;obtain⟨x,e1,e2,e3⟩:=vu hv.1 hv.2.1;rw[e2] at hv;have hbb:=hp.iE.i _ (a1a hx);simp only at hbb;have hnk:=VT hp.iE nm x.2.2.2.1;have jG:=aeD hp.Zk (t:=(A,G,F)) (f:=f) hx x.2.2.2.1;have Vh:=hp.dec x.2.2.2.1;simp only at jG;have i1:bC K (i:Int)=some K[i]:=cB HN;have i2:bC K.dropLast (i:Int)=some K[i]:=by rw[cB bg,hj]
  have i3:bC F (f:Int)=some (nm,ps,is,rs,body):=bf hx;have ft:((f:Int)).toNat=f:=aAa f;by_cases htw:(x.2.2.2.1∈is∨x.2.2.2.1∈rs)∨pG (A,G,F) x.2.2.2.1
  ·have hz:((nk (A,G,F) nm x.2.2.2.1).1 != 0)=true:=aUa.2 (jG.2 htw)
   refine .inl ⟨9,x.2.1,by decide,cq.succ (hnk.tj.mono fun q k e=>⟨⟨A,G,F,?_⟩,ps,is,rs,?_⟩)⟩
   ·simp only[go_sem,dE,ai (show i<_ by omega),Q5,h1,i1,e3,ft,i3,e,hz]
   ·have:((decide (qE D x.2.2.2.1 > 0)) ||(decide (qE gz x.2.2.2.1 > 0)))=true:=by
     simp only[a5a,bQa,bTa,Vh,ho];exact htw.elim .inr .inl
    simp only[go_sem,bU,Q5,bg,i2,e3,Ae,this]
  ·have hz:((nk (A,G,F) nm x.2.2.2.1).1 != 0)=false:=by
    cases hh:((nk (A,G,F) nm x.2.2.2.1).1 != 0) with
    |false=>rfl
    |true=>exact absurd (jG.1 (aUa.1 hh)) htw
   have hor:((decide (qE D x.2.2.2.1 > 0)) ||(decide (qE gz x.2.2.2.1 > 0)))=false:=by simp only[aGa,cma,bTa,Vh,ho];exact⟨fun h=>htw (.inr h),fun h=>htw (.inl h)⟩
   have ho':∀{F8 Ge:XS},((∀ s,(s∈F8∨s∈Ge)↔x.2.2.2.1=s∨(s∈is∨s∈rs)))→∀ s,0<qE (ro gz x.2.2.2.1 1) s↔(s∈F8∨s∈Ge):=fun hh s=>by
    rw[Fq,hh];by_cases e:x.2.2.2.1=s
    ·simp[e]
    ·simp[e,ho]
   have se:∀(Ig:Int) (F8 Ge:XS),F8.length≤8∧Ge.length≤3∧0≤Ig∧Ig≤3→(∀ s,(s∈F8∨s∈Ge)↔x.2.2.2.1=s∨(s∈is∨s∈rs))→
     (∀ q k r,cR q (A,G,F) nm x.2.2.2.1=some ((nk (A,G,F) nm x.2.2.2.1).1,(nk (A,G,F) nm x.2.2.2.1).2,())→dE q k K ns (f:Int) A G (F.set f (nm,Ig,F8,Ge,body)) 0 0 ((i+1:Nat):Int)=r→dE q (k+1) K ns (f:Int) A G F 0 0 (i:Int)=r)→
     (∀ q k r,bU q k D ns K.dropLast (K.dropLast.length:Int) 0 0 Ig F8 Ge (ro gz x.2.2.2.1 1) ((i+1:Nat):Int)=r→bU q (k+1) D ns K.dropLast (K.dropLast.length:Int) 0 0 ps is rs gz (i:Int)=r)→
     U0 ns D K f nm body (A,G,F) ps is rs gz i:=fun Ig F8 Ge hb hh s1 s2=>by
    have NS:P1 ns (A,G,F.set f (nm,Ig,F8,Ge,body)) D:=hp.set (t:=(A,G,F)) hx rfl rfl hb;have NM:(F.set f (nm,Ig,F8,Ge,body))[f]? = some (nm,Ig,F8,Ge,body):=by have:=(aka.1 hx).1;simp[this]
    rcases ih (i+1) (A,G,F.set f (nm,Ig,F8,Ge,body)) Ig F8 Ge (ro gz x.2.2.2.1 1) (by omega) NS NM (ho' hh) with ⟨c,p,hc,he⟩|⟨ps2,is2,rs2,If,he⟩
    ·exact .inl ⟨c,p,hc,cq.succ ((hnk.tj.and he).mono fun q k e=>⟨by obtain⟨A',G',F',e2⟩:=e.2.1;exact⟨A',G',F',s1 q k _ e.1 e2⟩,by obtain⟨p',i',r',e2⟩:=e.2.2;exact⟨p',i',r',s2 q k _ e2⟩⟩)⟩
    ·refine .inr ⟨ps2,is2,rs2,?_,cq.succ ((hnk.tj.and he).mono fun q k e=>⟨?_,s2 q k _ e.2.2⟩)⟩
     ·simpa only[List.set_set] using If
     ·have:=s1 q k _ e.1 e.2.1
      simpa only[List.set_set] using this
   have lim:∀(ah2:∀ q k,cR q (A,G,F) nm x.2.2.2.1=some ((nk (A,G,F) nm x.2.2.2.1).1,(nk (A,G,F) nm x.2.2.2.1).2,())→dE q (k+1) K ns (f:Int) A G F 0 0 (i:Int)=some (.inr (8,x.2.1,A,G,F,())))
     (ahm:∀ q k,∃ Ig F8 Ge,bU q (k+1) D ns K.dropLast (K.dropLast.length:Int) 0 0 ps is rs gz (i:Int)=some (.inr (8,x.2.1,Ig,F8,Ge,()))),U0 ns D K f nm body (A,G,F) ps is rs gz i:=
    fun hf1 hf2=>Or.inl ⟨8,x.2.1,by decide,cq.succ (hnk.tj.mono fun q k e=>⟨⟨A,G,F,hf1 q k e⟩,hf2 q k⟩)⟩
   have hkk:x.1=5∨x.1=6∨x.1=7:=by simpa[wO,or_assoc] using hv.2.2
   rcases hkk with hkk|hkk|hkk
   ·
    have n1:((5:Int)==7)=false:=rfl;have n2:((5:Int) != 7)=true:=rfl;have hai:bD is [x.2.2.2.1]=some (is++[x.2.2.2.1]):=oj (by simp;omega)
    by_cases hl:is.length=8∨ps=3
    ·refine lim (fun q k e=>?_) (fun q k=>⟨bh (ps+1),is++[x.2.2.2.1],rs,?_⟩)
     ·by_cases h8:is.length=8
      ·simp only[go_sem,dE,aa,ai (show i<_ by omega),Q5,h1,i1,e3,ft,i3,e,hz,hkk,n1,n2,h8,show decide (((8:Nat):Int)≥8)=true from rfl]
      ·have h3:ps=3:=hl.resolve_left h8
       simp only[go_sem,dE,aa,ai (show i<_ by omega),Q5,h1,i1,e3,ft,i3,e,hz,hkk,n1,n2,show decide ((is.length:Int)≥8)=false from bha (by omega),h3,show decide ((3:Int)≥3)=true from rfl]
     ·have hb:(((is.length:Int)==8) ||(ps==3))=true:=by
       rcases hl with h|h
       ·simp[h]
       ·simp[h]
      simp only[go_sem,bU,Q5,bg,i2,e3,Ae,hor,hkk,n1,hb,hai];simp only[go_sem,aa]
    ·simp only[cka] at hl
     have hw:bh (ps+1)=ps+1:=bw (by omega) (by omega)
     refine se (ps+1) (is++[x.2.2.2.1]) rs ⟨by simp;omega,by omega,by omega,by omega⟩ (adu is rs _) (fun q k r e er=>?_) (fun q k r er=>?_)
     ·simp only[go_sem,dE,aa,ai (show i<_ by omega),Q5,h1,i1,e3,ft,i3,e,hz,hkk,n1,n2,show decide ((is.length:Int)≥8)=false from bha (by omega),show decide (ps≥3)=false from bha (by omega),hai,hw,b8a,bAa,er]
     ·have hb:(((is.length:Int)==8) ||(ps==3))=false:=by
       simp only[aGa,Q6];exact⟨by omega,hl.2⟩
      simp only[go_sem,bU,Q5,bg,i2,e3,Ae,hor,hkk,n1,hb,hai,hw];simp only[go_sem,aa,ai (show i<_ by omega),er]
   ·
    have n1:((6:Int)==7)=false:=rfl;have n2:((6:Int) != 7)=true:=rfl;have n3:((6:Int)==5)=false:=rfl;have hai:bD is [x.2.2.2.1]=some (is++[x.2.2.2.1]):=oj (by simp;omega)
    by_cases hl:is.length=8
    ·refine lim (fun q k e=>?_) (fun q k=>⟨ps,is++[x.2.2.2.1],rs,?_⟩)
     ·simp only[go_sem,dE,aa,ai (show i<_ by omega),Q5,h1,i1,e3,ft,i3,e,hz,hkk,n1,n2,hl,show decide (((8:Nat):Int)≥8)=true from rfl]
     ·simp only[go_sem,bU,Q5,bg,i2,e3,Ae,hor,hkk,n1,n3,hl,hai]
      simp only[go_sem,aa,show(((8:Nat):Int)==8)=true from rfl]
    ·refine se ps (is++[x.2.2.2.1]) rs ⟨by simp;omega,by omega,by omega,by omega⟩ (adu is rs _) (fun q k r e er=>?_) (fun q k r er=>?_)
     ·simp only[go_sem,dE,aa,ai (show i<_ by omega),Q5,h1,i1,e3,ft,i3,e,hz,hkk,n1,n2,n3,show decide ((is.length:Int)≥8)=false from bha (by omega),hai,b8a,bAa,er]
     ·have hb:((is.length:Int)==8)=false:=by simp;omega
      simp only[go_sem,bU,Q5,bg,i2,e3,Ae,hor,hkk,n1,n3,hb,hai];simp only[go_sem,aa,ai (show i<_ by omega),er]
   ·
    have n2:((7:Int) != 7)=false:=rfl;have n3:((7:Int)==5)=false:=rfl;have hai:bD rs [x.2.2.2.1]=some (rs++[x.2.2.2.1]):=oj (by simp;omega)
    by_cases hl:rs.length=3
    ·refine lim (fun q k e=>?_) (fun q k=>⟨ps,is,rs++[x.2.2.2.1],?_⟩)
     ·simp only[go_sem,dE,aa,ai (show i<_ by omega),Q5,h1,i1,e3,ft,i3,e,hz,hkk,hl,show decide (((3:Nat):Int)≥3)=true from rfl]
     ·simp only[go_sem,bU,Q5,bg,i2,e3,Ae,hor,hkk,hl,hai]
      simp only[go_sem,aa,show(((3:Nat):Int)==3)=true from rfl]
    ·refine se ps is (rs++[x.2.2.2.1]) ⟨by omega,by simp;omega,by omega,by omega⟩ (agn is rs _) (fun q k r e er=>?_) (fun q k r er=>?_)
     ·simp only[go_sem,dE,aa,ai (show i<_ by omega),Q5,h1,i1,e3,ft,i3,e,hz,hkk,n2,n3,show decide ((rs.length:Int)≥3)=false from bha (by omega),hai,b8a,bAa,er]
     ·have hb:((rs.length:Int)==3)=false:=by simp;omega
      simp only[go_sem,bU,Q5,bg,i2,e3,Ae,hor,hkk,hb,hai];simp only[go_sem,aa,ai (show i<_ by omega),er]
end
end Go.Fx.R5
namespace Go.Fx.R5
open Go Go.Fx
section
variable {ns:List eu} {cG:XI} {D:AS}
theorem abd{K:XI}(h:K≠[])(hl:K.length≤5000):sub K 0 (bh ((K.length:Int) - 1))=some K.dropLast:=by
 have hp:=List.length_pos_iff.2 h;have:=wV (l:=K) (m:=0) (n:=K.length - 1) (by omega) (by omega)
 rw[bw (by omega) (by omega),show(K.length:Int) - 1=((K.length - 1:Nat):Int) by omega]
 rw[show(0:Int)=((0:Nat):Int) from rfl,this,bMa,List.dropLast_eq_take]
theorem Vu(fk:jz ns)(hl:ns.length≤100000)(hk:ja F9 ns cG)(AD:cG.length≤5000):∀ m i f (t:zw),m+i=cG.length→P1 ns t D→t.2.2.length=f+cnt ns (cG.drop i)→(∀ n x,f≤n→t.2.2[n]? = some x→x.2.1=0∧x.2.2.1=[]∧x.2.2.2.1=[])→
  (∃(c p:Int),c≠0∧cq fun q k=>cX q k ns cG 0 0 t.1 t.2.1 t.2.2 (f:Int) (i:Int)=some (.inr (c,p,()))∧dq q k ns cG (cG.length:Int) t.2.2 0 0 D (f:Int) (i:Int)=some (.inr (c,p,())))∨
  ∃(F':FS),P1 ns (t.1,t.2.1,F') D∧cq fun q k=>cX q k ns cG 0 0 t.1 t.2.1 t.2.2 (f:Int) (i:Int)=some (.inl (0,0,t.1,t.2.1,F',()))∧
   dq q k ns cG (cG.length:Int) t.2.2 0 0 D (f:Int) (i:Int)=some (.inl (F',0,0,())):=by
 intro m;induction m with
 |zero=>
  intro i f t h hp hc hf;have h2:¬ i<cG.length:=by omega
  refine .inr ⟨t.2.2,hp,cq.succ (cq.of fun q k=>⟨?_,?_⟩)⟩
  ·simp only[go_sem,cX,Q5,h2]
  ·simp only[go_sem,dq,Q5,h2]
 |succ m ih=>
  intro i f t h hp hc hf;have bg:i<cG.length:=by omega
  obtain⟨x,e1,e2,e3,e4,e5,e6,e7⟩:=WI fk hk bg;have hdr:cnt ns (cG.drop i)=(if x.1=4 then 1 else 0)+cnt ns (cG.drop (i+1)):=by rw[aQa bg];simp only[cnt,cra,e6];by_cases h4:x.1=4<;>simp[h4]<;>omega
  by_cases h4:x.1=4
  rotate_left
  ·have b1:(x.1==4)=false:=Q6.2 h4
   have b2:(x.1 != 4)=true:=aUa.2 h4;rw[aza h4] at hdr;rcases ih (i+1) f t (by omega) hp (by omega) hf with ⟨c,p,g,he⟩|⟨F',g,he⟩
   ·refine .inl ⟨c,p,g,cq.succ (he.mono fun q k e=>⟨?_,?_⟩)⟩
    ·simp only[go_sem,cX,aa,Q5,bg,e1,e2,b1,ai (show i<_ by omega),e.1]
    ·simp only[go_sem,dq,aa,Q5,bg,e1,e2,b2,ai (show i<_ by omega),e.2]
   ·refine .inr ⟨F',g,cq.succ (he.mono fun q k e=>⟨?_,?_⟩)⟩
    ·simp only[go_sem,cX,aa,Q5,bg,e1,e2,b1,ai (show i<_ by omega),e.1]
    ·simp only[go_sem,dq,aa,Q5,bg,e1,e2,b2,ai (show i<_ by omega),e.2]
  ·rw[a7a h4] at hdr
   have b1:(x.1==4)=true:=a9a.2 h4;have b2:(x.1 != 4)=false:=by rw[h4];rfl
   obtain⟨b,hb,_,_,_,hlc⟩:=aa4 e4 h4;have hG:x.2.2.2.2≠[]:=by intro e;rw[e] at hb;cases hb
   have afR:=e4.nm.2;have ahk:f<t.2.2.length:=by omega
   obtain⟨nm,ps,is,rs,body,NM⟩:∃ nm ps is rs body,t.2.2[f]? = some (nm,ps,is,rs,body):=⟨_,_,_,_,_,by rw[bja ahk]⟩
   obtain⟨z1,z2,z3⟩:=hf f _ (awa _) NM;simp only at z1 z2 z3;subst z1;subst z2;subst z3;have afQ:bC t.2.2 (f:Int)=some (nm,0,[],[],body):=bf NM;have ZJ:=(aka.1 e3).1;have how:=aaF fk (K:=x.2.2.2.2) (f:=f) (fun j hj=>⟨(hlc j hj).1,by have:=(hlc j hj).2.1;omega,(hlc j hj).2.2⟩) afR (nm:=nm) (body:=body) x.2.2.2.2.dropLast.length 0 t 0 [] [] [] (by omega) hp NM (fun s=>by simp[qE])
   have p6:=abd hG afR;have ft:((f:Int)).toNat=f:=aAa f;have hf6:=hp.iE.f;rcases how with ⟨c,p,hc0,he⟩|⟨Ig,F8,Ge,If,he⟩
   ·have he:Ev fun k=>(∃ A G F,dE k k x.2.2.2.2 ns (f:Int) t.1 t.2.1 t.2.2 0 0 0=some (.inr (c,p,A,G,F,())))∧
      ∃ Ig F8 Ge,bU k k D ns x.2.2.2.2.dropLast (x.2.2.2.2.dropLast.length:Int) 0 0 0 [] [] [] 0=some (.inr (c,p,Ig,F8,Ge,())):=he.jY
    refine .inl ⟨c,p,hc0,cq.succ (he.tj.mono fun q k e=>?_)⟩;obtain⟨⟨A',G',F',e8⟩,Ig,F8,Ge,e9⟩:=e;refine⟨?_,?_⟩
    ·simp only[go_sem,cX,pE,CI,aa,Q5,bg,e1,e2,b1,e8,aUa.2 hc0]
    ·simp only[go_sem,dq,qj,td,aa,Q5,bg,e1,e2,b2,afQ,ft,p6,e9,aUa.2 hc0]
   ·have he:Ev fun k=>dE k k x.2.2.2.2 ns (f:Int) t.1 t.2.1 t.2.2 0 0 0=some (.inl (t.1,t.2.1,t.2.2.set f (nm,Ig,F8,Ge,body),0,0,()))∧
      bU k k D ns x.2.2.2.2.dropLast (x.2.2.2.2.dropLast.length:Int) 0 0 0 [] [] [] 0=some (.inl (0,0,Ig,F8,Ge,())):=he.jY
    have s1:∀{q k r},dE q q x.2.2.2.2 ns (f:Int) t.1 t.2.1 t.2.2 0 0 0=some (.inl (t.1,t.2.1,t.2.2.set f (nm,Ig,F8,Ge,body),0,0,()))→cX q k ns cG 0 0 t.1 t.2.1 (t.2.2.set f (nm,Ig,F8,Ge,body)) ((f+1:Nat):Int) ((i+1:Nat):Int)=r→
      cX q (k+1) ns cG 0 0 t.1 t.2.1 t.2.2 (f:Int) (i:Int)=r:=fun a1 a2=>by
     simp only[go_sem,cX,pE,CI,aa,Q5,bg,e1,e2,b1,a1,ai (show i<_ by omega),ai (show f<_ by omega),a2]
    have s2:∀{q k r},bU q q D ns x.2.2.2.2.dropLast (x.2.2.2.2.dropLast.length:Int) 0 0 0 [] [] [] 0=some (.inl (0,0,Ig,F8,Ge,()))→dq q k ns cG (cG.length:Int) (t.2.2.set f (nm,Ig,F8,Ge,body)) 0 0 D ((f+1:Nat):Int) ((i+1:Nat):Int)=r→
      dq q (k+1) ns cG (cG.length:Int) t.2.2 0 0 D (f:Int) (i:Int)=r:=fun a1 a2=>by
     simp only[go_sem,dq,qj,td,aa,Q5,bg,e1,e2,b2,afQ,ft,p6,a1,ai (show i<_ by omega),ai (show f<_ by omega),a2]
    rcases ih (i+1) (f+1) (t.1,t.2.1,t.2.2.set f (nm,Ig,F8,Ge,body)) (by omega) If (by simp;omega) (fun n y hn hy=>hf n y (by omega) (by
      have:(t.2.2.set f (nm,Ig,F8,Ge,body))[n]? = some y:=hy;rwa[List.getElem?_set_ne (by omega)] at this)) with ⟨c,p,g,hh⟩|⟨F',g,hh⟩
    ·exact .inl ⟨c,p,g,cq.succ ((he.tj.and hh).mono fun q k e=>⟨s1 e.1.1 e.2.1,s2 e.1.2 e.2.2⟩)⟩
    ·exact .inr ⟨F',g,cq.succ ((he.tj.and hh).mono fun q k e=>⟨s1 e.1.1 e.2.1,s2 e.1.2 e.2.2⟩)⟩
end
end Go.Fx.R5
namespace Go.Fx.R5
open Go Go.Fx
def W(t:zw)(fn s:ab)(a b:Int):Int:=if(nk t fn s).1=0 then 10 else if(nk t fn s).1=a∨(nk t fn s).1=b then 0 else 11
def Lw(l:XS)(D:AS):Prop:=∀ s,0<qE D s↔s∈l
def Iy(t:zw)(fn:ab)(l:XS)(s:ab)(a b:Int):Int:=if W t fn s a b≠0 then W t fn s a b else if s∈l then 11 else 0
def Ms(c a:Int):Int:=if c=0 then 0 else a
section
variable {t:zw} {fn s:ab} {ns:List eu} {l:XS} {D:AS}
theorem E4(ht:iO t)(s:ab)(lS a b:Int):Ev fun k=>gX k t.1 t.2.1 t.2.2 fn 0 0 s lS a b=some (W t fn s a b,Ms (W t fn s a b) lS,()):=
 (VT ht fn s).mono fun k e=>by
  simp only[go_sem,gX,show cR k (t.1,t.2.1,t.2.2) fn s=_ from e,cm,aa,W,Ms]
  by_cases h0:(nk t fn s).1=0
  ·simp[h0]
  ·by_cases ha:(nk t fn s).1=a
   ·have h0':¬ a=0:=fun h=>h0 (ha.trans h)
    simp[ha,h0',Q6.2 h0']
   ·by_cases hb:(nk t fn s).1=b
    ·have h0':¬ b=0:=fun h=>h0 (hb.trans h)
     have ha':(b != a)=true:=aUa.2 fun h=>ha (hb.trans h);simp[hb,h0',Q6.2 h0',ha']
    ·simp[h0,ha,hb,Q6.2 h0,bne,Q6.2 ha,Q6.2 hb]
theorem Xl{c p:Int}(hc:c≠0)(ht:iO t)(s:ab)(lS a b:Int):Ev fun k=>gX k t.1 t.2.1 t.2.2 fn c p s lS a b=some (c,p,()):=
 (VT ht fn s).mono fun k e=>by
  simp only[go_sem,gX,show cR k (t.1,t.2.1,t.2.2) fn s=_ from e,cm,Q6.2 hc,aa]
  cases ((nk t fn s).1==0)<;>cases ((nk t fn s).1 != a)<;>cases ((nk t fn s).1 != b)<;>rfl
theorem pQ(l:XS)(s:ab):decide (0≤nM (fun x=>x==s) l 0)=decide (s∈l):=caa.2 (by rw[Cx];simp)
theorem adz(ht:iO t)(hl:l.length≤1000000)(s:ab)(lS:Int):Ev fun k=>uG k t.1 t.2.1 t.2.2 fn l 0 0 s lS = some (l,Iy t fn l s 3 2,Ms (Iy t fn l s 3 2) lS,()):=
 ((E4 (fn:=fn) ht s lS 3 2).and (JA l s hl)).mono fun k e=>by
  simp only[go_sem,uG,e.1,e.2,ge0,pQ,cm,Iy,Ms];by_cases hw:W t fn s 3 2=0
  ·by_cases hm:s∈l<;>simp[hw,hm]
  ·by_cases hm:s∈l<;>simp[hw,hm,Q6.2 hw]
theorem Vw(q:Nat)(n a:Int)(k:Nat):eq q (k+2) n [a] 1 0=some (bif a==n then .inr (0,()) else .inl ()):=by
 rw[eq];simp only[go_sem,show decide ((0:Int)<1)=true from rfl,show bC [a] 0=some a from rfl,show bh (0+1)=1 from rfl]
 rw[eq];simp only[go_sem,show decide ((1:Int)<1)=false from rfl]
 cases (a==n)<;>rfl
theorem Vx(q:Nat)(n a b:Int)(k:Nat):eq q (k+3) n [a,b] 2 0=some (bif a==n then .inr (0,()) else bif b==n then .inr (0,()) else .inl ()):=by
 rw[eq];simp only[go_sem,show decide ((0:Int)<2)=true from rfl,show bC [a,b] 0=some a from rfl,show bh (0+1)=1 from rfl]
 rw[eq];simp only[go_sem,show decide ((1:Int)<2)=true from rfl,show bC [a,b] 1=some b from rfl,show bh (1+1)=2 from rfl]
 rw[eq];simp only[go_sem,show decide ((2:Int)<2)=false from rfl]
 cases (a==n)<;>cases (b==n)<;>rfl
theorem Fl(ht:iO t)(s:ab)(a:Int):Ev fun k=>dK k t.1 t.2.1 t.2.2 fn s [a]=some (W t fn s a a,()):=
 ((ZZ ht fn s).and ⟨2,fun k hk=>hk⟩).mono fun k e=>by
  obtain⟨j,rfl⟩:∃ j,k=j+2:=⟨k - 2,by omega⟩
  simp only[go_sem,dK,gI,show fF (j+2) (t.1,t.2.1,t.2.2) fn s=_ from e.1,show((([a]:XI).length:Int))=1 from rfl,Vw,W,bka]
  by_cases h0:(nk t fn s).1=0
  ·simp[h0]
  ·by_cases ha:(nk t fn s).1=a
   ·have:¬ a=0:=fun h=>h0 (ha.trans h)
    simp[ha,this,Q6.2 this]
   ·have:(a==(nk t fn s).1)=false:=Q6.2 (bBa ha)
    simp[h0,ha,this,Q6.2 h0]
theorem ab0(ht:iO t)(s:ab)(a b:Int):Ev fun k=>dK k t.1 t.2.1 t.2.2 fn s [a,b]=some (W t fn s a b,()):=
 ((ZZ ht fn s).and ⟨3,fun k hk=>hk⟩).mono fun k e=>by
  obtain⟨j,rfl⟩:∃ j,k=j+3:=⟨k - 3,by omega⟩
  simp only[go_sem,dK,gI,show fF (j+3) (t.1,t.2.1,t.2.2) fn s=_ from e.1,show((([a,b]:XI).length:Int))=2 from rfl,Vx,W]
  by_cases h0:(nk t fn s).1=0
  ·simp[h0]
  ·by_cases ha:(nk t fn s).1=a
   ·have:¬ a=0:=fun h=>h0 (ha.trans h)
    simp[ha,this,Q6.2 this]
   ·have h1:(a==(nk t fn s).1)=false:=Q6.2 (bBa ha)
    by_cases hb:(nk t fn s).1=b
    ·have h0':¬ b=0:=fun h=>h0 (hb.trans h)
     have h1':(a==b)=false:=Q6.2 fun h=>ha (hb.trans h.symm);simp[hb,h0',Q6.2 h0',h1']
    ·have h2:(b==(nk t fn s).1)=false:=Q6.2 (bBa hb)
     simp[h0,ha,hb,h1,h2,Q6.2 h0]
theorem Wy{k:Nat}{c:Int}{ks:XI}{a b:Int}(hr:Lw l D)(e:dK k t.1 t.2.1 t.2.2 fn s ks=some (W t fn s a b,())):ng k t.1 t.2.1 t.2.2 fn D s ks=some (Iy t fn l s a b,()):=by
 simp only[go_sem,ng,e,Iy];by_cases hw:W t fn s a b=0
 ·have:=hr s
  by_cases hm:s∈l
  ·have h:qE D s > 0:=this.2 hm
   simp[hw,hm,h]
  ·have h:¬ qE D s > 0:=fun h=>hm (this.1 h)
   simp[hw,hm,h]
 ·simp[hw,aUa.2 hw]
def oU(t:zw)(fn:ab)(l:XS)(x:eu):Int:=
 if x.1=25 then W t fn x.2.2.2.1 3 2 else if x.1=26∨x.1=10 then W t fn x.2.2.2.1 1 1 else
 if x.1=27∨x.1=11∨x.1=13∨x.1=34∨x.1=12 then W t fn x.2.2.2.1 4 4 else
 if x.1=17∨x.1=22 then Iy t fn l x.2.2.2.1 3 2 else if x.1=16 then Iy t fn l x.2.2.2.1 3 3 else 0
theorem Xj(ht:iO t)(hl:l.length≤1000000){i:Nat}{x:eu}(hx:ns[i]? = some x):Ev fun k=>gK k t.1 t.2.1 t.2.2 ns fn l 0 0 (i:Int)=some (l,oU t fn l x,Ms (oU t fn l x) x.2.1,()):=by
 obtain⟨kk,lS,nu,nm,ks⟩:=x;refine((((E4 (fn:=fn) ht nm lS 3 2).and (E4 (fn:=fn) ht nm lS 1 1)).and ((E4 (fn:=fn) ht nm lS 4 4).and (adz (fn:=fn) ht hl nm lS))).and ((E4 (fn:=fn) ht nm lS 3 3).and (JA l nm hl))).mono fun k e=>?_;obtain⟨⟨⟨e1,e2⟩,e3,e4⟩,e5,e6⟩:=e;by_cases h25:kk=25
 ·subst h25
  simp only[go_sem,gK,bf hx,aa,show((25:Int)==25)=true from rfl,show((25:Int)==26)=false from rfl,show((25:Int)==10)=false from rfl,show((25:Int)==27)=false from rfl,show((25:Int)==11)=false from rfl,show((25:Int)==13)=false from rfl,show((25:Int)==34)=false from rfl,show((25:Int)==12)=false from rfl,show((25:Int)==17)=false from rfl,show((25:Int)==22)=false from rfl,show((25:Int)==16)=false from rfl,e1,e2,e3,e4,e5,e6,ge0,pQ,cm,oU,Int.reduceEq,reduceIte,bka]
 by_cases h26:kk=26
 ·subst h26
  simp only[go_sem,gK,bf hx,aa,show((26:Int)==25)=false from rfl,show((26:Int)==26)=true from rfl,show((26:Int)==10)=false from rfl,show((26:Int)==27)=false from rfl,show((26:Int)==11)=false from rfl,show((26:Int)==13)=false from rfl,show((26:Int)==34)=false from rfl,show((26:Int)==12)=false from rfl,show((26:Int)==17)=false from rfl,show((26:Int)==22)=false from rfl,show((26:Int)==16)=false from rfl,e1,e2,e3,e4,e5,e6,ge0,pQ,cm,oU,Int.reduceEq,reduceIte,bDa,bka]
 by_cases h10:kk=10
 ·subst h10
  simp only[go_sem,gK,bf hx,aa,show((10:Int)==25)=false from rfl,show((10:Int)==26)=false from rfl,show((10:Int)==10)=true from rfl,show((10:Int)==27)=false from rfl,show((10:Int)==11)=false from rfl,show((10:Int)==13)=false from rfl,show((10:Int)==34)=false from rfl,show((10:Int)==12)=false from rfl,show((10:Int)==17)=false from rfl,show((10:Int)==22)=false from rfl,show((10:Int)==16)=false from rfl,e1,e2,e3,e4,e5,e6,ge0,pQ,cm,oU,Int.reduceEq,reduceIte,b4a,bka]
 by_cases h27:kk=27
 ·subst h27
  simp only[go_sem,gK,bf hx,aa,show((27:Int)==25)=false from rfl,show((27:Int)==26)=false from rfl,show((27:Int)==10)=false from rfl,show((27:Int)==27)=true from rfl,show((27:Int)==11)=false from rfl,show((27:Int)==13)=false from rfl,show((27:Int)==34)=false from rfl,show((27:Int)==12)=false from rfl,show((27:Int)==17)=false from rfl,show((27:Int)==22)=false from rfl,show((27:Int)==16)=false from rfl,e1,e2,e3,e4,e5,e6,ge0,pQ,cm,oU,Int.reduceEq,reduceIte,bDa,bka]
 by_cases h11:kk=11
 ·subst h11
  simp only[go_sem,gK,bf hx,aa,show((11:Int)==25)=false from rfl,show((11:Int)==26)=false from rfl,show((11:Int)==10)=false from rfl,show((11:Int)==27)=false from rfl,show((11:Int)==11)=true from rfl,show((11:Int)==13)=false from rfl,show((11:Int)==34)=false from rfl,show((11:Int)==12)=false from rfl,show((11:Int)==17)=false from rfl,show((11:Int)==22)=false from rfl,show((11:Int)==16)=false from rfl,e1,e2,e3,e4,e5,e6,ge0,pQ,cm,oU,Int.reduceEq,reduceIte,b4a,bDa,bka]
 by_cases h13:kk=13
 ·subst h13
  simp only[go_sem,gK,bf hx,aa,show((13:Int)==25)=false from rfl,show((13:Int)==26)=false from rfl,show((13:Int)==10)=false from rfl,show((13:Int)==27)=false from rfl,show((13:Int)==11)=false from rfl,show((13:Int)==13)=true from rfl,show((13:Int)==34)=false from rfl,show((13:Int)==12)=false from rfl,show((13:Int)==17)=false from rfl,show((13:Int)==22)=false from rfl,show((13:Int)==16)=false from rfl,e1,e2,e3,e4,e5,e6,ge0,pQ,cm,oU,Int.reduceEq,reduceIte,b4a,bDa,bka]
 by_cases h34:kk=34
 ·subst h34
  simp only[go_sem,gK,bf hx,aa,show((34:Int)==25)=false from rfl,show((34:Int)==26)=false from rfl,show((34:Int)==10)=false from rfl,show((34:Int)==27)=false from rfl,show((34:Int)==11)=false from rfl,show((34:Int)==13)=false from rfl,show((34:Int)==34)=true from rfl,show((34:Int)==12)=false from rfl,show((34:Int)==17)=false from rfl,show((34:Int)==22)=false from rfl,show((34:Int)==16)=false from rfl,e1,e2,e3,e4,e5,e6,ge0,pQ,cm,oU,Int.reduceEq,reduceIte,b4a,bDa,bka]
 by_cases K5:kk=12
 ·subst K5
  simp only[go_sem,gK,bf hx,aa,show((12:Int)==25)=false from rfl,show((12:Int)==26)=false from rfl,show((12:Int)==10)=false from rfl,show((12:Int)==27)=false from rfl,show((12:Int)==11)=false from rfl,show((12:Int)==13)=false from rfl,show((12:Int)==34)=false from rfl,show((12:Int)==12)=true from rfl,show((12:Int)==17)=false from rfl,show((12:Int)==22)=false from rfl,show((12:Int)==16)=false from rfl,e1,e2,e3,e4,e5,e6,ge0,pQ,cm,oU,Int.reduceEq,reduceIte,b4a,bka]
 by_cases h17:kk=17
 ·subst h17
  simp only[go_sem,gK,bf hx,aa,show((17:Int)==25)=false from rfl,show((17:Int)==26)=false from rfl,show((17:Int)==10)=false from rfl,show((17:Int)==27)=false from rfl,show((17:Int)==11)=false from rfl,show((17:Int)==13)=false from rfl,show((17:Int)==34)=false from rfl,show((17:Int)==12)=false from rfl,show((17:Int)==17)=true from rfl,show((17:Int)==22)=false from rfl,show((17:Int)==16)=false from rfl,e1,e2,e3,e4,e5,e6,ge0,pQ,cm,oU,Int.reduceEq,reduceIte,bDa,bka]
 by_cases Er:kk=22
 ·subst Er
  simp only[go_sem,gK,bf hx,aa,show((22:Int)==25)=false from rfl,show((22:Int)==26)=false from rfl,show((22:Int)==10)=false from rfl,show((22:Int)==27)=false from rfl,show((22:Int)==11)=false from rfl,show((22:Int)==13)=false from rfl,show((22:Int)==34)=false from rfl,show((22:Int)==12)=false from rfl,show((22:Int)==17)=false from rfl,show((22:Int)==22)=true from rfl,show((22:Int)==16)=false from rfl,e1,e2,e3,e4,e5,e6,ge0,pQ,cm,oU,Int.reduceEq,reduceIte,b4a,bka]
 by_cases Gu:kk=16
 ·subst Gu
  simp only[go_sem,gK,bf hx,aa,show((16:Int)==25)=false from rfl,show((16:Int)==26)=false from rfl,show((16:Int)==10)=false from rfl,show((16:Int)==27)=false from rfl,show((16:Int)==11)=false from rfl,show((16:Int)==13)=false from rfl,show((16:Int)==34)=false from rfl,show((16:Int)==12)=false from rfl,show((16:Int)==17)=false from rfl,show((16:Int)==22)=false from rfl,show((16:Int)==16)=true from rfl,e1,e2,e3,e4,e5,e6,ge0,pQ,cm,oU,Int.reduceEq,reduceIte,bka]
  simp only[Iy,Ms];by_cases hw:W t fn nm 3 3=0
  ·by_cases hm:nm∈l<;>simp[hw,hm]
  ·by_cases hm:nm∈l<;>simp[hw,hm,Q6.2 hw]
 simp only[go_sem,gK,bf hx,aa,Q6.2 h25,h25,Q6.2 h26,h26,Q6.2 h10,h10,Q6.2 h27,h27,Q6.2 h11,h11,Q6.2 h13,h13,Q6.2 h34,h34,Q6.2 K5,K5,Q6.2 h17,h17,Q6.2 Er,Er,Q6.2 Gu,Gu,oU,bka,reduceIte];rfl
theorem HP(ht:iO t)(l:XS)(x:eu):Ev fun k=>∀ D,Lw l D→cM k t.1 t.2.1 t.2.2 fn D x=some (if x.1=9 then Iy t fn l x.2.2.2.1 3 2 else oU t fn l x,()):=by
 obtain⟨kk,lS,nu,nm,ks⟩:=x;refine(((ab0 (fn:=fn) ht nm 3 2).and (Fl (fn:=fn) ht nm 1)).and ((Fl (fn:=fn) ht nm 4).and (Fl (fn:=fn) ht nm 3))).mono fun k e=>?_;obtain⟨⟨e1,e2⟩,e3,e4⟩:=e;intro D hr;have e5:=Wy (c:=0) hr e1;have e6:=Wy (c:=0) hr e4;by_cases h25:kk=25
 ·subst h25
  simp only[go_sem,cM,aa,show((25:Int)==25)=true from rfl,show((25:Int)==26)=false from rfl,show((25:Int)==10)=false from rfl,show((25:Int)==27)=false from rfl,show((25:Int)==11)=false from rfl,show((25:Int)==13)=false from rfl,show((25:Int)==34)=false from rfl,show((25:Int)==12)=false from rfl,show((25:Int)==17)=false from rfl,show((25:Int)==22)=false from rfl,show((25:Int)==9)=false from rfl,show((25:Int)==16)=false from rfl,e1,e2,e3,e5,e6,oU,Int.reduceEq,reduceIte,bka]
 by_cases h26:kk=26
 ·subst h26
  simp only[go_sem,cM,aa,show((26:Int)==25)=false from rfl,show((26:Int)==26)=true from rfl,show((26:Int)==10)=false from rfl,show((26:Int)==27)=false from rfl,show((26:Int)==11)=false from rfl,show((26:Int)==13)=false from rfl,show((26:Int)==34)=false from rfl,show((26:Int)==12)=false from rfl,show((26:Int)==17)=false from rfl,show((26:Int)==22)=false from rfl,show((26:Int)==9)=false from rfl,show((26:Int)==16)=false from rfl,e1,e2,e3,e5,e6,oU,Int.reduceEq,reduceIte,bDa,bka]
 by_cases h10:kk=10
 ·subst h10
  simp only[go_sem,cM,aa,show((10:Int)==25)=false from rfl,show((10:Int)==26)=false from rfl,show((10:Int)==10)=true from rfl,show((10:Int)==27)=false from rfl,show((10:Int)==11)=false from rfl,show((10:Int)==13)=false from rfl,show((10:Int)==34)=false from rfl,show((10:Int)==12)=false from rfl,show((10:Int)==17)=false from rfl,show((10:Int)==22)=false from rfl,show((10:Int)==9)=false from rfl,show((10:Int)==16)=false from rfl,e1,e2,e3,e5,e6,oU,Int.reduceEq,reduceIte,b4a,bka]
 by_cases h27:kk=27
 ·subst h27
  simp only[go_sem,cM,aa,show((27:Int)==25)=false from rfl,show((27:Int)==26)=false from rfl,show((27:Int)==10)=false from rfl,show((27:Int)==27)=true from rfl,show((27:Int)==11)=false from rfl,show((27:Int)==13)=false from rfl,show((27:Int)==34)=false from rfl,show((27:Int)==12)=false from rfl,show((27:Int)==17)=false from rfl,show((27:Int)==22)=false from rfl,show((27:Int)==9)=false from rfl,show((27:Int)==16)=false from rfl,e1,e2,e3,e5,e6,oU,Int.reduceEq,reduceIte,bDa,bka]
 by_cases h11:kk=11
 ·subst h11
  simp only[go_sem,cM,aa,show((11:Int)==25)=false from rfl,show((11:Int)==26)=false from rfl,show((11:Int)==10)=false from rfl,show((11:Int)==27)=false from rfl,show((11:Int)==11)=true from rfl,show((11:Int)==13)=false from rfl,show((11:Int)==34)=false from rfl,show((11:Int)==12)=false from rfl,show((11:Int)==17)=false from rfl,show((11:Int)==22)=false from rfl,show((11:Int)==9)=false from rfl,show((11:Int)==16)=false from rfl,e1,e2,e3,e5,e6,oU,Int.reduceEq,reduceIte,b4a,bDa,bka]
 by_cases h13:kk=13
 ·subst h13
  simp only[go_sem,cM,aa,show((13:Int)==25)=false from rfl,show((13:Int)==26)=false from rfl,show((13:Int)==10)=false from rfl,show((13:Int)==27)=false from rfl,show((13:Int)==11)=false from rfl,show((13:Int)==13)=true from rfl,show((13:Int)==34)=false from rfl,show((13:Int)==12)=false from rfl,show((13:Int)==17)=false from rfl,show((13:Int)==22)=false from rfl,show((13:Int)==9)=false from rfl,show((13:Int)==16)=false from rfl,e1,e2,e3,e5,e6,oU,Int.reduceEq,reduceIte,b4a,bDa,bka]
 by_cases h34:kk=34
 ·subst h34
  simp only[go_sem,cM,aa,show((34:Int)==25)=false from rfl,show((34:Int)==26)=false from rfl,show((34:Int)==10)=false from rfl,show((34:Int)==27)=false from rfl,show((34:Int)==11)=false from rfl,show((34:Int)==13)=false from rfl,show((34:Int)==34)=true from rfl,show((34:Int)==12)=false from rfl,show((34:Int)==17)=false from rfl,show((34:Int)==22)=false from rfl,show((34:Int)==9)=false from rfl,show((34:Int)==16)=false from rfl,e1,e2,e3,e5,e6,oU,Int.reduceEq,reduceIte,b4a,bDa,bka]
 by_cases K5:kk=12
 ·subst K5
  simp only[go_sem,cM,aa,show((12:Int)==25)=false from rfl,show((12:Int)==26)=false from rfl,show((12:Int)==10)=false from rfl,show((12:Int)==27)=false from rfl,show((12:Int)==11)=false from rfl,show((12:Int)==13)=false from rfl,show((12:Int)==34)=false from rfl,show((12:Int)==12)=true from rfl,show((12:Int)==17)=false from rfl,show((12:Int)==22)=false from rfl,show((12:Int)==9)=false from rfl,show((12:Int)==16)=false from rfl,e1,e2,e3,e5,e6,oU,Int.reduceEq,reduceIte,b4a,bka]
 by_cases h17:kk=17
 ·subst h17
  simp only[go_sem,cM,aa,show((17:Int)==25)=false from rfl,show((17:Int)==26)=false from rfl,show((17:Int)==10)=false from rfl,show((17:Int)==27)=false from rfl,show((17:Int)==11)=false from rfl,show((17:Int)==13)=false from rfl,show((17:Int)==34)=false from rfl,show((17:Int)==12)=false from rfl,show((17:Int)==17)=true from rfl,show((17:Int)==22)=false from rfl,show((17:Int)==9)=false from rfl,show((17:Int)==16)=false from rfl,e1,e2,e3,e5,e6,oU,Int.reduceEq,reduceIte,bDa,bka]
 by_cases Er:kk=22
 ·subst Er
  simp only[go_sem,cM,aa,show((22:Int)==25)=false from rfl,show((22:Int)==26)=false from rfl,show((22:Int)==10)=false from rfl,show((22:Int)==27)=false from rfl,show((22:Int)==11)=false from rfl,show((22:Int)==13)=false from rfl,show((22:Int)==34)=false from rfl,show((22:Int)==12)=false from rfl,show((22:Int)==17)=false from rfl,show((22:Int)==22)=true from rfl,show((22:Int)==9)=false from rfl,show((22:Int)==16)=false from rfl,e1,e2,e3,e5,e6,oU,Int.reduceEq,reduceIte,b4a,bka]
 by_cases h9:kk=9
 ·subst h9
  simp only[go_sem,cM,aa,show((9:Int)==25)=false from rfl,show((9:Int)==26)=false from rfl,show((9:Int)==10)=false from rfl,show((9:Int)==27)=false from rfl,show((9:Int)==11)=false from rfl,show((9:Int)==13)=false from rfl,show((9:Int)==34)=false from rfl,show((9:Int)==12)=false from rfl,show((9:Int)==17)=false from rfl,show((9:Int)==22)=false from rfl,show((9:Int)==9)=true from rfl,show((9:Int)==16)=false from rfl,e1,e2,e3,e5,e6,oU,Int.reduceEq,reduceIte,bka]
 by_cases Gu:kk=16
 ·subst Gu
  simp only[go_sem,cM,aa,show((16:Int)==25)=false from rfl,show((16:Int)==26)=false from rfl,show((16:Int)==10)=false from rfl,show((16:Int)==27)=false from rfl,show((16:Int)==11)=false from rfl,show((16:Int)==13)=false from rfl,show((16:Int)==34)=false from rfl,show((16:Int)==12)=false from rfl,show((16:Int)==17)=false from rfl,show((16:Int)==22)=false from rfl,show((16:Int)==9)=false from rfl,show((16:Int)==16)=true from rfl,e1,e2,e3,e5,e6,oU,Int.reduceEq,reduceIte,bka]
 simp only[go_sem,cM,aa,Q6.2 h25,h25,Q6.2 h26,h26,Q6.2 h10,h10,Q6.2 h27,h27,Q6.2 h11,h11,Q6.2 h13,h13,Q6.2 h34,h34,Q6.2 K5,K5,Q6.2 h17,h17,Q6.2 Er,Er,Q6.2 h9,h9,Q6.2 Gu,Gu,oU,bka,reduceIte]
end
end Go.Fx.R5
namespace Go.Fx.R5
open Go Go.Fx
def EI(ns:List eu)(j:Int):ab:=match ns[j.toNat]? with|some y=>y.2.2.2.1|none=>[]
inductive Ip(ns:List eu)(t:zw)(fn:ab):Nat→Prop
 |mk (i:Nat) (x:eu) (hx:ns[i]? = some x) (hk:∀ j∈x.2.2.2.2,Ip ns t fn j.toNat) (hc:x.1=22→∀ u,x.2.2.2.2.head? = some u→(nk t fn (EI ns u)).1=5)
  (ha:x.1=12→∀ u,x.2.2.2.2.head? = some u→(nk t fn (EI ns u)).1=1):Ip ns t fn i
def U4(l:XS)(B:Nat)(c p:Int)(o:Option (XS×Int×Int×Unit)):Prop:=∃ bl,o=some (bl,c,p,())∧bl.length≤l.length+B∧(c=0→bl=l)
def abu(l:XS)(c p:Int)(o:Option ((Int×Int)×AS×Unit)):Prop:=∃ bm,o=some ((c,p),bm,())∧(c=0→Lw l bm)
def SY(l:XS)(c p:Int)(o:Option ((Int×Int×AS×Unit)⊕(Int×Int×AS×Unit))):Prop:=∃ bm,o=some (if c=0 then .inl (0,0,bm,()) else .inr (c,p,bm,()))∧(c=0→Lw l bm)
theorem oa(k:Nat):dF (k+1)=cL (dF k) (dB k) (eI k) k:=rfl
theorem Fz(k:Nat):dB (k+1)=il (dF k) (dB k) (eI k) k:=rfl
theorem MK(k:Nat):eI (k+1)=ml (dF k) (dB k) (eI k) k:=rfl
theorem WB(k:Nat):bL (k+1)=kB (bL k) (co k) (bV k) k:=rfl
theorem kA(k:Nat):co (k+1)=aU (bL k) (co k) (bV k) k:=rfl
theorem NU(k:Nat):bV (k+1)=gS (bL k) (co k) (bV k) k:=rfl
theorem Bi{rn ra rc}(q:Nat)(Kd:Int)(hK:(Kd==16)=false)(nm:ab):∀ k K A G F ns fn b c p i,iN rn ra rc q k K A G F ns fn b c p i=bN rn ra rc q k Kd nm K A G F ns fn b c p i
 |0,_,_,_,_,_,_,_,_,_,_=>rfl
 |k+1,K,A,G,F,ns,fn,b,c,p,i=>by simp only[go_sem,iN,bN,aa,hK,Bi q Kd hK nm k]
theorem Zc{rn ra rc}(q:Nat):∀ k ns A G F fn P I R B K n w w2 b i,cI rn ra rc q k ns A G F fn P I R B K n w w2 b i=aM rn ra rc q k ns A G F fn P I R B K n w w2 b i
 |0,_,_,_,_,_,_,_,_,_,_,_,_,_,_,_=>rfl
 |k+1,ns,A,G,F,fn,P,I,R,B,K,n,w,w2,b,i=>by simp only[cI,aM,Zc q k]
section
variable {t:zw} {fn:ab} {ns:List eu} {P:Int} {Is Rs:XS} {B:Int}
theorem IV{c p:Int}(hc:c≠0){i:Nat}{x:eu}(hx:ns[i]? = some x)(k:Nat)(b:XS):dF (k+1) t.1 t.2.1 t.2.2 ns fn b c p (i:Int)=some (b,c,p,()):=by rw[oa];simp only[go_sem,cL,bf hx,aUa.2 hc]
theorem K4{c p:Int}(hc:c≠0){Kd:Int}(hK:(Kd==16)=false){nm:ab}{K:XI}(hv:∀ j∈K,0≤j∧j<(ns.length:Int))(hl:K.length≤1000000)(q:Nat):∀(m s k:Nat) (b:XS),m+s=K.length→m<k→
  bN (dF (q+1)) (dB (q+1)) (eI (q+1)) (q+1) k Kd nm K t.1 t.2.1 t.2.2 ns fn b c p (s:Int)=some (b,c,p,())
 |0,s,k+1,b,h,_=>by
  have:¬ s<K.length:=by omega
  simp only[go_sem,bN,Q5,this]
 |m+1,s,k+1,b,h,hk=>by
  have bg:s<K.length:=by omega
  have hj:=hv _ (aRa bg);obtain⟨x,e1,_,_⟩:=vu hj.1 hj.2;have en:=IV (t:=t) (fn:=fn) (p:=p) hc e1 q b;rw[aNa hj.1] at en;simp only[go_sem,bN,aa,Q5,bg,hK,cB bg,en,ai (show s<_ by omega),K4 hc hK hv hl q m (s+1) k b (by omega) (by omega)]
def NB(t:zw)(fn:ab)(ns:List eu)(P:Int)(Is Rs:XS)(B:Int)(i:Nat):Prop:=∀ l:XS,l.length+i≤4000→∃ c p,(c=0→p=0∧Ip ns t fn i)∧
 Ev fun k=>U4 l (i+1) c p (dF k t.1 t.2.1 t.2.2 ns fn l 0 0 (i:Int))∧∀ D,Lw l D→abu l c p (co k ns t.1 t.2.1 t.2.2 fn P Is Rs B D (i:Int))
theorem BC{Kd:Int}(hK:(Kd==16)=false){nm:ab}{K:XI}(hv:∀ j∈K,0≤j∧j<(ns.length:Int))(hl:K.length≤1000000){l:XS}{i:Nat}(hli:l.length+i≤4000):∀ m s,m+s=K.length→(∀ j∈K.drop s,j<(i:Int)∧NB t fn ns P Is Rs B j.toNat)→
  ∃ c p,(c=0→p=0∧∀ j∈K.drop s,Ip ns t fn j.toNat)∧cq fun q k=>
   U4 l i c p (bN (dF q) (dB q) (eI q) q k Kd nm K t.1 t.2.1 t.2.2 ns fn l 0 0 (s:Int))∧
   ∀ D,Lw l D→SY l c p (aM (bL q) (co q) (bV q) q k ns t.1 t.2.1 t.2.2 fn P Is Rs B K (K.length:Int) 0 0 D (s:Int))
 |0,s,h,_=>by
  have h2:¬ s<K.length:=by omega
  have e:K.drop s=[]:=by simp;omega
  refine⟨0,0,fun _=>⟨rfl,by rw[e];simp⟩,cq.succ (cq.of fun q k=>⟨⟨l,?_,by omega,fun _=>rfl⟩,fun D hr=>⟨D,?_,fun _=>hr⟩⟩)⟩
  ·simp only[go_sem,bN,Q5,h2]
  ·simp only[go_sem,aM,Q5,h2,reduceIte]
 |m+1,s,h,hn=>by
  have bg:s<K.length:=by omega
  have hd:K.drop s=K[s]::K.drop (s+1):=aQa bg;have hj:=hv _ (aRa bg);have hnj:=hn K[s] (by rw[hd];exact ata)
  have hjn:((K[s].toNat:Nat):Int)=K[s]:=aNa hj.1;obtain⟨c,p,hc,he⟩:=hnj.2 l (by omega)
  rw[hjn] at he;by_cases h0:c=0
  ·subst h0
   obtain⟨rfl,HL⟩:=hc rfl;obtain⟨c2,p2,xd,he2⟩:=BC hK hv hl hli m (s+1) (by omega) (fun j hj=>hn j (by rw[hd];exact Q8 _ hj))
   refine⟨c2,p2,fun hz=>⟨(xd hz).1,fun j hj=>?_⟩,cq.succ ((he.tj.and he2).mono fun q k e=>?_)⟩
   ·rw[hd] at hj
    rcases ama.1 hj with rfl|hj
    ·exact HL
    ·exact(xd hz).2 j hj
   ·obtain⟨⟨⟨bl,e1,_,e2⟩,e3⟩,e4,e5⟩:=e
    obtain rfl:=e2 rfl;refine⟨?_,fun D hr=>?_⟩
    ·simp only[go_sem,bN,aa,Q5,bg,hK,cB bg,e1,ai (show s<_ by omega)]
     exact e4
    ·obtain⟨bm,e6,e7⟩:=e3 D hr
     simp only[go_sem,aM,Q5,bg,cB bg,e6,ai (show s<_ by omega)]
     exact e5 bm (e7 rfl)
  ·refine⟨c,p,fun hz=>absurd hz h0,cq.succ ((he.tj.and (Ev.tj (p:=fun q=>1≤q) ⟨1,fun k hk=>hk⟩ |>.and (Ev.ahW (p:=fun k=>m<k) ⟨m+1,fun k hk=>by omega⟩))).mono fun q k e=>?_)⟩
   obtain⟨⟨⟨bl,e1,eb,_⟩,e3⟩,hq,hk⟩:=e;obtain⟨q,rfl⟩:∃ j,q=j+1:=⟨q - 1,by omega⟩
   refine⟨⟨bl,?_,by have:=hnj.1;omega,fun hz=>absurd hz h0⟩,fun D hr=>?_⟩
   ·simp only[go_sem,bN,aa,Q5,bg,hK,cB bg,e1,ai (show s<_ by omega)]
    exact K4 h0 hK hv hl q m (s+1) k bl (by omega) hk
   ·obtain⟨bm,e6,e7⟩:=e3 D hr
    refine⟨bm,?_,fun hz=>absurd hz h0⟩;simp only[go_sem,aM,Q5,bg,cB bg,e6,aUa.2 h0,aza h0]
theorem Rk(ht:iO t){i:Nat}{x:eu}(hx:ns[i]? = some x)(h23:x.1=23)(hk:x.2.2.2.2=[])(l:XS):Ev fun k=>∀ D,Lw l D→co k ns t.1 t.2.1 t.2.2 fn P Is Rs B D (i:Int)=some ((0,0),D,()):=by
 have hb:Ev fun k=>∀ D:AS,bL k ns t.1 t.2.1 t.2.2 fn P Is Rs B D (i:Int)=some ((0,0),D,()):=Ev.succ (Ev.succ (Ev.of fun k D=>by
  rw[WB (k+1)];simp only[go_sem,kB,bf hx,hk];simp only[go_sem,aM,aCa,show decide ((0:Int)<((0:Nat):Int))=false from rfl]))
 refine Ev.succ ((hb.and (HP (fn:=fn) ht l x)).mono fun k e D hr=>?_);have lq:=e.2 D hr;simp only[h23,show ¬ (23:Int)=9 by decide,Q9,oU,Int.reduceEq,bka] at lq
 rw[kA];simp only[go_sem,aU,bf hx,aa,h23,show((23:Int)==9)=false from rfl,show((23:Int)==12)=false from rfl,show((23:Int)==22)=false from rfl,show((23:Int)==16)=false from rfl,lq,e.1]
theorem nk5{s:ab}(h:(nk t fn s).1=5):∃(n:Nat) (f:ab×Int×XS×XS×Int),(nk t fn s).2=(n:Int)∧t.2.2[n]? = some f∧f.1=s:=by
 have key:(Pw t s).1=5→∃(n:Nat) (f:ab×Int×XS×XS×Int),(Pw t s).2=(n:Int)∧t.2.2[n]? = some f∧f.1=s:=fun h=>by
  unfold Pw at h ⊢;by_cases g1:0≤nM (fun x:ab×Int=>x.1==s) t.1 0
  ·simp[g1] at h
  ·by_cases g2:0≤nM (fun x=>x==s) t.2.1 0
   ·simp[g1,g2] at h
   ·by_cases g3:0≤nM (fun x:ab×Int×XS×XS×Int=>x.1==s) t.2.2 0
    ·obtain⟨n,f,e1,e2,e3⟩:=Ju g3
     exact⟨n,f,by simp[g1,g2,e1],e2,a9a.1 e3⟩
    ·simp[g1,g2,g3] at h
 unfold nk at h ⊢;cases hf:t.2.2.find? (fun x=>x.1==fn) with
 |none=>simp only[hf] at h ⊢;exact key h
 |some x=>
  simp only[hf] at h ⊢;by_cases g1:0≤nM (fun y=>y==s) x.2.2.1 0
  ·simp[g1] at h
  ·by_cases g2:0≤nM (fun y=>y==s) x.2.2.2.1 0
   ·simp[g1,g2] at h
   ·simp only[go_sem,g1,g2] at h ⊢;exact key h
theorem Y0{s:ab}{a b:Int}(h:W t fn s a b=0):(nk t fn s).1=a∨(nk t fn s).1=b:=by
 unfold W at h;by_cases h0:(nk t fn s).1=0
 ·simp[h0] at h
 ·by_cases h1:(nk t fn s).1=a∨(nk t fn s).1=b
  ·exact h1
  ·simp[h0,h1] at h
end
end Go.Fx.R5
namespace Go.Fx.R5
open Go Go.Fx
section
variable {t:zw} {fn:ab} {ns:List eu} {P:Int} {Is Rs:XS} {B:Int}
structure JY(t:zw)(fn:ab)(ns:List eu)(P:Int)(Is Rs:XS)(B:Int)(i:Nat)(K:XI):Prop where
 v:∀ j∈K,0≤j∧j<(ns.length:Int)
 l:K.length≤5000
 n:∀ j∈K,j<(i:Int)∧NB t fn ns P Is Rs B j.toNat
theorem IG{i:Nat}{x:eu}(hx:ns[i]? = some x){l:XS}{c p:Int}(hp:c=0→p=0)
  (he:Ev fun k=>∀ D,Lw l D→SY l c p (aM (bL k) (co k) (bV k) k k ns t.1 t.2.1 t.2.2 fn P Is Rs B x.2.2.2.2 (x.2.2.2.2.length:Int) 0 0 D 0)):
  Ev fun k=>∀ D,Lw l D→abu l c p (bL k ns t.1 t.2.1 t.2.2 fn P Is Rs B D (i:Int)):=
 Ev.succ (he.mono fun k e D hr=>by
  obtain⟨bm,e1,e2⟩:=e D hr;refine⟨bm,?_,e2⟩;rw[WB];simp only[go_sem,kB,bf hx,e1];by_cases h0:c=0
  ·simp only[a7a h0];rw[h0,hp h0]
  ·simp only[aza h0])
theorem HB{c a:Int}(h:c≠0):Ms c a=a:=aza h
theorem aap(ht:iO t){i:Nat}{x:eu}(hx:ns[i]? = some x)(h9:x.1≠9)(Er:x.1≠22)(K5:x.1≠12)(Gu:x.1≠16)(IH:JY t fn ns P Is Rs B i x.2.2.2.2):NB t fn ns P Is Rs B i:=by
 intro l hli;have jG:=Xj (fn:=fn) ht (l:=l) (by omega) hx
 have lq:=HP (fn:=fn) ht l x;simp only[aza h9] at lq;have g9:=Q6.2 h9;have g22:=Q6.2 Er;have g12:=Q6.2 K5;have g16:=Q6.2 Gu;by_cases h0:oU t fn l x=0
 ·obtain⟨c,p,hc,he⟩:=BC (nm:=x.2.2.2.1) g16 IH.v (by have:=IH.l;omega) hli x.2.2.2.2.length 0 rfl (fun j hj=>IH.n j (by simpa using hj))
  refine⟨c,p,fun hz=>⟨(hc hz).1,Ip.mk i x hx (by simpa using (hc hz).2) (fun h=>absurd h Er) (fun h=>absurd h K5)⟩,?_⟩
  have heS:=(he.mono fun _ _ e=>e.1).jY;have heI:=IG hx (fun hz=>(hc hz).1) (he.mono fun _ _ e=>e.2).jY;refine Ev.succ ((jG.and (lq.and (heS.and heI))).mono fun k e=>?_);obtain⟨e1,e2,⟨bl,e3,e4,e5⟩,e6⟩:=e;refine⟨⟨bl,?_,by omega,e5⟩,fun D hr=>?_⟩
  ·rw[oa]
   rw[h0] at e1;simp only[go_sem,cL,bf hx,g9,g22,g12,g16,e1,aa,show Ms 0 x.2.1=0 from rfl,show bN _ _ _ k k x.1 x.2.2.2.1 x.2.2.2.2 t.1 t.2.1 t.2.2 ns fn l 0 0 0=_ from e3]
  ·obtain⟨bm,e7,e8⟩:=e6 D hr
   refine⟨bm,?_,e8⟩;have e2:=e2 D hr;rw[h0] at e2;rw[kA];simp only[go_sem,aU,bf hx,aa,g9,g22,g12,g16,e2,e7]
 ·refine⟨oU t fn l x,x.2.1,fun hz=>absurd hz h0,Ev.succ ((jG.and (lq.and (⟨5002,fun k hk=>hk⟩:Ev fun k=>5002≤k))).mono fun k e=>?_)⟩
  obtain⟨e1,e2,hk⟩:=e;have AD:=IH.l;obtain⟨j,rfl⟩:∃ j,k=j+1:=⟨k - 1,by omega⟩
  refine⟨⟨l,?_,by omega,fun _=>rfl⟩,fun D hr=>⟨D,?_,fun _=>hr⟩⟩
  ·rw[oa (j+1)]
   rw[HB h0] at e1;have ef:=K4 (t:=t) (fn:=fn) (ns:=ns) (p:=x.2.1) h0 g16 (nm:=x.2.2.2.1) IH.v (by omega) j x.2.2.2.2.length 0 (j+1) l rfl (by omega)
   simp only[go_sem,cL,bf hx,g9,g22,g12,g16,e1,aa];rw[show bN _ _ _ (j+1) (j+1) x.1 x.2.2.2.1 x.2.2.2.2 t.1 t.2.1 t.2.2 ns fn l (oU t fn l x) x.2.1 0=_ from ef]
   simp only[go_sem]
  ·have e2:=e2 D hr
   rw[kA (j+1)];simp only[go_sem,aU,bf hx,aa,g9,e2,aUa.2 h0]
theorem HU{K:XI}{n:Nat}{j:Int}(hv:∀ j∈K,0≤j∧j<(ns.length:Int))(h:K[n]? = some j):∃ y,bC K (n:Int)=some j∧bC ns j=some y∧ns[j.toNat]? = some y∧kd ns j=y.1∧((j.toNat:Nat):Int)=j:=by have hj:=hv j (a1a h);obtain⟨y,e1,e2,e3⟩:=vu hj.1 hj.2;exact⟨y,bf h,e3,e1,e2,aNa hj.1⟩
theorem afw(ht:iO t){c p:Int}(hc:c≠0){x:eu}{K:XI}(hxK:x.2.2.2.2=K){u:Int}(hu:K[0]? = some u)(hv:∀ j∈K,0≤j∧j<(ns.length:Int))(hl:K.length≤5000)(l:XS):
  Ev fun k=>eI k t.1 t.2.1 t.2.2 ns fn l c p x=some (l,c,p,()):=by
 subst hxK;obtain⟨y,e1,e2,e3,e4,e5⟩:=HU hv hu;have e1:bC x.2.2.2.2 0=some u:=e1;refine Ev.succ (((Xl (fn:=fn) hc ht y.2.2.2.1 y.2.1 5 5 (p:=p)).and ((VT ht fn y.2.2.2.1).and (⟨5002,fun k hk=>hk⟩:Ev fun k=>5002≤k))).mono fun k e=>?_);obtain⟨w1,w2,hk⟩:=e;obtain⟨j,rfl⟩:∃ j,k=j+1:=⟨k - 1,by omega⟩
 have rQ:0<x.2.2.2.2.length:=(aka.1 hu).1;have ef:=K4 (t:=t) (fn:=fn) (ns:=ns) (p:=p) hc (Kd:=0) rfl (nm:=[]) hv (by omega) j (x.2.2.2.2.length - 1) 1 (j+1) l (by omega) (by omega)
 rw[←Bi (j+1) 0 rfl []] at ef;have ef:iN (dF (j+1)) (dB (j+1)) (eI (j+1)) (j+1) (j+1) x.2.2.2.2 t.1 t.2.1 t.2.2 ns fn l c p 1=_:=ef;rw[MK (j+1)];simp only[go_sem,ml,e1,e2,w1,show cR (j+1) (t.1,t.2.1,t.2.2) fn y.2.2.2.1=_ from w2,aa,cm,Q6.2 hc,ef]
 by_cases h5:(nk t fn y.2.2.2.1).1=5
 ·obtain⟨n,f,n1,n2,_⟩:=nk5 h5
  rw[n1];simp only[go_sem,h5,bf n2];cases (f.2.1 != bh ((x.2.2.2.2.length:Int) - 1))<;>rfl
 ·simp only[go_sem,Q6.2 h5]
theorem ab9(ht:iO t){i:Nat}{x:eu}(hx:ns[i]? = some x)(hn:oi ns i x)(fk:jz ns)(Er:x.1=22)(IH:JY t fn ns P Is Rs B i x.2.2.2.2):NB t fn ns P Is Rs B i:=by
 intro l hli;have jG:=Xj (fn:=fn) ht (l:=l) (by omega) hx
 have lq:=HP (fn:=fn) ht l x;have du:=hn.shp;rw[Er] at du;obtain⟨u,r,hK⟩:∃ u r,x.2.2.2.2=u::r:=by
  cases h:x.2.2.2.2 with
  |nil=>rw[h] at du;simp[cf] at du
  |cons u r=>exact⟨u,r,rfl⟩
 have hu:x.2.2.2.2[0]? = some u:=by rw[hK];rfl
 have L7:kd ns u=23:=by rw[hK] at du;simp[cf] at du;exact du.1
 obtain⟨y,e1,e2,e3,e4,e5⟩:=HU IH.v hu;have e1:bC x.2.2.2.2 0=some u:=e1;rw[e4] at L7;have hyk:y.2.2.2.2=[]:=by have:=(fk _ _ e3).shp;rw[L7] at this;simpa[cf] using this
 have hoc:oU t fn l x=Iy t fn l x.2.2.2.1 3 2:=by simp only[oU,Er,Int.reduceEq,reduceIte,b4a,bka]
 rw[hoc] at jG;simp only[Er,show ¬ (22:Int)=9 by decide,Q9,hoc] at lq
 generalize Iy t fn l x.2.2.2.1 3 2=c0 at jG lq;have AD:=IH.l;have aia:l.length≤4000:=by omega
 by_cases h0:c0=0
 rotate_left
 ·refine⟨c0,x.2.1,fun hz=>absurd hz h0,Ev.succ ((jG.and (lq.and (afw (fn:=fn) ht (p:=x.2.1) h0 rfl hu IH.v IH.l l))).mono fun k e=>?_)⟩
  obtain⟨w1,w2,w3⟩:=e;rw[HB h0] at w1;refine⟨⟨l,?_,by omega,fun _=>rfl⟩,fun D hr=>⟨D,?_,fun _=>hr⟩⟩
  ·rw[oa];simp only[go_sem,cL,bf hx,Er,show((22:Int)==9)=false from rfl,show((22:Int)==12)=false from rfl,show((22:Int)==22)=true from rfl,show((22:Int)==16)=false from rfl,w1,w3]
  ·rw[kA];simp only[go_sem,aU,bf hx,aa,Er,show((22:Int)==9)=false from rfl,show((22:Int)==12)=false from rfl,show((22:Int)==22)=true from rfl,show((22:Int)==16)=false from rfl,w2 D hr,aUa.2 h0]
 subst h0;have hW:=E4 (fn:=fn) ht y.2.2.2.1 y.2.1 5 5;have hM:=Fl (fn:=fn) ht y.2.2.2.1 5;have hN:=VT ht fn y.2.2.2.1;have hNi:=ZZ ht fn y.2.2.2.1;have rQ:0<x.2.2.2.2.length:=by rw[hK];simp
 by_cases hw:W t fn y.2.2.2.1 5 5=0
 rotate_left
 ·have hn5:¬ (nk t fn y.2.2.2.1).1=5:=fun h=>hw (by simp[W,h])
  have hE:Ev fun k=>eI k t.1 t.2.1 t.2.2 ns fn l 0 0 x=some (l,W t fn y.2.2.2.1 5 5,y.2.1,()):=Ev.succ ((hW.and (hN.and (⟨5002,fun k hk=>hk⟩:Ev fun k=>5002≤k))).mono fun k e=>by
   obtain⟨w1,w2,hk⟩:=e;obtain⟨j,rfl⟩:∃ j,k=j+1:=⟨k - 1,by omega⟩
   have ef:=K4 (t:=t) (fn:=fn) (ns:=ns) (p:=y.2.1) hw (Kd:=0) rfl (nm:=[]) IH.v (by omega) j (x.2.2.2.2.length - 1) 1 (j+1) l (by omega) (by omega)
   rw[←Bi (j+1) 0 rfl []] at ef;have ef:iN (dF (j+1)) (dB (j+1)) (eI (j+1)) (j+1) (j+1) x.2.2.2.2 t.1 t.2.1 t.2.2 ns fn l (W t fn y.2.2.2.1 5 5) y.2.1 1=_:=ef;rw[HB hw] at w1;rw[MK (j+1)];simp only[go_sem,ml,e1,e2,w1,show cR (j+1) (t.1,t.2.1,t.2.2) fn y.2.2.2.1=_ from w2,aa,Q6.2 hn5,ef])
  refine⟨W t fn y.2.2.2.1 5 5,y.2.1,fun hz=>absurd hz hw,Ev.succ ((jG.and (lq.and (hE.and hM))).mono fun k e=>?_)⟩;obtain⟨w1,w2,w3,w4⟩:=e;refine⟨⟨l,?_,by omega,fun _=>rfl⟩,fun D hr=>⟨D,?_,fun _=>hr⟩⟩
  ·rw[oa];simp only[go_sem,cL,bf hx,Er,show((22:Int)==9)=false from rfl,show((22:Int)==12)=false from rfl,show((22:Int)==22)=true from rfl,show((22:Int)==16)=false from rfl,w1,show Ms 0 x.2.1=0 from rfl,w3]
  ·rw[kA];simp only[go_sem,aU,lr,bf hx,aa,Er,show((22:Int)==9)=false from rfl,show((22:Int)==12)=false from rfl,show((22:Int)==22)=true from rfl,show((22:Int)==16)=false from rfl,w2 D hr,e1,e2,w4,aUa.2 hw]
 have h5:(nk t fn y.2.2.2.1).1=5:=(Y0 hw).elim id id;obtain⟨n,f,n1,n2,n3⟩:=nk5 h5;by_cases abU:f.2.1=bh ((x.2.2.2.2.length:Int) - 1)
 rotate_left
 ·have DO:(f.2.1 != bh ((x.2.2.2.2.length:Int) - 1))=true:=aUa.2 abU
  have Qo:(bh ((x.2.2.2.2.length:Int) - 1) != f.2.1)=true:=aUa.2 (bBa abU);have hE:Ev fun k=>eI k t.1 t.2.1 t.2.2 ns fn l 0 0 x=some (l,12,y.2.1,()):=Ev.succ ((hW.and (hN.and (⟨5002,fun k hk=>hk⟩:Ev fun k=>5002≤k))).mono fun k e=>by
   obtain⟨w1,w2,hk⟩:=e;obtain⟨j,rfl⟩:∃ j,k=j+1:=⟨k - 1,by omega⟩
   have ef:=K4 (t:=t) (fn:=fn) (ns:=ns) (c:=12) (p:=y.2.1) (by decide) (Kd:=0) rfl (nm:=[]) IH.v (by omega) j (x.2.2.2.2.length - 1) 1 (j+1) l (by omega) (by omega)
   rw[←Bi (j+1) 0 rfl []] at ef;have ef:iN (dF (j+1)) (dB (j+1)) (eI (j+1)) (j+1) (j+1) x.2.2.2.2 t.1 t.2.1 t.2.2 ns fn l 12 y.2.1 1=_:=ef;rw[hw] at w1;rw[MK (j+1)];simp only[go_sem,ml,e1,e2,w1,show Ms 0 y.2.1=0 from rfl,show cR (j+1) (t.1,t.2.1,t.2.2) fn y.2.2.2.1=_ from w2,aa,h5,n1,bf n2,DO,cm,ef])
  refine⟨12,y.2.1,fun hz=>absurd hz (by decide),Ev.succ ((jG.and (lq.and (hE.and (hM.and hNi)))).mono fun k e=>?_)⟩
  obtain⟨w1,w2,w3,w4,w5⟩:=e;rw[hw] at w4;refine⟨⟨l,?_,by omega,fun _=>rfl⟩,fun D hr=>⟨D,?_,fun _=>hr⟩⟩
  ·rw[oa];simp only[go_sem,cL,bf hx,Er,show((22:Int)==9)=false from rfl,show((22:Int)==12)=false from rfl,show((22:Int)==22)=true from rfl,show((22:Int)==16)=false from rfl,w1,show Ms 0 x.2.1=0 from rfl,w3]
  ·rw[kA];simp only[go_sem,aU,lr,bf hx,aa,Er,show((22:Int)==9)=false from rfl,show((22:Int)==12)=false from rfl,show((22:Int)==22)=true from rfl,show((22:Int)==16)=false from rfl,w2 D hr,e1,e2,w4,show fF k (t.1,t.2.1,t.2.2) fn y.2.2.2.1=_ from w5,n1,bf n2,Qo,show((12:Int) != 0)=true from rfl]
 have DO:(f.2.1 != bh ((x.2.2.2.2.length:Int) - 1))=false:=by rw[abU];simp
 have Qo:(bh ((x.2.2.2.2.length:Int) - 1) != f.2.1)=false:=by rw[abU];simp
 obtain⟨c,p,hc,he⟩:=BC (Kd:=0) rfl (nm:=[]) IH.v (by omega) hli (x.2.2.2.2.length - 1) 1 (by omega) (fun j hj=>IH.n j (List.mem_of_mem_drop hj))
 have hus:=Rk (P:=P) (Is:=Is) (Rs:=Rs) (B:=B) (fn:=fn) ht e3 L7 hyk l;rw[e5] at hus;have heS:Ev fun k=>U4 l i c p (iN (dF k) (dB k) (eI k) k k x.2.2.2.2 t.1 t.2.1 t.2.2 ns fn l 0 0 1):=(he.mono fun _ _ e=>e.1).jY.mono fun k e=>by rw[Bi k 0 rfl []];exact e
 have heL:Ev fun k=>∀ D,Lw l D→SY l c p (aM (bL k) (co k) (bV k) k k ns t.1 t.2.1 t.2.2 fn P Is Rs B x.2.2.2.2 (x.2.2.2.2.length:Int) 0 0 D 0):=
  cq.jY (p2:=fun q k=>∀ D,Lw l D→SY l c p (aM (bL q) (co q) (bV q) q k ns t.1 t.2.1 t.2.2 fn P Is Rs B x.2.2.2.2 (x.2.2.2.2.length:Int) 0 0 D 0)) (cq.succ ((hus.tj.and (he.mono fun _ _ e=>e.2)).mono fun q k e D hr=>by
   have:=e.2 D hr;simp only[go_sem,aM,show decide ((0:Int)<(x.2.2.2.2.length:Int))=true from decide_eq_true (by omega),e1,e.1 D hr,show bh (0+1)=1 from rfl]
   exact this))
 have heI:=IG (i:=i) hx (fun hz=>(hc hz).1) heL;have hE:Ev fun k=>U4 l i c p (eI k t.1 t.2.1 t.2.2 ns fn l 0 0 x):=Ev.succ ((hW.and (hN.and heS)).mono fun k e=>by
  obtain⟨w1,w2,bl,w3,w4,w5⟩:=e;rw[hw] at w1;refine⟨bl,?_,w4,w5⟩;rw[MK];simp only[go_sem,ml,e1,e2,w1,show Ms 0 y.2.1=0 from rfl,show cR k (t.1,t.2.1,t.2.2) fn y.2.2.2.1=_ from w2,aa,h5,n1,bf n2,DO,w3])
 refine⟨c,p,fun hz=>⟨(hc hz).1,Ip.mk i x hx (fun j hj=>?_) (fun _ v hv=>?_) (fun h=>absurd (Er.symm.trans h) (by decide))⟩,Ev.succ ((jG.and (lq.and (hE.and (hM.and (hNi.and heI))))).mono fun k e=>?_)⟩
 ·rw[hK] at hj
  rcases ama.1 hj with rfl|hj
  ·exact Ip.mk _ y e3 (by rw[hyk];simp) (fun h=>absurd (L7.symm.trans h) (by decide)) (fun h=>absurd (L7.symm.trans h) (by decide))
  ·exact(hc hz).2 j (by rw[hK];exact hj)
 ·rw[hK] at hv
  simp only[List.head?_cons,OQ] at hv;subst hv;simp only[EI,e3];exact h5
 ·obtain⟨w1,w2,⟨bl,w3,w3',ahY⟩,w4,w5,w6⟩:=e
  rw[hw] at w4;refine⟨⟨bl,?_,by omega,ahY⟩,fun D hr=>?_⟩
  ·rw[oa];simp only[go_sem,cL,bf hx,Er,show((22:Int)==9)=false from rfl,show((22:Int)==12)=false from rfl,show((22:Int)==22)=true from rfl,show((22:Int)==16)=false from rfl,w1,show Ms 0 x.2.1=0 from rfl,w3]
  ·obtain⟨bm,w7,w8⟩:=w6 D hr
   refine⟨bm,?_,w8⟩;rw[kA];simp only[go_sem,aU,lr,bf hx,aa,Er,show((22:Int)==9)=false from rfl,show((22:Int)==12)=false from rfl,show((22:Int)==22)=true from rfl,show((22:Int)==16)=false from rfl,w2 D hr,e1,e2,w4,show fF k (t.1,t.2.1,t.2.2) fn y.2.2.2.1=_ from w5,n1,bf n2,Qo,w7]
end
end Go.Fx.R5
namespace Go.Fx.R5
open Go Go.Fx
section
variable {t:zw} {fn:ab} {ns:List eu} {P:Int} {Is Rs:XS} {B:Int}
theorem ab8(ht:iO t){i:Nat}{x:eu}(hx:ns[i]? = some x)(hn:oi ns i x)(fk:jz ns)(K5:x.1=12)(IH:JY t fn ns P Is Rs B i x.2.2.2.2):NB t fn ns P Is Rs B i:=by
 intro l hli;have jG:=Xj (fn:=fn) ht (l:=l) (by omega) hx
 have lq:=HP (fn:=fn) ht l x;have du:=hn.shp;rw[K5] at du;obtain⟨u,r,hK⟩:∃ u r,x.2.2.2.2=u::r:=by
  cases h:x.2.2.2.2 with
  |nil=>rw[h] at du;simp[cf] at du
  |cons u r=>exact⟨u,r,rfl⟩
 have hu:x.2.2.2.2[0]? = some u:=by rw[hK];rfl
 have L7:kd ns u=23:=by
  rw[hK] at du;cases r with
  |nil=>simp[cf] at du
  |cons v r=>cases r with
   |nil=>simp[cf] at du;exact du.1
   |cons w r=>simp[cf] at du
 obtain⟨y,e1,e2,e3,e4,e5⟩:=HU IH.v hu;have e1:bC x.2.2.2.2 0=some u:=e1;rw[e4] at L7;have hyk:y.2.2.2.2=[]:=by have:=(fk _ _ e3).shp;rw[L7] at this;simpa[cf] using this
 simp only[K5,show ¬ (12:Int)=9 by decide,Q9] at lq
 generalize oU t fn l x=c0 at jG lq;have AD:=IH.l;have rQ:0<x.2.2.2.2.length:=by rw[hK];simp
 have hM:=Fl (fn:=fn) ht y.2.2.2.1 1;have g16:((12:Int)==16)=false:=rfl;by_cases h0:c0=0
 rotate_left
 ·refine⟨c0,x.2.1,fun hz=>absurd hz h0,Ev.succ ((jG.and (lq.and ((Xl (fn:=fn) h0 ht y.2.2.2.1 y.2.1 1 1 (p:=x.2.1)).and (⟨5002,fun k hk=>hk⟩:Ev fun k=>5002≤k)))).mono fun k e=>?_)⟩
  obtain⟨w1,w2,w3,hk⟩:=e;rw[HB h0] at w1;obtain⟨j,rfl⟩:∃ j,k=j+1:=⟨k - 1,by omega⟩
  have ef:=K4 (t:=t) (fn:=fn) (ns:=ns) (p:=x.2.1) h0 g16 (nm:=x.2.2.2.1) IH.v (by omega) j (x.2.2.2.2.length - 1) 1 (j+1) l (by omega) (by omega)
  refine⟨⟨l,?_,by omega,fun _=>rfl⟩,fun D hr=>⟨D,?_,fun _=>hr⟩⟩
  ·rw[oa (j+1)];simp only[go_sem,cL,bf hx,K5,show((12:Int)==9)=false from rfl,show((12:Int)==12)=true from rfl,show((12:Int)==22)=false from rfl,show((12:Int)==16)=false from rfl,w1,aa,e1,e2,w3]
   rw[show bN _ _ _ (j+1) (j+1) 12 x.2.2.2.1 x.2.2.2.2 t.1 t.2.1 t.2.2 ns fn l c0 x.2.1 1=_ from ef]
   simp only[go_sem]
  ·rw[kA (j+1)];simp only[go_sem,aU,bf hx,aa,K5,show((12:Int)==9)=false from rfl,show((12:Int)==12)=true from rfl,show((12:Int)==22)=false from rfl,show((12:Int)==16)=false from rfl,w2 D hr,aUa.2 h0]
 subst h0;have hW:=E4 (fn:=fn) ht y.2.2.2.1 y.2.1 1 1;by_cases hw:W t fn y.2.2.2.1 1 1=0
 rotate_left
 ·refine⟨W t fn y.2.2.2.1 1 1,y.2.1,fun hz=>absurd hz hw,Ev.succ ((jG.and (lq.and (hW.and (hM.and (⟨5002,fun k hk=>hk⟩:Ev fun k=>5002≤k))))).mono fun k e=>?_)⟩
  obtain⟨w1,w2,w3,w4,hk⟩:=e;rw[HB hw] at w3;obtain⟨j,rfl⟩:∃ j,k=j+1:=⟨k - 1,by omega⟩
  have ef:=K4 (t:=t) (fn:=fn) (ns:=ns) (p:=y.2.1) hw g16 (nm:=x.2.2.2.1) IH.v (by omega) j (x.2.2.2.2.length - 1) 1 (j+1) l (by omega) (by omega)
  refine⟨⟨l,?_,by omega,fun _=>rfl⟩,fun D hr=>⟨D,?_,fun _=>hr⟩⟩
  ·rw[oa (j+1)];simp only[go_sem,cL,bf hx,K5,show((12:Int)==9)=false from rfl,show((12:Int)==12)=true from rfl,show((12:Int)==22)=false from rfl,show((12:Int)==16)=false from rfl,w1,show Ms 0 x.2.1=0 from rfl,aa,e1,e2,w3]
   rw[show bN _ _ _ (j+1) (j+1) 12 x.2.2.2.1 x.2.2.2.2 t.1 t.2.1 t.2.2 ns fn l (W t fn y.2.2.2.1 1 1) y.2.1 1=_ from ef]
   simp only[go_sem]
  ·rw[kA (j+1)];simp only[go_sem,aU,bf hx,aa,K5,show((12:Int)==9)=false from rfl,show((12:Int)==12)=true from rfl,show((12:Int)==22)=false from rfl,show((12:Int)==16)=false from rfl,w2 D hr,e1,e2,w4,aUa.2 hw]
 obtain⟨c,p,hc,he⟩:=BC (Kd:=12) rfl (nm:=x.2.2.2.1) IH.v (by omega) hli (x.2.2.2.2.length - 1) 1 (by omega) (fun j hj=>IH.n j (List.mem_of_mem_drop hj))
 have hus:=Rk (P:=P) (Is:=Is) (Rs:=Rs) (B:=B) (fn:=fn) ht e3 L7 hyk l;rw[e5] at hus;have heS:=(he.mono fun _ _ e=>e.1).jY;have heL:Ev fun k=>∀ D,Lw l D→SY l c p (aM (bL k) (co k) (bV k) k k ns t.1 t.2.1 t.2.2 fn P Is Rs B x.2.2.2.2 (x.2.2.2.2.length:Int) 0 0 D 0):=
  cq.jY (p2:=fun q k=>∀ D,Lw l D→SY l c p (aM (bL q) (co q) (bV q) q k ns t.1 t.2.1 t.2.2 fn P Is Rs B x.2.2.2.2 (x.2.2.2.2.length:Int) 0 0 D 0)) (cq.succ ((hus.tj.and (he.mono fun _ _ e=>e.2)).mono fun q k e D hr=>by
   have:=e.2 D hr;simp only[go_sem,aM,show decide ((0:Int)<(x.2.2.2.2.length:Int))=true from decide_eq_true (by omega),e1,e.1 D hr,show bh (0+1)=1 from rfl]
   exact this))
 have heI:=IG (i:=i) hx (fun hz=>(hc hz).1) heL;refine⟨c,p,fun hz=>⟨(hc hz).1,Ip.mk i x hx (fun j hj=>?_) (fun h=>absurd (K5.symm.trans h) (by decide)) (fun _ v hv=>?_)⟩,Ev.succ ((jG.and (lq.and (hW.and (hM.and (heS.and heI))))).mono fun k e=>?_)⟩
 ·rw[hK] at hj
  rcases ama.1 hj with rfl|hj
  ·exact Ip.mk _ y e3 (by rw[hyk];simp) (fun h=>absurd (L7.symm.trans h) (by decide)) (fun h=>absurd (L7.symm.trans h) (by decide))
  ·exact(hc hz).2 j (by rw[hK];exact hj)
 ·rw[hK] at hv
  simp only[List.head?_cons,OQ] at hv;subst hv;simp only[EI,e3];exact(Y0 hw).elim id id
 ·obtain⟨w1,w2,w3,w4,⟨bl,w5,w5',ahZ⟩,w6⟩:=e
  rw[hw] at w4;rw[hw] at w3;refine⟨⟨bl,?_,by omega,ahZ⟩,fun D hr=>?_⟩
  ·rw[oa];simp only[go_sem,cL,bf hx,K5,show((12:Int)==9)=false from rfl,show((12:Int)==12)=true from rfl,show((12:Int)==22)=false from rfl,show((12:Int)==16)=false from rfl,w1,show Ms 0 x.2.1=0 from rfl,show Ms 0 y.2.1=0 from rfl,aa,e1,e2,w3]
   rw[show bN _ _ _ k k 12 x.2.2.2.1 x.2.2.2.2 t.1 t.2.1 t.2.2 ns fn l 0 0 1=_ from w5]
   simp only[go_sem]
  ·obtain⟨bm,w7,w8⟩:=w6 D hr
   refine⟨bm,?_,w8⟩;rw[kA];simp only[go_sem,aU,bf hx,aa,K5,show((12:Int)==9)=false from rfl,show((12:Int)==12)=true from rfl,show((12:Int)==22)=false from rfl,show((12:Int)==16)=false from rfl,w2 D hr,e1,e2,w4,w7]
theorem aeB(ht:iO t){i:Nat}{x:eu}(hx:ns[i]? = some x)(hn:oi ns i x)(fk:jz ns)(h9:x.1=9)(IH:JY t fn ns P Is Rs B i x.2.2.2.2):NB t fn ns P Is Rs B i:=by
 intro l hli;have du:=hn.shp;rw[h9] at du;obtain⟨u,hK⟩:∃ u,x.2.2.2.2=[u]:=by
  rcases h:x.2.2.2.2 with _|⟨u,_|⟨v,r⟩⟩
  ·rw[h] at du;simp[cf] at du
  ·exact⟨u,rfl⟩
  ·rw[h] at du;simp[cf] at du
 have hu:x.2.2.2.2[0]? = some u:=by rw[hK];rfl
 obtain⟨y,e1,e2,e3,e4,e5⟩:=HU IH.v hu;have e1:bC x.2.2.2.2 0=some u:=e1;have hni:=IH.n u (by rw[hK];simp)
 have hN:=VT ht fn x.2.2.2.1;have hNi:=ZZ ht fn x.2.2.2.1;by_cases h4:(nk t fn x.2.2.2.1).1=4
 ·
  have bP:y.1=25∨y.1=29→Ip ns t fn u.toNat:=fun h=>by
   have hy:=(fk _ _ e3).shp;have hyk:y.2.2.2.2=[]:=by rcases h with h|h<;>(rw[h] at hy;simpa[cf] using hy)
   exact Ip.mk _ y e3 (by rw[hyk];simp) (fun h'=>by rcases h with h|h<;>exact absurd (h.symm.trans h') (by decide)) (fun h'=>by rcases h with h|h<;>exact absurd (h.symm.trans h') (by decide))
  have chk:y.1=25∨y.1=29→Ip ns t fn i:=fun h=>Ip.mk i x hx (fun j hj=>by rw[hK] at hj;rw[Q7.1 hj];exact bP h) (fun h'=>absurd (h9.symm.trans h') (by decide)) (fun h'=>absurd (h9.symm.trans h') (by decide))
  have hW:=E4 (fn:=fn) ht y.2.2.2.1 y.2.1 4 4;have hM:=Fl (fn:=fn) ht y.2.2.2.1 4;have adX:∀ c p:Int,(c=0→p=0∧Ip ns t fn i)→(Ev fun k=>dB k t.1 t.2.1 t.2.2 ns fn l 0 0 x=some (l,c,p,()))→(Ev fun k=>jL k ns t.1 t.2.1 t.2.2 fn x=some ((c,p),()))→
    ∃ c p,(c=0→p=0∧Ip ns t fn i)∧Ev fun k=>U4 l (i+1) c p (dF k t.1 t.2.1 t.2.2 ns fn l 0 0 (i:Int))∧∀ D,Lw l D→abu l c p (co k ns t.1 t.2.1 t.2.2 fn P Is Rs B D (i:Int)):=fun c p hc hS hI=>by
   refine⟨c,p,hc,Ev.succ ((hS.and (hI.and hNi)).mono fun k e=>?_)⟩;obtain⟨w1,w2,w3⟩:=e;refine⟨⟨l,?_,by omega,fun _=>rfl⟩,fun D hr=>⟨D,?_,fun _=>hr⟩⟩
   ·rw[oa];simp only[go_sem,cL,bf hx,h9,w1]
   ·rw[kA];simp only[go_sem,aU,gI,bf hx,aa,h9,show fF k (t.1,t.2.1,t.2.2) fn x.2.2.2.1=_ from w3,h4,w2]
  by_cases y29:y.1=29
  ·refine adX 0 0 (fun _=>⟨rfl,chk (.inr y29)⟩) (Ev.succ (hN.mono fun k e=>?_)) (Ev.of fun k=>?_)
   ·rw[Fz];simp only[go_sem,il,show cR k (t.1,t.2.1,t.2.2) fn x.2.2.2.1=_ from e,e1,e2,h4,aa,y29,show((29:Int)==25)=false from rfl,show((29:Int) != 29)=false from rfl]
   ·simp only[go_sem,jL,e1,e2,y29]
  ·by_cases y25:y.1=25
   ·refine adX (W t fn y.2.2.2.1 4 4) (Ms (W t fn y.2.2.2.1 4 4) y.2.1) (fun hz=>⟨by simp[Ms,hz],chk (.inl y25)⟩) (Ev.succ ((hN.and hW).mono fun k e=>?_)) (hM.mono fun k e=>?_)
    ·rw[Fz];simp only[go_sem,il,show cR k (t.1,t.2.1,t.2.2) fn x.2.2.2.1=_ from e.1,e1,e2,h4,aa,y25,e.2]
    ·simp only[go_sem,jL,e1,e2,y25,show((25:Int)==29)=false from rfl,e]
     by_cases hw:W t fn y.2.2.2.1 4 4=0
     ·simp[hw,Ms]
     ·simp[hw,Ms,aUa.2 hw]
   ·refine adX 11 x.2.1 (fun hz=>absurd hz (by decide)) (Ev.succ (hN.mono fun k e=>?_)) (Ev.of fun k=>?_)
    ·rw[Fz];simp only[go_sem,il,show cR k (t.1,t.2.1,t.2.2) fn x.2.2.2.1=_ from e,e1,e2,h4,aa,Q6.2 y25,aUa.2 y29,cm]
    ·simp only[go_sem,jL,e1,e2,Q6.2 y29,Q6.2 y25]
 ·
  have g4:((nk t fn x.2.2.2.1).1==4)=false:=Q6.2 h4;have NS:=adz (fn:=fn) ht (l:=l) (by omega) x.2.2.2.1 x.2.1
  have lq:=HP (fn:=fn) ht l x;simp only[h9,ava] at lq;generalize Iy t fn l x.2.2.2.1 3 2=c0 at NS lq;have g9:((9:Int)==9)=true:=rfl;by_cases h0:c0=0
  rotate_left
  ·have hS:Ev fun k=>dB k t.1 t.2.1 t.2.2 ns fn l 0 0 x=some (l,c0,x.2.1,()):=Ev.succ ((hN.and (NS.and (⟨1,fun k hk=>hk⟩:Ev fun k=>1≤k))).mono fun k e=>by
    obtain⟨w1,w2,hk⟩:=e;rw[HB h0] at w2;obtain⟨j,rfl⟩:∃ j,k=j+1:=⟨k - 1,by omega⟩
    have en:=IV (t:=t) (fn:=fn) (p:=x.2.1) h0 e3 j l;rw[e5] at en;rw[Fz (j+1)];simp only[go_sem,il,show cR (j+1) (t.1,t.2.1,t.2.2) fn x.2.2.2.1=_ from w1,e1,e2,g4,w2,aa,cm,Q6.2 h0,en]
    cases (y.1==29)<;>rfl)
   refine⟨c0,x.2.1,fun hz=>absurd hz h0,Ev.succ ((hS.and (lq.and hNi)).mono fun k e=>?_)⟩;obtain⟨w1,w2,w3⟩:=e;refine⟨⟨l,?_,by omega,fun _=>rfl⟩,fun D hr=>⟨D,?_,fun _=>hr⟩⟩
   ·rw[oa];simp only[go_sem,cL,bf hx,h9,g9,w1]
   ·rw[kA];simp only[go_sem,aU,gI,bf hx,aa,h9,g9,show fF k (t.1,t.2.1,t.2.2) fn x.2.2.2.1=_ from w3,g4,w2 D hr,aUa.2 h0]
  subst h0;by_cases y29:y.1=29
  ·have hS:Ev fun k=>dB k t.1 t.2.1 t.2.2 ns fn l 0 0 x=some (l,11,y.2.1,()):=Ev.succ ((hN.and (NS.and (⟨1,fun k hk=>hk⟩:Ev fun k=>1≤k))).mono fun k e=>by
    obtain⟨w1,w2,hk⟩:=e;obtain⟨j,rfl⟩:∃ j,k=j+1:=⟨k - 1,by omega⟩
    have en:=IV (t:=t) (fn:=fn) (c:=11) (p:=y.2.1) (by decide) e3 j l
    rw[e5] at en;rw[Fz (j+1)];simp only[go_sem,il,show cR (j+1) (t.1,t.2.1,t.2.2) fn x.2.2.2.1=_ from w1,e1,e2,g4,w2,show Ms 0 x.2.1=0 from rfl,aa,cm,y29,en])
   refine⟨11,y.2.1,fun hz=>absurd hz (by decide),Ev.succ ((hS.and (lq.and hNi)).mono fun k e=>?_)⟩
   obtain⟨w1,w2,w3⟩:=e;refine⟨⟨l,?_,by omega,fun _=>rfl⟩,fun D hr=>⟨D,?_,fun _=>hr⟩⟩
   ·rw[oa];simp only[go_sem,cL,bf hx,h9,g9,w1]
   ·rw[kA];simp only[go_sem,aU,gI,bf hx,aa,h9,g9,show fF k (t.1,t.2.1,t.2.2) fn x.2.2.2.1=_ from w3,g4,w2 D hr,e1,e2,y29]
  have g29:=Q6.2 y29;have AD:=IH.l;obtain⟨c,p,hc,he⟩:=hni.2 l (by omega)
  rw[e5] at he;have hS:Ev fun k=>U4 l (u.toNat+1) c p (dB k t.1 t.2.1 t.2.2 ns fn l 0 0 x):=Ev.succ ((hN.and (NS.and he)).mono fun k e=>by
   obtain⟨w1,w2,⟨bl,w3,w4,w5⟩,_⟩:=e;refine⟨bl,?_,w4,w5⟩;rw[Fz];simp only[go_sem,il,show cR k (t.1,t.2.1,t.2.2) fn x.2.2.2.1=_ from w1,e1,e2,g4,w2,show Ms 0 x.2.1=0 from rfl,aa,g29,w3])
  obtain⟨c2,p2,xd,he2⟩:=BC (Kd:=0) rfl (nm:=[]) IH.v (by omega) hli x.2.2.2.2.length 0 rfl (fun j hj=>IH.n j (by simpa using hj))
  have heL:Ev fun k=>∀ D,Lw l D→SY l c p (aM (bL k) (co k) (bV k) k k ns t.1 t.2.1 t.2.2 fn P Is Rs B x.2.2.2.2 (x.2.2.2.2.length:Int) 0 0 D 0):=
   cq.jY (p2:=fun q k=>∀ D,Lw l D→SY l c p (aM (bL q) (co q) (bV q) q k ns t.1 t.2.1 t.2.2 fn P Is Rs B x.2.2.2.2 (x.2.2.2.2.length:Int) 0 0 D 0)) (cq.succ (cq.succ (he.tj.mono fun q k e D hr=>by
    obtain⟨bm,w1,w2⟩:=e.2 D hr;refine⟨bm,?_,w2⟩;rw[hK,aM];simp only[go_sem,b9a,show decide ((0:Int)<((1:Nat):Int))=true from rfl,show bC [u] 0=some u from rfl,w1]
    by_cases hz:c=0
    ·rw[aM]
     simp only[go_sem,hz,show bh (0+1)=1 from rfl,show decide ((1:Int)<((1:Nat):Int))=false from rfl,ava]
    ·simp only[go_sem,aUa.2 hz,aza hz])))
  have heI:=IG (i:=i) hx (fun hz=>(hc hz).1) heL;refine⟨c,p,fun hz=>⟨(hc hz).1,Ip.mk i x hx (fun j hj=>by rw[hK] at hj;rw[Q7.1 hj];exact(hc hz).2) (fun h'=>absurd (h9.symm.trans h') (by decide)) (fun h'=>absurd (h9.symm.trans h') (by decide))⟩,Ev.succ ((hS.and (lq.and (hNi.and heI))).mono fun k e=>?_)⟩
  obtain⟨⟨bl,w1,w1',ahX⟩,w2,w3,w4⟩:=e;have bg:=hni.1;refine⟨⟨bl,?_,by omega,ahX⟩,fun D hr=>?_⟩
  ·rw[oa];simp only[go_sem,cL,bf hx,h9,g9,w1]
  ·obtain⟨bm,w5,w6⟩:=w4 D hr
   refine⟨bm,?_,w6⟩;rw[kA];simp only[go_sem,aU,gI,bf hx,aa,h9,g9,show fF k (t.1,t.2.1,t.2.2) fn x.2.2.2.1=_ from w3,g4,w2 D hr,e1,e2,g29,w5]
end
end Go.Fx.R5
