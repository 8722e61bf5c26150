/- Proved here: laws.FnExactEngineTop returns true at every input (the tied card), no condition beyond the card. -/
import Derived.Test.YtldbfcdfogojfaaGreatDoorCb
set_option linter.unusedVariables false
set_option linter.unusedSimpArgs false
set_option linter.unusedSectionVars false
set_option linter.defProp false
set_option maxRecDepth 100000
namespace Go.Fx.R5
open Go Go.Fx
attribute [go_sem] Option.bind_some cond_true cond_false Bool.false_eq_true Bool.not_true Bool.not_false beq_self_eq_true bne_self_eq_false decide_true decide_false
def Ev(p:Nat→Prop):Prop:=∃ K,∀ k,K≤k→p k
def ct(p:Nat→Nat→Prop):Prop:=∃ K,∀ q k,K≤q→K≤k→p q k
section
variable {p r:Nat→Prop} {p2 r2:Nat→Nat→Prop}
theorem Ev.of(h:∀ k,p k):Ev p:=⟨0,fun k _=>h k⟩
theorem Ev.mono(h:Ev p)(g:∀ k,p k→r k):Ev r:=h.imp fun _ h k hk=>g k (h k hk)
theorem Ev.and(h:Ev p)(g:Ev r):Ev fun k=>p k∧r k:=
 let⟨K,h⟩:=h;let⟨L,g⟩:=g;⟨K+L,fun k hk=>⟨h k (by omega),g k (by omega)⟩⟩
theorem Ev.succ(h:Ev fun k=>p (k+1)):Ev p:=
 let⟨K,h⟩:=h;⟨K+1,fun k hk=>by obtain⟨j,rfl⟩:∃ j,k=j+1:=⟨k - 1,by omega⟩;exact h j (by omega)⟩
theorem Ev.abM(h:Ev p):Ev fun k=>p (k+1):=let⟨K,h⟩:=h;⟨K,fun k hk=>h (k+1) (by omega)⟩
theorem Ev.tZ(h:Ev p):ct fun q _=>p q:=let⟨K,h⟩:=h;⟨K,fun q _ hq _=>h q hq⟩
theorem Ev.ahb(h:Ev p):ct fun _ k=>p k:=let⟨K,h⟩:=h;⟨K,fun _ k _ hk=>h k hk⟩
theorem ct.of(h:∀ q k,p2 q k):ct p2:=⟨0,fun q k _ _=>h q k⟩
theorem ct.mono(h:ct p2)(g:∀ q k,p2 q k→r2 q k):ct r2:=h.imp fun _ h q k hq hk=>g q k (h q k hq hk)
theorem ct.and(h:ct p2)(g:ct r2):ct fun q k=>p2 q k∧r2 q k:=
 let⟨K,h⟩:=h;let⟨L,g⟩:=g;⟨K+L,fun q k hq hk=>⟨h q k (by omega) (by omega),g q k (by omega) (by omega)⟩⟩
theorem ct.succ(h:ct fun q k=>p2 q (k+1)):ct p2:=
 let⟨K,h⟩:=h;⟨K+1,fun q k hq hk=>by obtain⟨j,rfl⟩:∃ j,k=j+1:=⟨k - 1,by omega⟩;exact h q j (by omega) (by omega)⟩
theorem ct.jN(h:ct p2):Ev fun k=>p2 k k:=let⟨K,h⟩:=h;⟨K,fun k hk=>h k k hk hk⟩
theorem Ev.wh(h:Ev p):∃ k,p k:=let⟨K,h⟩:=h;⟨K,h K (ava _)⟩
end
theorem dT{x:Int}(h1:-4611686018427387904≤x)(h2:x≤4611686018427387904):cm x=x:=by unfold cm IntKind.wrap;simp[IntKind.bits,IntKind.signed];omega
theorem agh{n:Nat}(h:n≤4611686018427387904):cm (n:Int)=n:=dT (by omega) (by omega)
theorem ae{n:Nat}(h:n<4611686018427387904):cm ((n:Int)+1)=((n+1:Nat):Int):=by rw[dT (by omega) (by omega)];rfl
section
variable {α:Type}
theorem bj{l:List α}{n:Nat}{x:α}(h:l[n]? = some x):bA l (n:Int)=some x:=by simp[bA,h]
theorem cX{l:List α}{n:Nat}(h:n<l.length):bA l (n:Int)=some l[n]:=bj (by simp[h])
theorem HT{l:List α}{m n:Nat}(h:m≤n)(hn:n≤l.length):sub l (m:Int) (n:Int)=some ((l.take n).drop m):=by simp[sub,h,hn]
theorem pZ{l m:List α}(h:l.length+m.length≤4294967296):lA l m=some (l++m):=by simp[lA,h]
end
end Go.Fx.R5
namespace Go.Fx.R5
open Go Go.Fx
theorem YP(b:UInt8)(n:Nat):((b.toNat:Int)==(n:Int))=(b.toNat==n):=by
 by_cases h:b.toNat=n
 ·simp[h]
 ·have:¬ (b.toNat:Int)=(n:Int):=by omega
  rw[Q6.2 h,Q6.2 this]
theorem Ws(q:Nat):∀ k t a,pw q k t a=jZ q k t a
 |0,_,_=>rfl
 |k+1,t,a=>by simp only[pw,jZ,Ws q k]
theorem Ow(q:Nat):∀ k t a,oA q k t a=kQ q k t a
 |0,_,_=>rfl
 |k+1,t,a=>by simp only[oA,kQ,Ow q k];rfl
theorem Nc(q:Nat):∀ k t a,oB q k t a=iv q k t a
 |0,_,_=>rfl
 |k+1,t,a=>by simp only[oB,iv,Nc q k];rfl
variable {t:ak}
theorem Xb(hl:t.length≤3000):∀ m lB,m+lB = t.length→∃ r:Nat,lB≤r∧r≤t.length∧(∀ b,t[lB]? = some b→b.toNat≠10→lB < r)∧
  ct fun q k=>jZ q k t (lB:Int)=some ((r:Int),())
 |0,lB,h=>by
  refine⟨lB,by omega,by omega,fun b hb=>?_,ct.succ (ct.of fun q k=>?_)⟩
  ·have:=(aja.1 hb).1;omega
  ·have:¬ lB < t.length:=by omega
   simp[jZ,aa,this]
 |m+1,lB,h=>by
  have bq:lB < t.length:=by omega
  by_cases hb:t[lB].toNat=10
  ·refine⟨lB,by omega,by omega,fun b hb'=>?_,ct.succ (ct.of fun q k=>?_)⟩
   ·rw[bga bq] at hb';cases hb';exact fun h=>absurd hb h
   ·simp[jZ,aa,bq,cX bq,hb]
  ·obtain⟨r,h1,h2,_,h3⟩:=Xb hl m (lB + 1) (by omega)
   refine⟨r,by omega,h2,fun _ _ _=>by omega,ct.succ (h3.mono fun q k e=>?_)⟩
   have hb':((t[lB].toNat:Int)==10)=false:=by rw[show(10:Int)=((10:Nat):Int) from rfl,YP];simp[hb]
   simp only[go_sem,jZ,aa,Q3,bq,cX bq,bne,hb',ae (show lB < _ by omega),e]
theorem aaJ(hl:t.length≤3000):∀ m lB,t.length - lB≤m→lB≤t.length→∃ r:Nat,∃ x,lB≤r∧r≤t.length∧(x=.inl ((r:Int),())∨x=.inr ((r:Int),()))∧
  ct fun q k=>iR q k t (lB:Int)=some x∧io q k t (lB:Int)=some x:=by
 intro m;induction m with
 |zero=>
  intro lB hm h;have:¬ lB < t.length:=by omega
  exact⟨lB,.inl ((lB:Int),()),by omega,h,.inl rfl,ct.succ (ct.of fun q k=>by simp[iR,io,this])⟩
 |succ m ih=>
  intro lB hm h;by_cases bq:lB < t.length
  ·have e32:((t[lB].toNat:Int)==32)=(t[lB].toNat==32):=YP _ 32
   have e10:((t[lB].toNat:Int)==10)=(t[lB].toNat==10):=YP _ 10;have e35:((t[lB].toNat:Int)==35)=(t[lB].toNat==35):=YP _ 35;by_cases h1:t[lB].toNat=32∨t[lB].toNat=10
   ·obtain⟨r,x,a1,a2,a3,a4⟩:=ih (lB + 1) (by omega) (by omega)
    refine⟨r,x,by omega,a2,a3,ct.succ (a4.mono fun q k e=>?_)⟩
    simp only[go_sem,iR,io,aa,Q3,bq,cX bq,e32,e10,e35,ae (show lB < _ by omega),e.1,e.2]
    rcases h1 with h1|h1<;>simp[h1]
   ·have g1:(t[lB].toNat==32)=false:=by simp;omega
    have g2:(t[lB].toNat==10)=false:=by simp;omega
    by_cases h2:t[lB].toNat=35
    ·obtain⟨r1,b1,b2,b3,b4⟩:=Xb hl (t.length - lB) lB (by omega)
     have b5:lB < r1:=b3 t[lB] (by simp[bq]) (by omega)
     obtain⟨r,x,a1,a2,a3,a4⟩:=ih r1 (by omega) (by omega)
     obtain⟨K,b4⟩:=b4;refine⟨r,x,by omega,a2,a3,ct.succ ((a4.and (Ev.tZ ⟨K,fun q hq=>b4 q q hq hq⟩)).mono fun q k e=>?_)⟩
     simp only[go_sem,iR,io,aa,Q3,bq,cX bq,e32,e10,e35,g1,g2,show(t[lB].toNat==35)=true by simp[h2],Ws,e.1.1,e.1.2,e.2,bne,aNa]
    ·have g3:(t[lB].toNat==35)=false:=by simp;omega
     refine⟨lB,.inr ((lB:Int),()),by omega,by omega,.inr rfl,ct.succ (ct.of fun q k=>?_)⟩
     simp only[go_sem,iR,io,aa,Q3,bq,cX bq,e32,e10,e35,g1,g2,g3,bne,aNa]
  ·exact⟨lB,.inl ((lB:Int),()),by omega,h,.inl rfl,ct.succ (ct.of fun q k=>by simp[iR,io,bq])⟩
theorem QP(hl:t.length≤3000)(a:Nat)(h:a≤t.length):∃ r:Nat,a≤r∧r≤t.length∧Ev fun k=>oK k t (a:Int)=some ((r:Int),())∧nI k t (a:Int)=some ((r:Int),()):=by obtain⟨r,x,h1,h2,h3,h4⟩:=aaJ hl _ a (ava _) h;refine⟨r,h1,h2,h4.jN.mono fun k e=>?_⟩;simp only[go_sem,oK,nI,e.1,e.2];rcases h3 with h3|h3<;>simp[h3]
def Pq(b:UInt8):Bool:=decide (97≤b.toNat)&&decide (b.toNat≤122)
def FJ(b:UInt8):Bool:=decide (48≤b.toNat)&&decide (b.toNat≤57)
theorem I6(b:UInt8):rJ (b.toNat:Int)=some (Pq b,()):=by
 simp only[rJ,aa,Pq,show decide ((b.toNat:Int)≥97)=decide (97≤b.toNat) from b_a.2 (by omega),show decide ((b.toNat:Int)≤122)=decide (b.toNat≤122) from b_a.2 (by omega)]
 cases decide (97≤b.toNat)<;>simp
theorem IE(b:UInt8):qM (b.toNat:Int)=some (FJ b,()):=by
 simp only[qM,aa,FJ,show decide ((b.toNat:Int)≥48)=decide (48≤b.toNat) from b_a.2 (by omega),show decide ((b.toNat:Int)≤57)=decide (b.toNat≤57) from b_a.2 (by omega)]
 cases decide (48≤b.toNat)<;>simp
theorem Qp(b:UInt8):tj (b.toNat:Int)=some (Pq b,()):=I6 b
theorem Wd(b:UInt8):rq (b.toNat:Int)=some (FJ b,()):=IE b
theorem aaC(hl:t.length≤3000):∀ m lB,m+lB = t.length→∃ r:Nat,lB≤r∧r≤t.length∧(∀ b,t[lB]? = some b→Pq b=true→lB < r)∧ct fun q k=>kQ q k t (lB:Int)=some ((r:Int),())
 |0,lB,h=>by
  refine⟨lB,by omega,by omega,fun b hb=>?_,ct.succ (ct.of fun q k=>?_)⟩
  ·have:=(aja.1 hb).1;omega
  ·have:¬ lB < t.length:=by omega
   simp[kQ,aa,this]
 |m+1,lB,h=>by
  have bq:lB < t.length:=by omega
  by_cases hb:Pq t[lB]=true∨FJ t[lB]=true
  ·obtain⟨r,h1,h2,_,h3⟩:=aaC hl m (lB + 1) (by omega)
   refine⟨r,by omega,h2,fun _ _ _=>by omega,ct.succ (h3.mono fun q k e=>?_)⟩
   simp only[go_sem,kQ,aa,Q3,bq,cX bq,I6,IE,ae (show lB < _ by omega),e]
   rcases hb with hb|hb
   ·simp[hb]
   ·cases Pq t[lB]<;>simp[hb]
  ·refine⟨lB,by omega,by omega,fun b hb'=>?_,ct.succ (ct.of fun q k=>?_)⟩
   ·rw[bga bq] at hb';cases hb';exact fun h=>absurd (.inl h) hb
   ·simp only[cha,bva] at hb
    simp[kQ,aa,bq,cX bq,I6,IE,hb.1,hb.2]
theorem We(hl:t.length≤3000):∀ m lB,m+lB = t.length→∃ r:Nat,lB≤r∧r≤t.length∧(∀ b,t[lB]? = some b→FJ b=true→lB < r)∧((t.take r).drop lB).all FJ=true∧ct fun q k=>iv q k t (lB:Int)=some ((r:Int),())
 |0,lB,h=>by
  refine⟨lB,by omega,by omega,fun b hb=>?_,?_,ct.succ (ct.of fun q k=>?_)⟩
  ·have:=(aja.1 hb).1;omega
  ·simp
  ·have:¬ lB < t.length:=by omega
   simp[iv,aa,this]
 |m+1,lB,h=>by
  have bq:lB < t.length:=by omega
  by_cases hb:FJ t[lB]=true
  ·obtain⟨r,h1,h2,_,h4,h3⟩:=We hl m (lB + 1) (by omega)
   refine⟨r,by omega,h2,fun _ _ _=>by omega,?_,ct.succ (h3.mono fun q k e=>?_)⟩
   ·have:(t.take r).drop lB = t[lB]::(t.take r).drop (lB + 1):=by
     rw[aSa (by simp;omega)];simp
    rw[this];simp only[bma,hb,h4,bwa]
   ·simp only[go_sem,iv,aa,Q3,bq,cX bq,IE,ae (show lB < _ by omega),e,hb]
  ·refine⟨lB,by omega,by omega,fun b hb'=>?_,by simp,ct.succ (ct.of fun q k=>?_)⟩
   ·rw[bga bq] at hb';cases hb';exact fun h=>absurd h hb
   ·simp only[bva] at hb
    simp[iv,aa,bq,cX bq,IE,hb]
end Go.Fx.R5
namespace Go.Fx.R5
open Go Go.Fx
theorem u8w{x:Int}(h1:0≤x)(h2:x<256):IntKind.u8.wrap x=x:=by unfold IntKind.wrap;simp[IntKind.bits,IntKind.signed];omega
def Jx(n:Int)(b:UInt8):Int:=n * 10+((b.toNat:Int) - 48)
theorem Xx{b:UInt8}(h:FJ b=true):48≤b.toNat∧b.toNat≤57:=by simpa[FJ] using h
theorem UJ{s:ak}(hs:s.all FJ=true)(hl:s.length≤10):∀ m i (v:Int),m+i=s.length→0≤v→v<10 ^ i→
  0≤(s.drop i).foldl Jx v∧ct fun q k=>lL q k s v (i:Int)=some ((s.drop i).foldl Jx v,())
 |0,i,v,h,h0,h1=>by
  have:¬ i<s.length:=by omega
  have e:s.drop i=[]:=by simp;omega
  rw[e];exact⟨h0,ct.succ (ct.of fun q k=>by simp[lL,this])⟩
 |m+1,i,v,h,h0,h1=>by
  have bq:i<s.length:=by omega
  have hd:=Xx (apa.1 hs s[i] (aWa bq));have e:s.drop i=s[i]::s.drop (i+1):=aSa bq;have hp:(10:Int) ^ (i+1)≤10 ^ 10:=by
   have:(10:Nat) ^ (i+1)≤10 ^ 10:=Nat.pow_le_pow_right (by omega) (by omega)
   exact_mod_cast this
  have hq:(10:Int) ^ (i+1)=10 ^ i * 10:=Int.pow_succ ..;have b1:0≤Jx v s[i]:=by unfold Jx;omega
  have b2:Jx v s[i]<10 ^ (i+1):=by unfold Jx;omega
  obtain⟨c1,c2⟩:=UJ hs hl m (i+1) (Jx v s[i]) (by omega) b1 b2
  rw[e];refine⟨c1,ct.succ (c2.mono fun q k e=>?_)⟩;have w:cm (cm (v * 10)+cm (IntKind.u8.wrap ((s[i].toNat:Int) - 48)))=Jx v s[i]:=by
   rw[u8w (by omega) (by omega),dT (x:=v * 10) (by omega) (by omega),dT (x:=(s[i].toNat:Int) - 48) (by omega) (by omega),dT (by omega) (by omega)]
   rfl
  simp only[go_sem,lL,Q3,bq,cX bq,w,ae (show i<_ by omega),e,b0a]
theorem Z9{s:ak}(hs:s.all FJ=true)(h0:0<s.length):∃(v:Int) (ok:Bool),o9 s=some (v,ok,())∧(ok=true→0≤v∧v≤2147483647)∧
  Ev fun k=>pk k s=some (if ok=true then v else -1,()):=by
 have hz:s≠[]:=by intro e;rw[e] at h0;simp at h0
 have hd:Td s=true:=hs;have e0:((s.length:Int) > 10)=(10<s.length):=by simp only[bLa,eq_iff_iff];omega
 have e1:((s.length:Int) > 1)=(1<s.length):=by simp only[bLa,eq_iff_iff];omega
 have hi:s.isEmpty=false:=by simp[hz]
 have hx:bA s 0=some s[0]:=cX (n:=0) h0;have hh:s.headD 0=s[0]:=by cases s with|nil=>exact absurd rfl hz|cons a b=>rfl
 have e48:((s[0].toNat:Int)==48)=(s[0]==48):=by
  rw[show(48:Int)=((48:Nat):Int) from rfl,YP]
  by_cases h:s[0]=48
  ·simp[h]
  ·rw[Q6.2 h];simp;exact fun h'=>h (UInt8.toNat_inj.1 h')
 by_cases hl:10<s.length
 ·exact⟨0,false,by simp[o9,hd,hi,hl],by simp,Ev.of fun k=>by simp only[go_sem,pk,aa,e0,hl];rfl⟩
 ·by_cases h48:1<s.length∧s[0]=48
  ·exact⟨0,false,by simp only[o9,hd,hi,hh,h48.1,h48.2];rfl,by simp,Ev.of fun k=>by simp only[go_sem,pk,aa,e0,e1,hl,h48.1,hx,h48.2];rfl⟩
  ·obtain⟨c1,c2⟩:=UJ hs (by omega) s.length 0 0 (by omega) (by omega) (by simp)
   have hb:(decide (1<s.length)&&(s[0]==48))=false:=by
    simp only[Bool.and_eq_false_iff,cka,Q6];by_cases h:1<s.length
    ·exact .inr fun h'=>h48 ⟨h,h'⟩
    ·exact .inl h
   have hv:(s.drop 0).foldl Jx 0=OI s:=rfl;rw[hv] at c1 c2;have sp:∀ k r,(lL k k s 0 0=some (r,()))→pk k s=some (if decide (r > 2147483647) then -1 else r,()):=fun k r e=>by
    simp only[go_sem,pk,aa,e0,e1,hl,hx,e48,e];cases h:decide (1<s.length) with
    |false=>simp only[go_sem];cases decide (r > 2147483647)<;>rfl
    |true=>
     have:(s[0]==48)=false:=by simpa[h] using hb
     rw[this];simp only[go_sem];cases decide (r > 2147483647)<;>rfl
   by_cases hm:2147483647<OI s
   ·refine⟨0,false,?_,by simp,c2.jN.mono fun k e=>?_⟩
    ·simp only[o9,hd,hi,hh,hb];simp[hl,hm]
    ·rw[sp k _ e];simp[hm]
   ·refine⟨OI s,true,?_,fun _=>⟨c1,by omega⟩,c2.jN.mono fun k e=>?_⟩
    ·simp only[o9,hd,hi,hh,hb];simp[hl,hm]
    ·rw[sp k _ e];simp[hm]
def kwL:XS:=[[97,114,114,97,121],[118,97,114],[114,101,102],[102,117,110,99],[105,102],[101,108,115,101],[119,104,105,108,101],[102,111,114],[114,101,97,100],[112,114,105,110,116],[97,115,115,101,114,116],[115,116,111,112],[114,101,116,117,114,110],[97,110,100],[111,114],[110,111,116],[110,117,108,108]]
theorem zO{α:Type}{f:Bool→Option α}{b c:Bool}:(aa f fun jx=>bif b then jx true else jx c)=f (b||c):=by cases b<;>rfl
theorem abI{α:Type}{j:Bool→Option α}{b c:Bool}:(bif b then j b else j c)=j (b||c):=by cases b<;>rfl
theorem aaY(t:ak):zT t=some (kwL.contains t,()):=by simp only[zT,zO,kwL,List.contains_cons,Bool.or_assoc];simp
theorem aev(t:ak):zx t=some (kwL.contains t,()):=by
 simp only[zx,abI,kwL,List.contains_cons];rw[show ∀ b:Bool,(aa (fun v:Bool=>bif v then some (true,()) else some (false,())) fun jx=>jx b)=some (b,()) from fun b=>by cases b<;>rfl]
 simp
def vY(t:ak):ak:=(xo.find? (·.isPrefixOf t)).getD []
def Ox(o:Option ak):Unit⊕(ak×Unit):=match o with|none=>.inl ()|some s=>.inr (s,())
theorem aan(s r:ak):(decide (s.length≤r.length)&&(r.take s.length==s))=s.isPrefixOf r:=by
 have:s.isPrefixOf r=true↔s <+: r:=List.isPrefixOf_iff_prefix;rw[Bool.eq_iff_iff,this,List.prefix_iff_eq_take];simp only[Q4,bKa,bfa];constructor
 ·rintro⟨_,h⟩;exact h.symm
 ·intro h;refine⟨?_,h.symm⟩
  have:=bGa List.length h;simp at this;omega
theorem QO{t:ak}(hl:t.length≤3000){a:Nat}(ha:a≤t.length):∀ m i:Nat,m+i=30→
  ct fun q k=>mT q k t (a:Int) xo (i:Int)=some (Ox ((xo.drop i).find? (·.isPrefixOf (t.drop a))))∧mH q k t (a:Int) xo (i:Int)=some (Ox ((xo.drop i).find? (·.isPrefixOf (t.drop a))))
 |0,i,h=>by
  have e:xo.drop i=[]:=by rw[show i=30 by omega];rfl
  have h1:¬ i<xo.length:=by rw[show i=30 by omega];decide
  have h2:¬ (i:Int)<30:=by omega
  rw[e];exact ct.succ (ct.of fun q k=>by simp[mT,mH,h1,h2,Ox])
 |m+1,i,h=>by
  have bq:i<xo.length:=by show i<30;omega
  have h2:(i:Int)<30:=by omega
  have e:xo.drop i=xo[i]::xo.drop (i+1):=aSa bq;have ih:=QO hl ha m (i+1) (by omega)
  have es:sub t (a:Int) (t.length:Int)=some (t.drop a):=by rw[HT ha (ava _),List.take_length]
  have ew:cm ((t.length:Int) - a)=((t.drop a).length:Int):=by rw[dT (by omega) (by omega)];simp;omega
  rw[e,List.find?_cons];have hp:=aan xo[i] (t.drop a);refine ct.succ (ih.mono fun q k e=>?_);simp only[go_sem,mT,mH,aa,Q3,bq,h2,cX bq,es,Hl,ew,ae (show i<_ by omega),e.1,e.2,Int.ofNat_le]
  by_cases hc:xo[i].length≤(t.drop a).length
  ·have hc':a+xo[i].length≤t.length:=by simp at hc;omega
   have e3:sub t (a:Int) (cm ((a:Int)+(xo[i].length:Int)))=some ((t.drop a).take xo[i].length):=by
    rw[dT (by omega) (by omega),show(a:Int)+(xo[i].length:Int)=((a+xo[i].length:Nat):Int) from rfl,HT (by omega) hc']
    rw[List.drop_take];congr 2;omega
   simp only[go_sem,hc,e3];rw[show(List.take xo[i].length (List.drop a t)==xo[i])=xo[i].isPrefixOf (t.drop a) by rw[←hp,decide_eq_true hc,Bool.true_and]]
   cases xo[i].isPrefixOf (t.drop a)<;>simp[Ox]
  ·have:xo[i].isPrefixOf (t.drop a)=false:=by rw[←hp];simp;intro h;simp at hc;omega
   simp only[go_sem,hc,this,aNa]
theorem Yk{t:ak}(hl:t.length≤3000){a:Nat}(ha:a<t.length):
  Ev fun k=>zS k t (a:Int)=some (vY (t.drop a),())∧zw k t (a:Int)=some (vY (t.drop a),()):=by
 refine(QO hl (Nat.le_of_lt ha) 30 0 rfl).jN.mono fun k e=>?_;have h0:¬ (a:Int)<0:=by omega
 have h1:¬ (a:Int)≥t.length:=by omega
 have e1:mT k k t (a:Int) xo 0=some (Ox (xo.find? (·.isPrefixOf (t.drop a)))):=e.1
 have e2:mH k k t (a:Int) xo 0=some (Ox (xo.find? (·.isPrefixOf (t.drop a)))):=e.2
 have e3:Cs=some (xo,()):=rfl;simp only[go_sem,zS,zw,aa,h0,h1,e3,e1,e2,vY];cases xo.find? (·.isPrefixOf (t.drop a))<;>simp[Ox]
theorem aaI{t:ak}(h:vY t≠[]):vY t∈xo∧vY t <+: t:=by
 unfold vY at h ⊢;cases hf:xo.find? (·.isPrefixOf t) with
 |none=>simp[hf] at h
 |some s=>have h2:s.isPrefixOf t=true:=cua (p:=fun x:ak=>x.isPrefixOf t) hf;exact⟨bVa hf,List.isPrefixOf_iff_prefix.1 h2⟩
end Go.Fx.R5
namespace Go.Fx.R5
open Go Go.Fx
abbrev zn:=Int×Int×ak×Int
structure MF(x:zn):Prop where
 k:(x.1=1∧kwL.contains x.2.2.1=false∧xo.contains x.2.2.1=false∧x.2.2.1≠[])∨(x.1=2∧kwL.contains x.2.2.1=false∧xo.contains x.2.2.1=false)∨
  (x.1=3∧kwL.contains x.2.2.1=true∧xo.contains x.2.2.1=false)∨(x.1=4∧xo.contains x.2.2.1=true∧kwL.contains x.2.2.1=false)
 num:0≤x.2.2.2∧x.2.2.2≤2147483647
 lB:0≤x.2.1∧x.2.1≤3000
theorem ab1:∀ s∈xo,(s.head?.map fun c=>Pq c||FJ c)=some false:=by decide +kernel
theorem age:∀ s∈kwL,(s.head?.map Pq)=some true:=by decide +kernel
theorem adS:∀ s∈kwL,(s.head?.map FJ)=some false:=by decide +kernel
theorem aej:∀ s∈xo,0<s.length∧s.length≤2:=by decide +kernel
theorem afN:∀ s∈xo,kwL.contains s=false:=by decide +kernel
theorem Z7{s:ak}{c:UInt8}(h:s.head? = some c)(hc:Pq c=true∨FJ c=true):xo.contains s=false:=by
 cases h':xo.contains s with
 |false=>rfl
 |true=>
  have:=ab1 s (by simpa using h')
  rw[h] at this;simp only[bBa,OF,aEa] at this;rcases hc with hc|hc
  ·rw[this.1] at hc;cases hc
  ·rw[this.2] at hc;cases hc
theorem ad5{s:ak}{c:UInt8}(h:s.head? = some c)(hc:FJ c=true):kwL.contains s=false:=by
 cases h':kwL.contains s with
 |false=>rfl
 |true=>
  have:=adS s (by simpa using h')
  rw[h] at this;simp only[bBa,OF] at this;rw[this] at hc;cases hc
theorem Ta{t:ak}{a r:Nat}(h:a<r)(hr:r≤t.length):((t.take r).drop a).head? = t[a]?:=by rw[List.head?_drop,bza h]
theorem Mb{t:ak}{a r:Nat}(hr:r≤t.length):((t.take r).drop a).length=r - a:=by simp;omega
theorem PU{t:ak}{a r:Nat}(h:t.length≤3000):BY ((t.take r).drop a)=some ((t.take r).drop a,()):=by unfold BY;rw[show decide (((t.take r).drop a).length≤281474976710656)=true by simp;omega];rfl
theorem VU{t:ak}(hl:t.length≤3000){a:Nat}(ha:a<t.length):∃(x y:zn) (e:Nat) (c:Int),
  (Ev fun k=>n8 k t (a:Int)=some (x,(e:Int),c,())∧jJ k t (a:Int)=some (y,c,()))∧
  (c=0→x=y∧e=a+y.2.2.1.length∧a<e∧e≤t.length∧MF y):=by
 have hx:bA t (a:Int)=some t[a]:=cX ha;have hg:t[a]? = some t[a]:=by simp[ha]
 cases bq:Pq t[a] with
 |true=>
  obtain⟨r,h1,h2,h3,h4⟩:=aaC hl (t.length - a) a (by omega)
  have h5:a<r:=h3 _ hg bq;have es:sub t (a:Int) (r:Int)=some ((t.take r).drop a):=HT h1 h2;have jI:(((t.take r).drop a).length:Int)=(r:Int) - a:=by rw[Mb h2];omega
  have hh:((t.take r).drop a).head? = some t[a]:=by rw[Ta h5 h2,hg]
  have h4:=h4.jN;by_cases h8:(r:Int) - a > 8
  ·refine⟨(if kwL.contains ((t.take r).drop a) then 3 else 1,a,(t.take r).drop a,0),(0,0,[],0),r,3,h4.mono fun k e=>?_,fun h=>by cases h⟩
   simp only[go_sem,n8,jJ,Cr,hx,I6,Qp,bq,Ow,e,es,jI,h8,dT (x:=(r:Int) - a) (by omega) (by omega),aaY,aa]
   cases kwL.contains ((t.take r).drop a)<;>simp
  ·refine⟨(if kwL.contains ((t.take r).drop a) then 3 else 1,a,(t.take r).drop a,0),(if kwL.contains ((t.take r).drop a) then 3 else 1,a,(t.take r).drop a,0),r,0,h4.mono fun k e=>?_,fun _=>⟨rfl,?_,h5,h2,?_,by simp,by simp;omega⟩⟩
   ·simp only[go_sem,n8,jJ,Cr,hx,I6,Qp,bq,Ow,e,es,jI,h8,dT (x:=(r:Int) - a) (by omega) (by omega),aaY,aev,aa,PU hl]
    cases kwL.contains ((t.take r).drop a)<;>simp
   ·simp only[Mb h2];omega
   ·have hs:=Z7 hh (.inl bq)
    cases hk:kwL.contains ((t.take r).drop a) with
    |true=>exact .inr (.inr (.inl ⟨by simp,rfl,hs⟩))
    |false=>exact .inl ⟨by simp,rfl,hs,fun e=>by have e:(t.take r).drop a=[]:=e;rw[e] at hh;cases hh⟩
 |false=>
  cases hdg:FJ t[a] with
  |true=>
   obtain⟨r,h1,h2,h3,h6,h4⟩:=We hl (t.length - a) a (by omega)
   have h5:a<r:=h3 _ hg hdg;have es:sub t (a:Int) (r:Int)=some ((t.take r).drop a):=HT h1 h2;have hh:((t.take r).drop a).head? = some t[a]:=by rw[Ta h5 h2,hg]
   obtain⟨v,ok,g1,g2,g3⟩:=Z9 h6 (by rw[Mb h2];omega)
   have h4:=h4.jN;cases ok with
   |false=>
    refine⟨(2,a,(t.take r).drop a,-1),(0,0,[],0),r,4,(h4.and g3).mono fun k e=>?_,fun h=>by cases h⟩
    simp only[go_sem,n8,jJ,uX,hx,I6,Qp,bq,Nc,e.1,e.2,es,IE,Wd,hdg,g1];simp
   |true=>
    have gv:=g2 rfl;refine⟨(2,a,(t.take r).drop a,v),(2,a,(t.take r).drop a,v),r,0,(h4.and g3).mono fun k e=>?_,fun _=>⟨rfl,?_,h5,h2,.inr (.inl ⟨rfl,ad5 hh hdg,Z7 hh (.inr hdg)⟩),gv,by simp;omega⟩⟩
    ·have:¬ v<0:=by omega
     simp only[go_sem,n8,jJ,uX,hx,I6,Qp,bq,Nc,e.1,e.2,es,IE,Wd,hdg,g1,PU hl];simp[this]
    ·simp only[Mb h2];omega
  |false=>
   have hs:=Yk hl ha;by_cases hz:vY (t.drop a)=[]
   ·refine⟨(4,a,[],0),(0,0,[],0),a,2,hs.mono fun k e=>?_,fun h=>by cases h⟩
    simp only[go_sem,n8,jJ,hx,I6,Qp,bq,IE,Wd,hdg,e.1,e.2,hz];simp
   ·obtain⟨m1,m2⟩:=aaI hz
    have B4:=m2.length_le;have h2:=aej _ m1;refine⟨(4,a,vY (t.drop a),0),(4,a,vY (t.drop a),0),a+(vY (t.drop a)).length,0,hs.mono fun k e=>?_,fun _=>⟨rfl,rfl,by omega,by simp at B4;omega,.inr (.inr (.inr ⟨rfl,by simpa using m1,afN _ m1⟩)),by simp,by simp;omega⟩⟩
    have:(vY (t.drop a)==[])=false:=by simpa using hz
    simp only[go_sem,n8,jJ,hx,I6,Qp,bq,IE,Wd,hdg,e.1,e.2,this];rw[dT (by omega) (by omega)]
    simp
theorem ZR{t:ak}(hl:t.length≤3000):∀ m (a:Nat) (out:List zn),t.length - a≤m→a≤t.length→out.length≤700→(∀ x∈out,MF x)→
  (∃ PD:List zn,PD.length≤700∧(∀ x∈PD,MF x)∧ct fun q k=>eO q k t 0 0 [] out (a:Int)=some (.inl (0,0,PD,()))∧eM q k t 0 0 out (a:Int)=some (.inl (0,0,PD,())))∨
  ∃(c:Int) (a':Int),c≠0∧ct fun q k=>eO q k t 0 0 [] out (a:Int)=some (.inr (c,a',[],()))∧eM q k t 0 0 out (a:Int)=some (.inr (c,a',())):=by
 intro m;induction m with
 |zero=>
  intro a out hm ha ho hok;have:¬ a<t.length:=by omega
  exact .inl ⟨out,ho,hok,ct.succ (ct.of fun q k=>by simp[eO,eM,this])⟩
 |succ m ih=>
  intro a out hm ha ho hok;by_cases bq:a<t.length
  ·obtain⟨x,y,e,c,h1,h2⟩:=VU hl bq
   by_cases hc:c=0
   ·subst hc
    obtain⟨rfl,he,h3,h4,h5⟩:=h2 rfl;by_cases h7:out.length=700
    ·refine .inr ⟨5,a,by omega,ct.succ (h1.tZ.mono fun q k e=>?_)⟩
     simp only[go_sem,eO,eM,Q3,bq,e.1,e.2,aa];simp[h7]
    ·obtain⟨r,g1,g2,g3⟩:=QP hl e h4
     have e7:((out.length:Int)==700)=false:=by simp;omega
     have e8:¬ (out.length:Int)≥700:=by omega
     have ea:lA out [x]=some (out++[x]):=pZ (by simp;omega)
     have ew:cm ((a:Int)+(x.2.2.1.length:Int))=(e:Int):=by rw[he,dT (by omega) (by omega)];simp
     have Av:∀{q k:Nat} {s1 s2},(n8 q t (a:Int)=some (x,(e:Int),0,())∧jJ q t (a:Int)=some (x,0,()))→(oK q t (e:Int)=some ((r:Int),())∧nI q t (e:Int)=some ((r:Int),()))→
       (eO q k t 0 0 [] (out++[x]) (r:Int)=s1∧eM q k t 0 0 (out++[x]) (r:Int)=s2)→
       eO q (k+1) t 0 0 [] out (a:Int)=s1∧eM q (k+1) t 0 0 out (a:Int)=s2:=by
      intro q k s1 s2 i1 i2 i3;simp only[go_sem,eO,eM,Q3,bq,i1.1,i1.2,aa,e7,e8,ea,ew,i2.1,i2.2,i3.1,i3.2];simp
     have agM:∀ z∈out++[x],MF z:=by
      intro z hz;rcases ala.1 hz with hz|hz
      ·exact hok z hz
      ·rw[Q7.1 hz];exact h5
     rcases ih r (out++[x]) (by omega) (by omega) (by simp;omega) agM with ⟨PD,o1,o2,o3⟩|⟨c,a',o1,o2⟩
     ·exact .inl ⟨PD,o1,o2,ct.succ (((h1.tZ.and g3.tZ).and o3).mono fun q k e=>Av e.1.1 e.1.2 e.2)⟩
     ·exact .inr ⟨c,a',o1,ct.succ (((h1.tZ.and g3.tZ).and o2).mono fun q k e=>Av e.1.1 e.1.2 e.2)⟩
   ·refine .inr ⟨c,a,hc,ct.succ (h1.tZ.mono fun q k e=>?_)⟩
    have Mg:(c==0)=false:=by simpa using hc
    simp only[go_sem,eO,eM,Q3,bq,e.1,e.2,aa,bne,Mg];simp
  ·exact .inl ⟨out,ho,hok,ct.succ (ct.of fun q k=>by simp[eO,eM,bq])⟩
theorem ZQ(t:ak):(∃ ts:List zn,t.length≤3000∧ts.length≤700∧(∀ x∈ts,MF x)∧Ev fun k=>mS k t=some (ts,(0,0),())∧mG k t=some (ts,(0,0),()))∨
  ∃(c:Int) (a:Int),c≠0∧Ev fun k=>mS k t=some ([],(c,a),())∧mG k t=some ([],(c,a),()):=by
 by_cases hl:t.length≤3000
 ·have h0:¬ (t.length:Int) > 3000:=by omega
  obtain⟨r,g1,g2,g3⟩:=QP hl 0 (by omega)
  rcases ZR hl _ r [] (ava _) g2 (by simp) (by simp) with ⟨o,o1,o2,o3⟩|⟨c,a,o1,o3⟩
  ·refine .inl ⟨o,hl,o1,o2,(g3.and o3.jN).mono fun k e=>?_⟩
   have e1:oK k t 0=some ((r:Int),()):=e.1.1;have e2:nI k t 0=some ((r:Int),()):=e.1.2;simp only[go_sem,mS,mG,h0,e1,e2,e.2.1,e.2.2,aNa]
  ·refine .inr ⟨c,a,o1,(g3.and o3.jN).mono fun k e=>?_⟩
   have e1:oK k t 0=some ((r:Int),()):=e.1.1;have e2:nI k t 0=some ((r:Int),()):=e.1.2;simp only[go_sem,mS,mG,h0,e1,e2,e.2.1,e.2.2,aNa]
 ·have h0:(t.length:Int) > 3000:=by omega
  exact .inr ⟨1,0,by omega,Ev.of fun k=>by simp[mS,mG,h0]⟩
end Go.Fx.R5
namespace Go.Fx.R5
open Go Go.Fx
abbrev ey:=Int×Int×Int×ak×XI
def be(ts:List zn)(a:Nat)(w:ak):Bool:=match ts[a]? with|some x=>x.2.2.1==w|none=>false
def tr(ts:List zn)(a:Nat)(k:Int):Bool:=match ts[a]? with|some x=>x.1==k|none=>false
def pl(ts:List zn)(en:Int)(a:Nat):Int:=match ts[a]? with|some x=>x.2.1|none=>en
def tk(ts:List zn)(a:Nat):zn:=(ts[a]?).getD (0,0,[],0)
def sg(ts:List zn)(a:Nat):ak:=bif tr ts a 4 then(tk ts a).2.2.1 else []
structure oT(ts:List zn):Prop where
 len:ts.length≤700
 ok:∀ x∈ts,MF x
def isW(w:ak):Bool:=kwL.contains w||xo.contains w
section
variable {ts:List zn} {a:Nat} {w:ak} {en:Int} {k:Int} {d:Nat} {ns:List ey} {c p:Int}
theorem bz(h:be ts a w=true):a<ts.length:=by
 unfold be at h;cases hx:ts[a]? with
 |none=>simp[hx] at h
 |some x=>exact(aja.1 hx).1
theorem jE(h:tr ts a k=true):a<ts.length:=by
 unfold tr at h;cases hx:ts[a]? with
 |none=>simp[hx] at h
 |some x=>exact(aja.1 hx).1
theorem il(h:a<ts.length):ts[a]? = some (tk ts a):=by simp[tk,h]
theorem QX(hs:oT ts)(h:a<ts.length):MF (tk ts a):=hs.ok _ (aZa (il h))
theorem Kp(h:tr ts a k=true):(tk ts a).1=k:=by have:=jE h;simp only[tr,il this,bfa] at h;exact h
theorem W8(h:be ts a w=true):(tk ts a).2.2.1=w:=by have:=bz h;simp only[be,il this,bfa] at h;exact h
theorem vD(h:¬ a<ts.length):ts[a]? = none:=by simp;omega
theorem Ur(hs:oT ts)(hw:isW w=true)(hk:k=1∨k=2)(h:be ts a w=true):tr ts a k=false:=by
 cases hi:tr ts a k with
 |false=>rfl
 |true=>
  have h1:=bz h;have h2:=(QX hs h1).k;rw[Kp hi,W8 h] at h2;simp only[isW,a3a] at hw;rcases h2 with ⟨e,f,g,_⟩|⟨e,f,g⟩|⟨e,_⟩|⟨e,_⟩
  ·rw[f,g] at hw;simp at hw
  ·rw[f,g] at hw;simp at hw
  ·omega
  ·omega
theorem afw(hs:oT ts)(hw:isW w=true)(hk:k=1∨k=2)(h:tr ts a k=true):be ts a w=false:=by
 cases hi:be ts a w with
 |false=>rfl
 |true=>rw[Ur hs hw hk hi] at h;cases h
theorem agc(h:tr ts a 1=true):tr ts a 2=false:=by have h1:=jE h;have:=Kp h;simp only[tr,il h1];rw[this];rfl
theorem agd(h:tr ts a 2=true):tr ts a 1=false:=by have h1:=jE h;have:=Kp h;simp only[tr,il h1];rw[this];rfl
theorem bc{w':ak}(h:be ts a w=true)(hw:(w==w')=false):be ts a w' = false:=by have h1:=bz h;have:=W8 h;simp only[be,il h1];rw[this];exact hw
theorem sj(hl:a≤4000000000000000000):eI ts (a:Int) 0 w=some (be ts a w,()):=by
 have:cm ((a:Int)+0)=(a:Int):=by rw[dT (by omega) (by omega)];simp
 simp only[eI,this,aa,Q3];by_cases h:a<ts.length
 ·simp only[go_sem,h,bj (il h),be,il h]
 ·simp only[go_sem,h,be,vD h]
theorem zv(hl:a≤4000000000000000000):eI ts (a:Int) 1 w=some (be ts (a+1) w,()):=by
 have:cm ((a:Int)+1)=((a+1:Nat):Int):=ae (by omega)
 simp only[eI,this,aa,Q3];by_cases h:a+1<ts.length
 ·simp only[go_sem,h,bj (il h),be,il h]
 ·simp only[go_sem,h,be,vD h]
theorem aG(hl:a≤4000000000000000000):aE ts (a:Int) w=some (be ts a w,((if be ts a w=true then a+1 else a:Nat):Int),()):=by
 simp only[go_sem,aE,sj hl,ae (show a<_ by omega)]
 cases be ts a w<;>simp
theorem bw:dc ts en (a:Int)=some (pl ts en a,()):=by
 simp only[dc,Q3];by_cases h:a<ts.length
 ·simp only[go_sem,h,bj (il h),pl,il h]
 ·simp only[go_sem,h,pl,vD h]
theorem Aj:gJ ts en (a:Int) c=some (c,pl ts en a,()):=by simp only[go_sem,gJ,bw]
theorem gw:ig ts (a:Int) k=some (tr ts a k,()):=by
 simp only[ig,aa,Q3];by_cases h:a<ts.length
 ·simp only[go_sem,h,bj (il h),tr,il h]
 ·simp only[go_sem,h,tr,vD h]
theorem cT(hl:a≤4000000000000000000):de ts en (a:Int) k=some (if tr ts a k=true then .inl (tk ts a,((a+1:Nat):Int),()) else .inr (6,pl ts en a,())):=by
 have e:cm (cm ((a:Int)+1) - 1)=(a:Int):=by rw[dT (x:=(a:Int)+1) (by omega) (by omega),dT (by omega) (by omega)];omega
 simp only[go_sem,de,gw,Aj,e];simp only[ae (show a<_ by omega)]
 cases h:tr ts a k with
 |true=>simp[bj (il (jE h))]
 |false=>simp
theorem bC(hl:a≤4000000000000000000):aY ts en (a:Int) w=some (if be ts a w=true then .inl (((a+1:Nat):Int),()) else .inr (6,pl ts en a,())):=by
 simp only[go_sem,aY,aG hl];cases h:be ts a w with
 |true=>simp
 |false=>simp[Aj]
theorem L8(h:ns.length≤4000000)(n:ey):lA ns [n]=some (ns++[n])∧cm (((ns++[n]).length:Int) - 1)=(ns.length:Int):=
 ⟨pZ (by simp;omega),by rw[ata,b6a,dT (by omega) (by omega)];omega⟩
theorem gX(h:ns.length≤4000000)(n:ey):bE ns n=some ((ns.length:Int),ns++[n],()):=by simp only[go_sem,bE,(L8 h n).1,(L8 h n).2]
theorem jD(hl:a≤4000000000000000000)(h:ns.length≤4000000):eN ts en (a:Int) ns k =
  some (if tr ts a 1=true then .inl ((ns.length:Int),((a+1:Nat):Int),ns++[(k,(tk ts a).2.1,0,(tk ts a).2.2.1,[])],()) else .inr (6,pl ts en a,())):=by
 simp only[go_sem,eN,cT hl];cases tr ts a 1 with
 |true=>simp[gX h]
 |false=>simp
theorem gC(hd:d≤10):fD ts en (a:Int) (d:Int)=some (if d<10 then .inl (((d+1:Nat):Int),()) else .inr (7,pl ts en a,())):=by
 simp only[go_sem,fD,ae (show d<_ by omega),Aj]
 by_cases h2:d<10
 ·have:¬ ((d+1:Nat):Int) > 10:=by omega
  simp only[go_sem,this,h2,aua]
 ·have:((d+1:Nat):Int) > 10:=by omega
  simp only[go_sem,this,h2,aca]
theorem gB(hs:oT ts)(hw:isW w=true):fo ts (a:Int) 0 w=some (be ts a w,()):=by
 simp only[go_sem,fo,aa,Q3];by_cases h:a<ts.length
 ·simp only[go_sem,h,bj (il h),be,il h]
  cases hx:((tk ts a).2.2.1==w) with
  |false=>rfl
  |true=>
   have h2:=(QX hs h).k;rw[bfa.1 hx] at h2;simp only[isW,a3a] at hw;have:(tk ts a).1≥3:=by
    rcases h2 with ⟨e,f,g,_⟩|⟨e,f,g⟩|⟨e,_⟩|⟨e,_⟩
    ·rw[f,g] at hw;simp at hw
    ·rw[f,g] at hw;simp at hw
    ·omega
    ·omega
   simp[this]
 ·simp only[go_sem,h,be,vD h]
theorem af(hs:oT ts)(hw:isW w=true)(hl:a≤4000000000000000000):bW ts (a:Int) 0 w=some (be ts a w,((if be ts a w=true then a+1 else a:Nat):Int),()):=by
 simp only[go_sem,bW,gB hs hw,ae (show a<_ by omega)]
 cases be ts a w<;>simp
theorem dM:da ts (a:Int) en=some (pl ts en a,()):=bw
theorem fR:iU ts (a:Int) 0 k=some (tr ts a k,()):=by
 simp only[go_sem,iU,aa,Q3];by_cases h:a<ts.length
 ·simp only[go_sem,h,bj (il h),tr,il h]
 ·simp only[go_sem,h,tr,vD h]
theorem KJ:iT ts (a:Int) en 0 0 c=some (c,pl ts en a,()):=by simp only[go_sem,iT,dM]
theorem df(hl:a≤4000000000000000000):dC ts (a:Int) en 0 0=some (if tr ts a 1=true then((tk ts a).2.2.1,((a+1:Nat):Int),0,0,()) else([],(a:Int),6,pl ts en a,())):=by
 have e:cm (cm ((a:Int)+1) - 1)=(a:Int):=by rw[dT (x:=(a:Int)+1) (by omega) (by omega),dT (by omega) (by omega)];omega
 simp only[go_sem,dC,fR,KJ,e];simp only[ae (show a<_ by omega)]
 cases h:tr ts a 1 with
 |true=>simp[bj (il (jE h))]
 |false=>simp
theorem EF(hl:a≤4000000000000000000):lQ ts (a:Int) en 0 0=some (if tr ts a 2=true then((tk ts a).2.2.2,((a+1:Nat):Int),0,0,()) else(0,(a:Int),6,pl ts en a,())):=by
 have e:cm (cm ((a:Int)+1) - 1)=(a:Int):=by rw[dT (x:=(a:Int)+1) (by omega) (by omega),dT (by omega) (by omega)];omega
 simp only[go_sem,lQ,fR,KJ,e];simp only[ae (show a<_ by omega)]
 cases h:tr ts a 2 with
 |true=>simp[bj (il (jE h))]
 |false=>simp
theorem aI(hs:oT ts)(hw:isW w=true)(hl:a≤4000000000000000000):aK ts (a:Int) en 0 0 w=some (if be ts a w=true then(((a+1:Nat):Int),0,0,()) else((a:Int),6,pl ts en a,())):=by
 simp only[go_sem,aK,af hs hw hl];cases h:be ts a w with
 |true=>simp
 |false=>simp[KJ]
theorem fj(h:ns.length≤4000000)(n:ey):aR ns 0 n=some ((ns.length:Int),ns++[n],()):=by simp only[go_sem,aR,(L8 h n).1,(L8 h n).2]
theorem lJ(hd:d≤10):ip ts (a:Int) en (d:Int) 0 0=some (if d<10 then(true,((d+1:Nat):Int),0,0,()) else(false,((d+1:Nat):Int),7,pl ts en a,())):=by
 simp only[ip,aa,ae (show d<_ by omega),KJ,bOa]
 by_cases h2:d<10
 ·have:¬ ((d+1:Nat):Int) > 10:=by omega
  simp only[this,cea,ana,h2,aua];rfl
 ·have:((d+1:Nat):Int) > 10:=by omega
  simp only[this,cDa,Q9,h2,aca];rfl
theorem HK:mq ts (a:Int) 0=some (sg ts a,()):=by
 simp only[go_sem,mq,fR,sg];cases h:tr ts a 4 with
 |true=>simp[bj (il (jE h))]
 |false=>simp
theorem Lb(hl:a≤4000000000000000000)(h:ns.length≤4000000)(hk:tr ts a 1=true):nQ ts (a:Int) en ns 0 0=some ((ns.length:Int),((a+1:Nat):Int),ns++[(23,pl ts en a,0,(tk ts a).2.2.1,[])],0,0,()):=by simp only[go_sem,nQ,dM,df hl,hk,aua,fj h]
theorem EE(hs:oT ts)(hw:xo.contains w=true)(hl:a≤4000000000000000000):uY ts (a:Int) w=some (be ts (a+1) w,()):=by
 simp only[uY,aa,ae (show a<_ by omega),Q3]
 by_cases h:a+1<ts.length
 ·simp only[go_sem,h,bj (il h),be,il h]
  cases hx:((tk ts (a+1)).2.2.1==w) with
  |false=>rfl
  |true=>
   have h2:=(QX hs h).k;rw[bfa.1 hx] at h2;have:(tk ts (a+1)).1=4:=by
    rcases h2 with ⟨e,f,g,_⟩|⟨e,f,g⟩|⟨e,_,g⟩|⟨e,_⟩
    ·rw[g] at hw;cases hw
    ·rw[g] at hw;cases hw
    ·rw[g] at hw;cases hw
    ·exact e
   simp[this]
 ·simp only[go_sem,h,be,vD h]
variable (hc:c≠0)
include hc
theorem Nj:fo ts (a:Int) c w=some (false,()):=by simp[fo,aa,Q6.2 hc]
theorem Ab:bW ts (a:Int) c w=some (false,(a:Int),()):=by simp[bW,Nj hc]
theorem Nk:iU ts (a:Int) c k=some (false,()):=by simp[iU,aa,Q6.2 hc]
theorem J9{c':Int}:iT ts (a:Int) en c p c' = some (c,p,()):=by simp[iT,Q6.2 hc]
theorem Nl:dC ts (a:Int) en c p=some ([],(a:Int),c,p,()):=by simp[dC,Nk hc,J9 hc]
theorem Tn:lQ ts (a:Int) en c p=some (0,(a:Int),c,p,()):=by simp[lQ,Nk hc,J9 hc]
theorem fB:aK ts (a:Int) en c p w=some ((a:Int),c,p,()):=by simp[aK,Ab hc,J9 hc]
theorem cf(n:ey):aR ns c n=some (0,ns,()):=by simp[aR,bne,Q6.2 hc]
theorem G8{d:Int}:ip ts (a:Int) en d c p=some (false,cm (d+1),c,p,()):=by
 have:(c==0)=false:=by simpa using hc
 simp only[go_sem,ip,aa,J9 hc,this];cases decide (cm (d+1) > 10)<;>rfl
theorem Y6:mq ts (a:Int) c=some ([],()):=by simp[mq,Nk hc]
theorem aeO:nQ ts (a:Int) en ns c p=some (0,(a:Int),ns,c,p,()):=by simp[nQ,dM,Nl hc,cf hc]
end
end Go.Fx.R5
namespace Go.Fx.R5
open Go Go.Fx
def kd(ns:List ey)(j:Int):Int:=match ns[j.toNat]? with|some x=>x.1|none=>0
def Bc(k:Int):Bool:=k==24||k==25||k==26||k==27||k==28
def sV(k:Int):Bool:=k==30||k==31||k==32||k==33||k==34
def Po(k:Int):Bool:=decide (9≤k)&&decide (k≤22)
def vT(k:Int):Bool:=k==5||k==6||k==7
def FQ(k:Int):Bool:=k==2||k==3||k==4
def ce(k:Int)(l:XI):Bool:=
 if k=24∨k=25∨k=27∨k=29∨k=23∨k=34∨k=17∨k=20∨k=2∨k=3∨k=5∨k=6∨k=7 then l.isEmpty
 else if k=26∨k=11∨k=13∨k=18∨k=21 then(match l with|[a]=>Bc a|_=>false)
 else if k=9 then(match l with|[a]=>Bc a||a==29|_=>false)
 else if k=28∨k=30∨k=10 then(match l with|[a,b]=>Bc a&&Bc b|_=>false)
 else if k=12 then(match l with|[a,b]=>a==23&&Bc b|_=>false)
 else if k=22 then(match l with|a::r=>a==23&&r.all Bc|_=>false)
 else if k=31∨k=32 then(match l with|[a,b]=>sV a&&sV b|_=>false)
 else if k=33∨k=19 then(match l with|[a]=>sV a|_=>false)
 else if k=14 then(match l with|[a,b]=>sV a&&b==8|[a,b,c]=>sV a&&b==8&&c==8|_=>false)
 else if k=15 then(match l with|[a,b]=>sV a&&b==8|_=>false)
 else if k=16 then(match l with|[a,b,c]=>Bc a&&Bc b&&c==8|_=>false)
 else if k=8 then l.all Po
 else if k=4 then l.dropLast.all vT&&l.getLast?==some 8
 else if k=1 then l.all FQ
 else false
structure nU(ns:List ey)(i:Nat)(x:ey):Prop where
 cE:∀ j∈x.2.2.2.2,0≤j∧j<(i:Int)
 shp:ce x.1 (x.2.2.2.2.map (kd ns))=true
 nm:(x.1=4→x.2.2.2.1≠[])∧x.2.2.2.2.length≤5000
def jl(ns:List ey):Prop:=∀ i x,ns[i]? = some x→nU ns i x
theorem qc{ns eg:List ey}(h:ns <+: eg){j:Int}(h0:0≤j)(h1:j<ns.length):kd eg j=kd ns j:=by
 obtain⟨r,rfl⟩:=h;have:j.toNat<ns.length:=by omega
 simp only[kd,aRa this]
theorem qD{ns:List ey}{x:ey}:kd (ns++[x]) (ns.length:Int)=x.1:=by simp[kd]
theorem nU.up{ns eg:List ey}{i:Nat}{x:ey}(h:nU ns i x)(hp:ns <+: eg)(hi:i≤ns.length):nU eg i x:=by
 refine⟨h.cE,?_,h.nm⟩;rw[show x.2.2.2.2.map (kd eg)=x.2.2.2.2.map (kd ns) from bYa fun j hj=>by
  have:=h.cE j hj;exact qc hp this.1 (by omega)]
 exact h.shp
theorem jl.add{ns:List ey}{x:ey}(h:jl ns)(hx:nU ns ns.length x):jl (ns++[x]):=by
 intro i y hy;by_cases hi:i<ns.length
 ·rw[aRa hi] at hy
  exact(h i y hy).up ⟨[x],rfl⟩ (by omega)
 ·rw[aPa (by omega)] at hy
  have:i - ns.length=0:=by have:=(aja.1 hy).1;simp at this;omega
  rw[this] at hy;simp only[bba,OF] at hy;subst hy;have hi:i=ns.length:=by omega
  subst hi;exact hx.up ⟨[x],rfl⟩ (by omega)
theorem jl.nil:jl []:=fun i x h=>by simp at h
def wts(ns:List ey):List Nat:=ns.foldl (fun ws x=>ws++[1+(x.2.2.2.2.map fun j=>ws.getD j.toNat 0).sum]) []
def wt(ns:List ey)(j:Int):Nat:=(wts ns).getD j.toNat 0
def jz(ns:List ey)(l:XI):Nat:=(l.map (wt ns)).sum
theorem Sx(ns:List ey)(x:ey):wts (ns++[x])=wts ns++[1+jz ns x.2.2.2.2]:=by simp only[wts,List.foldl_append,b0a,List.foldl_nil];rfl
theorem Sy(ns:List ey):(wts ns).length=ns.length:=by
 have key:∀(n:Nat) (ns:List ey),ns.length=n→(wts ns).length=ns.length:=by
  intro n;induction n with
  |zero=>intro ns h;rw[cja.1 h];rfl
  |succ n ih=>
   intro ns h;have gT:ns≠[]:=by intro e;rw[e] at h;cases h
   have e:=List.dropLast_concat_getLast gT;rw[←e,Sx,ata,ata,ih ns.dropLast (by simp;omega)];rfl
 exact key _ ns rfl
theorem acg{ns eg:List ey}(h:ns <+: eg):wts ns <+: wts eg:=by
 obtain⟨r,rfl⟩:=h;induction r generalizing ns with
 |nil=>simp
 |cons x r ih=>have:=ih (ns:=ns++[x]);rw[Sx,a1a] at this;exact(aJa _ _).trans this
theorem qZ{ns eg:List ey}(h:ns <+: eg){j:Int}(h0:0≤j)(h1:j<ns.length):wt eg j=wt ns j:=by
 obtain⟨r,e⟩:=acg h;have:j.toNat<(wts ns).length:=by rw[Sy];omega
 simp only[wt,←e,a6a,aRa this]
theorem nT{ns:List ey}{x:ey}:wt (ns++[x]) (ns.length:Int)=1+jz ns x.2.2.2.2:=by simp only[wt,Sx,aya,a6a];rw[aPa (by rw[Sy];omega),Sy];simp
theorem zy(ns:List ey):jz ns []=0:=rfl
theorem oJ(ns:List ey)(a:Int):jz ns [a]=wt ns a:=by simp[jz]
theorem ye(ns:List ey)(a b:Int):jz ns [a,b]=wt ns a+wt ns b:=by simp[jz]
theorem Qm(ns:List ey)(a b c:Int):jz ns [a,b,c]=wt ns a+(wt ns b+wt ns c):=by simp[jz]
theorem qd(ns:List ey)(l m:XI):jz ns (l++m)=jz ns l+jz ns m:=by simp[jz]
theorem pz{ns eg:List ey}(h:ns <+: eg){l:XI}(hl:∀ j∈l,0≤j∧j<(ns.length:Int)):jz eg l=jz ns l:=by simp only[jz];rw[bYa fun j hj=>qZ h (hl j hj).1 (hl j hj).2]
inductive Res|ok (v:Int) (a d:Nat) (ns:List ey)|er (c p:Int)
structure xH(ts:List zn)(C:Int→Bool)(s a d:Nat)(ns:List ey)(v:Int)(a' d':Nat)(eg:List ey)(w0:Nat:=0):Prop where
 lo:a+s≤a'
 hi:a'≤ts.length
 dp:d' = d
 ln:eg.length+2 * a≤ns.length+2 * a'
 pre:ns <+: eg
 all:jl eg
 v0:0≤v
 vl:v<eg.length
 vc:C (kd eg v)=true
 w:wt eg v+ns.length≤eg.length+w0
def Inv(ts:List zn)(C:Int→Bool)(s a d:Nat)(ns:List ey)(r:Res)(w0:Nat:=0):Prop:=match r with
 |.ok v a' d' eg=>xH ts C s a d ns v a' d' eg w0
 |.er c _=>c≠0
structure xI(ts:List zn)(a d:Nat)(ns:List ey):Prop where
 hi:a≤ts.length
 dp:d≤10
 ln:ns.length≤2 * a
 all:jl ns
theorem kF{ts:List zn}{C:Int→Bool}{s a d a':Nat}{ns pY:List ey}{x:ey}(lo:a+s≤a')(hi:a'≤ts.length)(ln:pY.length+1+2 * a≤ns.length+2 * a')(pre:ns <+: pY)(all:jl pY)
  (hx:nU pY pY.length x) (hC:C x.1=true) (hw:jz pY x.2.2.2.2+ns.length≤pY.length):xH ts C s a d ns (pY.length:Int) a' d (pY++[x]):=
 ⟨lo,hi,rfl,by simp;omega,pre.trans ⟨[x],rfl⟩,all.add hx,by omega,by simp;omega,by rw[qD];exact hC,by rw[nT];simp;omega⟩
theorem rZ{ns:List ey}{i:Nat}{k a n:Int}{s:ak}(hk:ce k []=true)(h4:k≠4):nU ns i (k,a,n,s,[]):=⟨by simp,hk,fun h=>absurd h h4,by simp⟩
abbrev IT:=Option ((Int×Int×Int×List ey×Unit)⊕(Int×Int×Unit))
abbrev ST:=Option (Int×Int×List ey×Int×Int×Int×Unit)
def t6(r:Res)(o:IT):Prop:=match r with
 |.ok v a d ns=>o=some (.inl (v,(a:Int),(d:Int),ns,()))
 |.er c p=>o=some (.inr (c,p,()))
def NQ(r:Res)(o:ST):Prop:=match r with
 |.ok v a d ns=>o=some (v,(a:Int),ns,(d:Int),0,0,())
 |.er c p=>∃(v:Int) (a:Nat) (ns:List ey) (d:Int),o=some (v,(a:Int),ns,d,c,p,())
def SF(ts:List zn)(C:Int→Bool)(s a d:Nat)(ns:List ey)(i:Nat→IT)(sp:Nat→ST):Prop:=
 ∃ r,Inv ts C s a d ns r∧Ev fun k=>t6 r (i k)∧NQ r (sp k)
def fnd(s:ak):XS→Int→Int
 |[],_=>0
 |x::r,i=>if x=s then i else fnd s r (i+1)
def Ob(s:ak):Int:=fnd s Pg.tail 1
def ID(s:ak):Int:=fnd s gl4.tail 1
def lvF(o:Int):Int:=if o=7 then 1 else if o=8 then 2 else if o=6 then 3 else if o=9∨o=10 then 4 else if o=1∨o=2∨o=11∨o=12 then 5 else 6
theorem RG(s:ak):∀(l:XS) (i:Int),1≤i→(fnd s l i=0∧s∉l)∨(i≤fnd s l i∧s∈l)
 |[],i,h=>.inl ⟨rfl,by simp⟩
 |x::r,i,h=>by
  simp only[fnd];by_cases hx:x=s
  ·exact .inr (by simp[hx])
  ·rcases RG s r (i+1) (by omega) with ⟨e,f⟩|⟨e,f⟩
   ·exact .inl (by simp[hx,e,f,bxa hx])
   ·exact .inr (by simp[hx,f];omega)
def fX(n:Int):Unit⊕(Int×Unit):=if n=0 then .inl () else .inr (n,())
theorem Qz(s:ak):∀ m i:Nat,m+i=14→1≤i→ct fun q k=>mh q k s Pg (i:Int)=some (fX (fnd s (Pg.drop i) i))
 |0,i,h,h1=>by
  have e:Pg.drop i=[]:=by rw[show i=14 by omega];rfl
  have h2:¬ (i:Int)<14:=by omega
  rw[e];exact ct.succ (ct.of fun q k=>by simp[mh,h2,fX,fnd])
 |m+1,i,h,h1=>by
  have bq:i<Pg.length:=by show i<14;omega
  have h2:(i:Int)<14:=by omega
  have h3:(i:Int) > 0:=by omega
  have e:Pg.drop i=Pg[i]::Pg.drop (i+1):=aSa bq;rw[e];refine ct.succ ((Qz s m (i+1) (by omega) (by omega)).mono fun q k e=>?_)
  simp only[go_sem,mh,aa,h2,h3,cX bq,ae (show i<_ by omega),e,fnd]
  by_cases hx:Pg[i]=s
  ·have:¬ (i:Int)=0:=by omega
   simp[hx,fX,show i≠0 by omega]
  ·simp only[go_sem,Q6.2 hx,aza hx];rfl
theorem adR(s:ak):Ev fun k=>E6 k s=some (Ob s,()):=by
 refine(ct.succ (p2:=fun q k=>mh q k s Pg 0=some (fX (Ob s))) ((Qz s 13 1 rfl (by omega)).mono fun q k e=>?_)).jN.mono fun k e=>?_
 ·have:mh q k s Pg (cm (0+1))=some (fX (Ob s)):=e
  simp only[go_sem,mh,aa,show(0:Int)<14 by omega,show ¬ (0:Int) > 0 by omega,this];rfl
 ·simp only[go_sem,E6,e,fX]
  by_cases h:Ob s=0<;>simp[h]
theorem Nb(s:ak):∀ m i:Nat,m+i=7→1≤i→ct fun q k=>kM q k s gl4 (i:Int)=some (fX (fnd s (gl4.drop i) i))
 |0,i,h,h1=>by
  have e:gl4.drop i=[]:=by rw[show i=7 by omega];rfl
  have h2:¬ (i:Int)<7:=by omega
  rw[e];exact ct.succ (ct.of fun q k=>by simp[kM,h2,fX,fnd])
 |m+1,i,h,h1=>by
  have bq:i<gl4.length:=by show i<7;omega
  have h2:(i:Int)<7:=by omega
  have h3:(i:Int) > 0:=by omega
  have e:gl4.drop i=gl4[i]::gl4.drop (i+1):=aSa bq;rw[e];refine ct.succ ((Nb s m (i+1) (by omega) (by omega)).mono fun q k e=>?_)
  simp only[go_sem,kM,aa,h2,h3,cX bq,ae (show i<_ by omega),e,fnd]
  by_cases hx:gl4[i]=s
  ·simp[hx,fX,show i≠0 by omega]
  ·simp only[go_sem,Q6.2 hx,aza hx];rfl
theorem ZC(s:ak):Ev fun k=>B9 k s=some (ID s,()):=by
 refine(ct.succ (p2:=fun q k=>kM q k s gl4 0=some (fX (ID s))) ((Nb s 6 1 rfl (by omega)).mono fun q k e=>?_)).jN.mono fun k e=>?_
 ·have:kM q k s gl4 (cm (0+1))=some (fX (ID s)):=e
  simp only[go_sem,kM,aa,show(0:Int)<7 by omega,show ¬ (0:Int) > 0 by omega,this];rfl
 ·simp only[go_sem,B9,e,fX]
  by_cases h:ID s=0<;>simp[h]
theorem adP(o:Int):wR o=some (lvF o,()):=by
 by_cases h7:o=7
 ·subst h7;rfl
 by_cases h8:o=8
 ·subst h8;rfl
 by_cases h6:o=6
 ·subst h6;rfl
 by_cases h9:o=9
 ·subst h9;rfl
 by_cases h10:o=10
 ·subst h10;rfl
 by_cases h1:o=1
 ·subst h1;rfl
 by_cases h2:o=2
 ·subst h2;rfl
 by_cases h11:o=11
 ·subst h11;rfl
 by_cases KY:o=12
 ·subst KY;rfl
 simp[wR,aa,lvF,Bool.cond_eq_ite,h7,h8,h6,h9,h10,h1,h2,h11,KY]
theorem Uo(s:ak):Ct s=some (ID s,()):=by
 simp only[Ct,ID,gl4,List.tail,fnd,cba (b:=s),bfa,Bool.cond_eq_ite]
 repeat' split
 all_goals first|rfl|simp_all
theorem abZ(s:ak)(n:Nat)(h1:1≤n)(h6:n≤6):uN s (n:Int)=some (if Ob s≠0∧lvF (Ob s)=n then Ob s else 0,()):=by
 by_cases hm:s∈Pg.tail
 ·have:∀ s∈Pg.tail,∀ n:Nat,n<7→1≤n→uN s (n:Int)=some (if Ob s≠0∧lvF (Ob s)=n then Ob s else 0,()):=by decide +kernel
  exact this s hm n (by omega) h1
 ·have h0:Ob s=0:=by
   rcases RG s Pg.tail 1 (by omega) with ⟨e,_⟩|⟨_,f⟩
   ·exact e
   ·exact absurd f hm
  simp only[Pg,List.tail,aka,bNa,bya,cha] at hm;have g:∀ w:ak,¬ s=w→(s==w)=false:=fun w h=>Q6.2 h;simp only[go_sem,uN,aa,g _ hm.1,g _ hm.2.1,g _ hm.2.2.1,g _ hm.2.2.2.1,g _ hm.2.2.2.2.1,g _ hm.2.2.2.2.2.1,g _ hm.2.2.2.2.2.2.1,g _ hm.2.2.2.2.2.2.2.1,g _ hm.2.2.2.2.2.2.2.2.1,g _ hm.2.2.2.2.2.2.2.2.2.1,g _ hm.2.2.2.2.2.2.2.2.2.2.1,g _ hm.2.2.2.2.2.2.2.2.2.2.2.1,g _ hm.2.2.2.2.2.2.2.2.2.2.2.2];simp[h0]
theorem afH:∀ s∈Pg.tail,xo.contains s=true:=by decide +kernel
theorem adk:∀ s∈gl4.tail,xo.contains s=true:=by decide +kernel
section
variable {ts:List zn} {a:Nat}
theorem WP(hs:oT ts)(h:a<ts.length):Ob (tk ts a).2.2.1=Ob (sg ts a):=by
 simp only[sg];cases hk:tr ts a 4 with
 |true=>rfl
 |false=>
  show _=Ob [];rcases RG (tk ts a).2.2.1 Pg.tail 1 (by omega) with ⟨e,_⟩|⟨_,f⟩
  ·exact e
  ·have h2:=(QX hs h).k
   have h3:=afH _ f;simp only[tr,il h] at hk;rcases h2 with ⟨e,_,g,_⟩|⟨e,_,g⟩|⟨e,_,g⟩|⟨e,_⟩
   ·rw[g] at h3;cases h3
   ·rw[g] at h3;cases h3
   ·rw[g] at h3;cases h3
   ·rw[e] at hk;simp at hk
theorem U3(hs:oT ts)(h:a<ts.length):ID (tk ts a).2.2.1=ID (sg ts a):=by
 simp only[sg];cases hk:tr ts a 4 with
 |true=>rfl
 |false=>
  show _=ID [];rcases RG (tk ts a).2.2.1 gl4.tail 1 (by omega) with ⟨e,_⟩|⟨_,f⟩
  ·exact e
  ·have h2:=(QX hs h).k
   have h3:=adk _ f;simp only[tr,il h] at hk;rcases h2 with ⟨e,_,g,_⟩|⟨e,_,g⟩|⟨e,_,g⟩|⟨e,_⟩
   ·rw[g] at h3;cases h3
   ·rw[g] at h3;cases h3
   ·rw[g] at h3;cases h3
   ·rw[e] at hk;simp at hk
theorem VJ(h:¬ a<ts.length):sg ts a=[]:=by simp[sg,tr,vD h]
end
end Go.Fx.R5
namespace Go.Fx.R5
open Go Go.Fx
section
theorem Cn(k:Nat):am (k+1)=gK (am k) (ik k) (gL k) k:=rfl
theorem Fi(k:Nat):ik (k+1)=iw (am k) (ik k) (gL k) k:=rfl
theorem pV(k:Nat):gL (k+1)=cC (am k) (ik k) (gL k) k:=rfl
theorem IZ(k:Nat):ai (k+1)=ii (ai k) (fh k) (fM k) k:=rfl
theorem I3(k:Nat):fh (k+1)=gQ (ai k) (fh k) (fM k) k:=rfl
theorem qC(k:Nat):fM (k+1)=bQ (ai k) (fh k) (fM k) k:=rfl
variable {ts:List zn} {en:Int} {c p:Int}
theorem fp(hc:c≠0)(k a:Nat)(ns:List ey)(d:Int):gL (k+1) ts (a:Int) en ns d c p=some (0,(a:Int),ns,d,c,p,()):=by rw[pV];simp only[go_sem,cC,dM,Nk hc,Ab hc,Nl hc,cf hc]
theorem fu(hc:c≠0)(k a:Nat)(ns:List ey)(d:Int):ik (k+2) ts (a:Int) en ns d c p=some (0,(a:Int),ns,d,c,p,()):=by rw[Fi];simp only[go_sem,iw,dM,Ab hc,fp hc]
theorem fl(hc:c≠0):∀(j k n a:Nat) (ns:List ey) (d:Int),n+j=7→am (k+3+j) ts (a:Int) en ns d c p (n:Int)=some (0,(a:Int),ns,d,c,p,())
 |0,k,n,a,ns,d,h=>by
  have:(n:Int) > 6:=by omega
  show am (k+2+1) ts (a:Int) en ns d c p (n:Int)=_;rw[Cn];simp only[go_sem,gK,this,fu hc]
 |j+1,k,n,a,ns,d,h=>by
  have:¬ (n:Int) > 6:=by omega
  have hz:(c==0)=false:=Q6.2 hc;show am (k+3+j+1) ts (a:Int) en ns d c p (n:Int)=_;rw[Cn];simp only[go_sem,gK,this,ae (show n<_ by omega),fl hc j k (n+1) a ns d (by omega)]
  rw[show k+3+j=k+2+j+1 by omega]
  simp only[go_sem,fq,aa,hz]
theorem fl1(hc:c≠0):Ev fun k=>∀(a:Nat) (ns:List ey) (d:Int),am k ts (a:Int) en ns d c p 1=some (0,(a:Int),ns,d,c,p,()):=
 ⟨9,fun k hk a ns d=>by rw[show k=k - 9+3+6 by omega];exact fl hc 6 (k - 9) 1 a ns d rfl⟩
variable {a d:Nat} {ns:List ey}
abbrev KQ(ts:List zn)(en:Int)(a d:Nat)(ns:List ey)(n:Nat):Prop:=SF ts Bc 1 a d ns (fun k=>ai k ts en (a:Int) (d:Int) ns (n:Int)) (fun k=>am k ts (a:Int) en ns (d:Int) 0 0 (n:Int))
abbrev UnB(ts:List zn)(en:Int)(a d:Nat)(ns:List ey):Prop:=SF ts Bc 1 a d ns (fun k=>fh k ts en (a:Int) (d:Int) ns) (fun k=>ik k ts (a:Int) en ns (d:Int) 0 0)
abbrev PrB(ts:List zn)(en:Int)(a d:Nat)(ns:List ey):Prop:=SF ts Bc 1 a d ns (fun k=>fM k ts en (a:Int) (d:Int) ns) (fun k=>gL k ts (a:Int) en ns (d:Int) 0 0)
theorem kn{d:Nat}(h:d≤4000000000000000000):cm (((d+1:Nat):Int) - 1)=(d:Int):=by rw[dT (by omega) (by omega)];omega
theorem QD(hs:oT ts)(hp:xI ts a d ns)(IH:∀ a' d' eg,a<a'→xI ts a' d' eg→KQ ts en a' d' eg 1):PrB ts en a d ns:=by
 have h7:=hs.len;obtain⟨p1,p2,p3,p4⟩:=hp;have b0:a≤4000000000000000000:=by omega
 have b1:a+1≤4000000000000000000:=by omega
 have b2:a+1+1≤4000000000000000000:=by omega
 have bn:ns.length≤4000000:=by omega
 cases uy:tr ts a 2 with
 |true=>
  have bq:=jE uy;refine⟨.ok _ (a+1) d (ns++[(24,pl ts en a,(tk ts a).2.2.2,[],[])]),kF (by omega) (by omega) (by omega) (aVa _) p4 (rZ rfl (by decide)) rfl (by simp[jz]),Ev.succ (Ev.of fun k=>⟨?_,?_⟩)⟩
  ·simp only[go_sem,t6,qC,bQ,bw,gw,reduceIte,cT b0,gX bn,uy]
  ·simp only[go_sem,NQ,pV,cC,dM,fR,reduceIte,EF b0,fj bn,uy]
 |false=>
 cases wN:be ts a [42] with
 |true=>
  have bq:=bz wN;have JB:be ts a [40]=false:=bc wN rfl;cases hn:tr ts (a+1) 1 with
  |true=>
   have bq:=jE hn;refine⟨.ok _ (a+1+1) d (ns++[(27,pl ts en a,0,(tk ts (a+1)).2.2.1,[])]),kF (by omega) (by omega) (by omega) (aVa _) p4 (rZ rfl (by decide)) rfl (by simp[jz]),Ev.succ (Ev.of fun k=>⟨?_,?_⟩)⟩
   ·simp only[go_sem,t6,qC,bQ,bw,gw,reduceIte,cT b1,aG b0,gX bn,uy,wN,hn]
   ·simp only[go_sem,NQ,pV,cC,dM,fR,reduceIte,af hs (w:=[40]) rfl b0,af hs (w:=[42]) rfl b0,df b1,fj bn,uy,wN,JB,hn]
  |false=>
   refine⟨.er 6 (pl ts en (a+1)),(show(6:Int)≠0 by decide),Ev.succ (Ev.of fun k=>⟨?_,0,a+1,ns,d,?_⟩)⟩
   ·simp only[go_sem,t6,qC,bQ,bw,gw,reduceIte,cT b1,aG b0,gX bn,uy,wN,hn]
   ·simp only[go_sem,pV,cC,dM,fR,reduceIte,af hs (w:=[40]) rfl b0,af hs (w:=[42]) rfl b0,df b1,cf (show(6:Int)≠0 by decide),uy,wN,JB,hn]
 |false=>
 cases JB:be ts a [40] with
 |true=>
  have bq:=bz JB;by_cases hd:d<10
  ·obtain⟨r,hi,hr⟩:=IH (a+1) (d+1) ns (by omega) ⟨by omega,by omega,by omega,p4⟩
   cases r with
   |er c p=>
    refine⟨.er c p,hi,Ev.succ (hr.mono fun k e=>?_)⟩;obtain⟨e1,v,a',eg,d',e2⟩:=e;refine⟨?_,0+v,a',eg,cm (d' - 1),?_⟩
    ·simp only[go_sem,t6,qC,bQ,bw,gw,reduceIte,aG b0,gC p2,uy,wN,JB,hd,show ai k ts en ((a+1:Nat):Int) ((d+1:Nat):Int) ns 1=_ from e1]
    ·simp only[go_sem,pV,cC,dM,fR,reduceIte,af hs (w:=[40]) rfl b0,lJ p2,uy,JB,hd,show am k ts ((a+1:Nat):Int) en ns ((d+1:Nat):Int) 0 0 1=_ from e2,fB (show c≠0 from hi),Int.zero_add]
   |ok v a' d' eg=>
    obtain⟨q1,q2,rfl,q3,q4,q5,q6,q7,q8,q9⟩:=hi;have b4:a'≤4000000000000000000:=by omega
    cases mg:be ts a' [41] with
    |true=>
     have Hr:=bz mg;refine⟨.ok v (a' + 1) d eg,⟨by omega,by omega,rfl,by omega,q4,q5,q6,q7,q8,q9⟩,Ev.succ (hr.mono fun k e=>⟨?_,?_⟩)⟩
     ·simp only[go_sem,t6,qC,bQ,bw,gw,reduceIte,aG b0,bC b4,gC p2,uy,wN,JB,hd,mg,show ai k ts en ((a+1:Nat):Int) ((d+1:Nat):Int) ns 1=_ from e.1,kn (show d≤_ by omega)]
     ·simp only[go_sem,NQ,pV,cC,dM,fR,reduceIte,af hs (w:=[40]) rfl b0,lJ p2,aI hs (w:=[41]) rfl b4,uy,JB,hd,mg,show am k ts ((a+1:Nat):Int) en ns ((d+1:Nat):Int) 0 0 1=_ from e.2,kn (show d≤_ by omega)]
    |false=>
     refine⟨.er 6 (pl ts en a'),(show(6:Int)≠0 by decide),Ev.succ (hr.mono fun k e=>⟨?_,v,a',eg,d,?_⟩)⟩
     ·simp only[go_sem,t6,qC,bQ,bw,gw,reduceIte,aG b0,bC b4,gC p2,uy,wN,JB,hd,mg,show ai k ts en ((a+1:Nat):Int) ((d+1:Nat):Int) ns 1=_ from e.1]
     ·simp only[go_sem,pV,cC,dM,fR,reduceIte,af hs (w:=[40]) rfl b0,lJ p2,aI hs (w:=[41]) rfl b4,uy,JB,hd,mg,show am k ts ((a+1:Nat):Int) en ns ((d+1:Nat):Int) 0 0 1=_ from e.2,kn (show d≤_ by omega)]
  ·refine⟨.er 7 (pl ts en (a+1)),(show(7:Int)≠0 by decide),Ev.succ (Ev.of fun k=>⟨?_,0,a+1,ns,((d+1:Nat):Int),?_⟩)⟩
   ·simp only[go_sem,t6,qC,bQ,bw,gw,reduceIte,aG b0,gC p2,uy,wN,JB,hd]
   ·simp only[go_sem,pV,cC,dM,fR,reduceIte,af hs (w:=[40]) rfl b0,lJ p2,uy,JB,hd]
 |false=>
 cases hn:tr ts a 1 with
 |false=>
  refine⟨.er 6 (pl ts en a),(show(6:Int)≠0 by decide),Ev.succ (Ev.of fun k=>⟨?_,0,a,ns,d,?_⟩)⟩
  ·simp only[go_sem,t6,qC,bQ,bw,gw,reduceIte,cT b0,aG b0,uy,wN,JB,hn]
  ·simp only[go_sem,pV,cC,dM,fR,reduceIte,af hs (w:=[40]) rfl b0,af hs (w:=[42]) rfl b0,df b0,Ab (show(6:Int)≠0 by decide),cf (show(6:Int)≠0 by decide),uy,wN,JB,hn]
 |true=>
 have bq:=jE hn;cases rh:be ts (a+1) [91] with
 |false=>
  refine⟨.ok _ (a+1) d (ns++[(25,pl ts en a,0,(tk ts a).2.2.1,[])]),kF (by omega) (by omega) (by omega) (aVa _) p4 (rZ rfl (by decide)) rfl (by simp[jz]),Ev.succ (Ev.of fun k=>⟨?_,?_⟩)⟩
  ·simp only[go_sem,t6,qC,bQ,bw,gw,reduceIte,cT b0,aG b0,aG b1,gX bn,uy,wN,JB,hn,rh]
  ·simp only[go_sem,NQ,pV,cC,dM,fR,reduceIte,af hs (w:=[40]) rfl b0,af hs (w:=[42]) rfl b0,af hs (w:=[91]) rfl b1,df b0,fj bn,uy,wN,JB,hn,rh]
 |true=>
 have Zo:=bz rh;by_cases hd:d<10
 ·obtain⟨r,hi,hr⟩:=IH (a+1+1) (d+1) ns (by omega) ⟨by omega,by omega,by omega,p4⟩
  cases r with
  |er c p=>
   refine⟨.er c p,hi,Ev.succ (hr.mono fun k e=>?_)⟩;obtain⟨e1,v,a',eg,d',e2⟩:=e;refine⟨?_,0,a',eg,cm (d' - 1),?_⟩
   ·simp only[go_sem,t6,qC,bQ,bw,gw,reduceIte,cT b0,aG b0,aG b1,gC p2,uy,wN,JB,hn,rh,hd,show ai k ts en ((a+1+1:Nat):Int) ((d+1:Nat):Int) ns 1=_ from e1]
   ·simp only[go_sem,pV,cC,dM,fR,reduceIte,af hs (w:=[40]) rfl b0,af hs (w:=[42]) rfl b0,af hs (w:=[91]) rfl b1,df b0,lJ p2,uy,wN,JB,hn,rh,hd,show am k ts ((a+1+1:Nat):Int) en ns ((d+1:Nat):Int) 0 0 1=_ from e2,fB (show c≠0 from hi),cf (show c≠0 from hi)]
  |ok v a' d' eg=>
   obtain⟨q1,q2,rfl,q3,q4,q5,q6,q7,q8,q9⟩:=hi;have b4:a'≤4000000000000000000:=by omega
   have ML:eg.length≤4000000:=by omega
   cases mg:be ts a' [93] with
   |true=>
    have Hr:=bz mg;refine⟨.ok _ (a' + 1) d (eg++[(26,pl ts en a,0,(tk ts a).2.2.1,[v])]),kF (by omega) (by omega) (by omega) q4 q5 ⟨by simp;omega,by simpa[ce] using q8,by simp⟩ rfl (by rw[oJ];exact q9),Ev.succ (hr.mono fun k e=>⟨?_,?_⟩)⟩
    ·simp only[go_sem,t6,qC,bQ,bw,gw,reduceIte,cT b0,aG b0,aG b1,bC b4,gX ML,gC p2,uy,wN,JB,hn,rh,hd,mg,show ai k ts en ((a+1+1:Nat):Int) ((d+1:Nat):Int) ns 1=_ from e.1,kn (show d≤_ by omega)]
    ·simp only[go_sem,NQ,pV,cC,dM,fR,reduceIte,af hs (w:=[40]) rfl b0,af hs (w:=[42]) rfl b0,af hs (w:=[91]) rfl b1,df b0,lJ p2,aI hs (w:=[93]) rfl b4,fj ML,uy,wN,JB,hn,rh,hd,mg,show am k ts ((a+1+1:Nat):Int) en ns ((d+1:Nat):Int) 0 0 1=_ from e.2,kn (show d≤_ by omega)]
   |false=>
    refine⟨.er 6 (pl ts en a'),(show(6:Int)≠0 by decide),Ev.succ (hr.mono fun k e=>⟨?_,0,a',eg,d,?_⟩)⟩
    ·simp only[go_sem,t6,qC,bQ,bw,gw,reduceIte,cT b0,aG b0,aG b1,bC b4,gC p2,uy,wN,JB,hn,rh,hd,mg,show ai k ts en ((a+1+1:Nat):Int) ((d+1:Nat):Int) ns 1=_ from e.1]
    ·simp only[go_sem,pV,cC,dM,fR,reduceIte,af hs (w:=[40]) rfl b0,af hs (w:=[42]) rfl b0,af hs (w:=[91]) rfl b1,df b0,lJ p2,aI hs (w:=[93]) rfl b4,cf (show(6:Int)≠0 by decide),uy,wN,JB,hn,rh,hd,mg,show am k ts ((a+1+1:Nat):Int) en ns ((d+1:Nat):Int) 0 0 1=_ from e.2,kn (show d≤_ by omega)]
 ·refine⟨.er 7 (pl ts en (a+1+1)),(show(7:Int)≠0 by decide),Ev.succ (Ev.of fun k=>⟨?_,0,a+1+1,ns,((d+1:Nat):Int),?_⟩)⟩
  ·simp only[go_sem,t6,qC,bQ,bw,gw,reduceIte,cT b0,aG b0,aG b1,gC p2,uy,wN,JB,hn,rh,hd]
  ·simp only[go_sem,pV,cC,dM,fR,reduceIte,af hs (w:=[40]) rfl b0,af hs (w:=[42]) rfl b0,af hs (w:=[91]) rfl b1,df b0,lJ p2,uy,wN,JB,hn,rh,hd]
end
theorem xH.from{ts:List zn}{C:Int→Bool}{s s0 a d a1:Nat}{ns pY:List ey}{v:Int}{a' d':Nat}{eg:List ey}{w0 w1:Nat}(h:xH ts C s a1 d pY v a' d' eg w1)(lo:a+s0≤a1+s)(ln:pY.length+2 * a≤ns.length+2 * a1)
  (pre:ns <+: pY) (hw:w1+ns.length≤pY.length+w0):xH ts C s0 a d ns v a' d' eg w0:=
 let⟨h1,h2,h3,h4,h5,h6,h7,h8,h9,h10⟩:=h;⟨by omega,h2,h3,by omega,pre.trans h5,h6,h7,h8,h9,by omega⟩
theorem Inv.from{ts:List zn}{C:Int→Bool}{s s0 a d a1:Nat}{ns pY:List ey}{r:Res}{w0 w1:Nat}(h:Inv ts C s a1 d pY r w1)(lo:a+s0≤a1+s)(ln:pY.length+2 * a≤ns.length+2 * a1)(pre:ns <+: pY)(hw:w1+ns.length≤pY.length+w0):Inv ts C s0 a d ns r w0:=by
 cases r with
 |er c p=>exact h
 |ok v a' d' eg=>exact xH.from h lo ln pre hw
def I1(r:Res)(o:Option ((Int×Int×List ey×Int×Unit)⊕(Int×Int×Unit))):Prop:=match r with
 |.ok v a d ns=>o=some (.inl ((a:Int),(d:Int),ns,v,()))
 |.er c p=>o=some (.inr (c,p,()))
def RQ(r:Res)(o:Option (Int×List ey×Int×Int×Int×Int×Unit)):Prop:=match r with
 |.ok v a d ns=>o=some ((a:Int),ns,(d:Int),0,0,v,())
 |.er c p=>∃(v:Int) (a:Nat) (ns:List ey) (d:Int),o=some ((a:Int),ns,d,c,p,v,())
section
variable {ts:List zn} {en:Int} {a d:Nat} {ns:List ey}
theorem Xj(hs:oT ts)(hp:xI ts a d ns)(IH:∀ a' d' eg,a<a'→xI ts a' d' eg→UnB ts en a' d' eg)(PR:PrB ts en a d ns):UnB ts en a d ns:=by
 have h7:=hs.len;obtain⟨p1,p2,p3,p4⟩:=hp;have b0:a≤4000000000000000000:=by omega
 have bn:ns.length≤4000000:=by omega
 cases hm:be ts a [45] with
 |false=>
  obtain⟨r,hi,hr⟩:=PR;refine⟨r,hi,Ev.succ (hr.mono fun k e=>?_)⟩;cases r with
  |er c p=>
   obtain⟨e1,v,a',eg,d',e2⟩:=e;refine⟨?_,v,a',eg,d',?_⟩
   ·simp only[go_sem,t6,I3,gQ,bw,reduceIte,aG b0,hm,show fM k ts en (a:Int) (d:Int) ns=_ from e1]
   ·simp only[go_sem,Fi,iw,dM,reduceIte,af hs (w:=[45]) rfl b0,hm,show gL k ts (a:Int) en ns (d:Int) 0 0=_ from e2]
  |ok v a' d' eg=>
   refine⟨?_,?_⟩
   ·simp only[go_sem,t6,I3,gQ,bw,reduceIte,aG b0,hm,show fM k ts en (a:Int) (d:Int) ns=_ from e.1]
   ·simp only[go_sem,NQ,Fi,iw,dM,reduceIte,af hs (w:=[45]) rfl b0,hm,show gL k ts (a:Int) en ns (d:Int) 0 0=_ from e.2]
 |true=>
 have bq:=bz hm;by_cases hd:d<10
 ·obtain⟨r,hi,hr⟩:=IH (a+1) (d+1) (ns++[(24,pl ts en a,0,[],[])]) (by omega) ⟨by omega,by omega,by simp;omega,p4.add (rZ rfl (by decide))⟩
  cases r with
  |er c p=>
   refine⟨.er c p,hi,Ev.succ (hr.mono fun k e=>?_)⟩;obtain⟨e1,v,a',eg,d',e2⟩:=e;refine⟨?_,0,a',eg,cm (d' - 1),?_⟩
   ·simp only[go_sem,t6,I3,gQ,bw,reduceIte,aG b0,gC p2,gX bn,hm,hd,show fh k ts en ((a+1:Nat):Int) ((d+1:Nat):Int) (ns++[(24,pl ts en a,0,[],[])])=_ from e1]
   ·simp only[go_sem,Fi,iw,dM,reduceIte,af hs (w:=[45]) rfl b0,lJ p2,fj bn,hm,hd,show ik k ts ((a+1:Nat):Int) en (ns++[(24,pl ts en a,0,[],[])]) ((d+1:Nat):Int) 0 0=_ from e2,cf (show c≠0 from hi)]
  |ok v a' d' eg=>
   obtain⟨q1,q2,rfl,q3,q4,q5,q6,q7,q8,q9⟩:=hi;simp only[ata,ara,aBa] at q3 q9;have wz:wt eg (ns.length:Int)=1:=by rw[qZ q4 (by omega) (by simp;omega),nT];rfl
   have ML:eg.length≤4000000:=by omega
   have qz:kd eg (ns.length:Int)=24:=by rw[qc q4 (by omega) (by simp;omega),qD]
   have ql:ns.length<eg.length:=by have:=q4.length_le;simp at this;omega
   refine⟨.ok _ a' d (eg++[(28,pl ts en a,2,[],[(ns.length:Int),v])]),kF (by omega) (by omega) (by omega) ((aJa _ _).trans q4) q5 ⟨by simp;omega,by simpa[ce,qz,Bc] using q8,by simp⟩ rfl (by rw[ye,wz];omega),Ev.succ (hr.mono fun k e=>⟨?_,?_⟩)⟩
   ·simp only[go_sem,t6,I3,gQ,bw,reduceIte,aG b0,gC p2,gX bn,gX ML,hm,hd,show fh k ts en ((a+1:Nat):Int) ((d+1:Nat):Int) (ns++[(24,pl ts en a,0,[],[])])=_ from e.1,kn (show d≤_ by omega)]
   ·simp only[go_sem,NQ,Fi,iw,dM,reduceIte,af hs (w:=[45]) rfl b0,lJ p2,fj bn,fj ML,hm,hd,show ik k ts ((a+1:Nat):Int) en (ns++[(24,pl ts en a,0,[],[])]) ((d+1:Nat):Int) 0 0=_ from e.2,kn (show d≤_ by omega)]
 ·refine⟨.er 7 (pl ts en (a+1)),(show(7:Int)≠0 by decide),Ev.succ (Ev.of fun k=>⟨?_,0,a+1,ns,((d+1:Nat):Int),?_⟩)⟩
  ·simp only[go_sem,t6,I3,gQ,bw,reduceIte,aG b0,gC p2,hm,hd]
  ·simp only[go_sem,Fi,iw,dM,reduceIte,af hs (w:=[45]) rfl b0,lJ p2,hm,hd]
theorem Vi(hs:oT ts){n:Nat}(n1:1≤n)(n6:n≤6){a0:Nat}(IH:∀ a' eg,a0≤a'→xI ts a' d eg→KQ ts en a' d eg (n+1)):∀ m a (ns:List ey) (x:Int),ts.length - a≤m→a0≤a→xI ts a d ns→0≤x→x<ns.length→Bc (kd ns x)=true→
  ∃ r,Inv ts Bc 0 a d ns r (wt ns x)∧ct fun q k=>I1 r (dN (ai q) (fh q) (fM q) q k ts en (n:Int) (a:Int) (d:Int) ns x)∧
   RQ r (fq (am q) (ik q) (gL q) q k ts en (n:Int) (a:Int) ns (d:Int) 0 0 x):=by
 have h7:=hs.len;intro m;induction m with
 |zero=>
  intro a ns x hm h0 hp x0 x1 x2;have bq:¬ a<ts.length:=by omega
  refine⟨.ok x a d ns,⟨by omega,hp.hi,rfl,by omega,aVa _,hp.all,x0,x1,x2,by omega⟩,ct.succ (ct.of fun q k=>⟨?_,?_⟩)⟩
  ·simp only[go_sem,I1,dN,Q3,bq]
  ·simp only[go_sem,RQ,fq,aa,HK,VJ bq,abZ [] n n1 n6,show Ob []=0 from rfl,ne_eq,not_true,false_and,ite_false]
 |succ m ih=>
  intro a ns x hm h0 hp x0 x1 x2;obtain⟨p1,p2,p3,p4⟩:=hp;by_cases mm:Ob (sg ts a)≠0∧lvF (Ob (sg ts a))=n
  ·have bq:a<ts.length:=by
    by_cases h:a<ts.length
    ·exact h
    ·rw[VJ h] at mm;exact absurd rfl mm.1
   have hz:(Ob (sg ts a)==0)=false:=Q6.2 mm.1;have hl:(lvF (Ob (sg ts a)) != (n:Int))=false:=by rw[mm.2];simp
   obtain⟨r,hi,hr⟩:=IH (a+1) ns (by omega) ⟨by omega,by omega,by omega,p4⟩
   cases r with
   |er c p=>
    have hc:(c==0)=false:=Q6.2 hi;refine⟨.er c p,hi,ct.succ (ct.succ ((hr.tZ.and (adR (tk ts a).2.2.1).tZ).mono fun q k e=>?_))⟩;obtain⟨⟨e1,v,a',eg,d',e2⟩,e3⟩:=e;refine⟨?_,0,a',eg,d',?_⟩
    ·simp only[go_sem,I1,dN,aa,Q3,bq,bj (il bq),e3,WP hs bq,hz,adP,hl,bw,ae (show a<_ by omega),ae (show n<_ by omega),show ai q ts en ((a+1:Nat):Int) (d:Int) ns ((n+1:Nat):Int)=_ from e1]
    ·simp only[go_sem,fq,aa,HK,dM,abZ _ n n1 n6,a4a mm,bne,hz,hc,ae (show a<_ by omega),ae (show n<_ by omega),show am q ts ((a+1:Nat):Int) en ns (d:Int) 0 0 ((n+1:Nat):Int)=_ from e2,cf (show c≠0 from hi)]
   |ok y a1 d1 mO=>
    obtain⟨q1,q2,rfl,q3,q4,q5,q6,q7,q8,q9⟩:=hi;have ML:mO.length≤4000000:=by omega
    have xk:kd mO x=kd ns x:=qc q4 x0 x1;have ql:=q4.length_le;have Tw:nU mO mO.length (28,pl ts en a,Ob (sg ts a),[],[x,y]):=⟨by simp;omega,by simp[ce,xk,x2,q8],by simp⟩
    obtain⟨r,gi,gr⟩:=ih a1 (mO++[(28,pl ts en a,Ob (sg ts a),[],[x,y])]) (mO.length:Int) (by omega) (by omega) ⟨by omega,by omega,by simp;omega,q5.add Tw⟩ (by omega) (by simp;omega) (by rw[qD];rfl)
    refine⟨r,gi.from (by omega) (by simp;omega) (q4.trans (aJa _ _)) (by rw[nT,ye,qZ q4 x0 x1];simp;omega),ct.succ (((hr.tZ.and (adR (tk ts a).2.2.1).tZ).and gr).mono fun q k e=>?_)⟩
    obtain⟨⟨⟨e1,e2⟩,e3⟩,e4,e5⟩:=e;refine⟨?_,?_⟩
    ·simp only[go_sem,dN,aa,Q3,bq,bj (il bq),e3,WP hs bq,hz,adP,hl,bw,ae (show a<_ by omega),ae (show n<_ by omega),show ai q ts en ((a+1:Nat):Int) (d1:Int) ns ((n+1:Nat):Int)=_ from e1,gX ML]
     exact e4
    ·simp only[go_sem,fq,aa,HK,dM,abZ _ n n1 n6,a4a mm,bne,hz,ae (show a<_ by omega),ae (show n<_ by omega),show am q ts ((a+1:Nat):Int) en ns (d1:Int) 0 0 ((n+1:Nat):Int)=_ from e2,fj ML]
     exact e5
  ·refine⟨.ok x a d ns,⟨by omega,p1,rfl,by omega,aVa _,p4,x0,x1,x2,by omega⟩,ct.succ ((adR (tk ts a).2.2.1).tZ.mono fun q k e=>⟨?_,?_⟩)⟩
   ·by_cases bq:a<ts.length
    ·by_cases hz:Ob (sg ts a)=0
     ·simp only[go_sem,I1,dN,aa,Q3,bq,bj (il bq),e,WP hs bq,hz]
     ·have hl:(lvF (Ob (sg ts a)) != (n:Int))=true:=by
       rw[aYa];exact fun h=>mm ⟨hz,h⟩
      simp only[go_sem,I1,dN,aa,Q3,bq,bj (il bq),e,WP hs bq,Q6.2 hz,adP,hl]
    ·simp only[go_sem,I1,dN,Q3,bq]
   ·simp only[go_sem,RQ,fq,aa,HK,abZ _ n n1 n6,aza mm]
theorem Vh(hs:oT ts){n:Nat}(n1:1≤n)(n6:n≤6)(hp:xI ts a d ns)(IH:∀ a' eg,a≤a'→xI ts a' d eg→KQ ts en a' d eg (n+1)):KQ ts en a d ns n:=by
 have h7:=hs.len;have n7:¬ (n:Int) > 6:=by omega
 obtain⟨r,hi,hr⟩:=IH a ns (ava _) hp;obtain⟨p1,p2,p3,p4⟩:=hp;cases r with
 |er c p=>
  have hc:(c==0)=false:=Q6.2 hi;refine⟨.er c p,hi,Ev.succ ((hr.and ⟨1,fun k hk=>hk⟩).mono fun k e=>?_)⟩;obtain⟨⟨e1,v,a',eg,d',e2⟩,hk⟩:=e;obtain⟨j,rfl⟩:∃ j,k=j+1:=⟨k - 1,by omega⟩
  refine⟨?_,v,a',eg,d',?_⟩
  ·simp only[go_sem,t6,IZ (j+1),ii,n7,ae (show n<_ by omega),show ai (j+1) ts en (a:Int) (d:Int) ns ((n+1:Nat):Int)=_ from e1]
  ·simp only[go_sem,Cn (j+1),gK,n7,ae (show n<_ by omega),show am (j+1) ts (a:Int) en ns (d:Int) 0 0 ((n+1:Nat):Int)=_ from e2,fq,aa,hc]
 |ok x a1 d1 mO=>
  obtain⟨q1,q2,rfl,q3,q4,q5,q6,q7,q8,q9⟩:=hi;obtain⟨r,gi,gr⟩:=Vi hs n1 n6 IH _ a1 mO x (ava _) (by omega) ⟨q2,p2,by omega,q5⟩ q6 q7 q8
  refine⟨r,gi.from (by omega) q3 q4 q9,Ev.succ ((hr.and gr.jN).mono fun k e=>?_)⟩
  obtain⟨⟨e1,e2⟩,e3,e4⟩:=e;cases r with
  |er c p=>
   obtain⟨v,a',eg,d',e4⟩:=e4;refine⟨?_,v,a',eg,d',?_⟩
   ·simp only[go_sem,t6,IZ,ii,n7,ae (show n<_ by omega),show ai k ts en (a:Int) (d1:Int) ns ((n+1:Nat):Int)=_ from e1]
    simp only[go_sem,show dN _ _ _ k k ts en (n:Int) (a1:Int) (d1:Int) mO x=_ from e3]
   ·simp only[go_sem,Cn,gK,n7,ae (show n<_ by omega),show am k ts (a:Int) en ns (d1:Int) 0 0 ((n+1:Nat):Int)=_ from e2,e4]
  |ok v a' d' eg=>
   refine⟨?_,?_⟩
   ·simp only[go_sem,t6,IZ,ii,n7,ae (show n<_ by omega),show ai k ts en (a:Int) (d1:Int) ns ((n+1:Nat):Int)=_ from e1]
    simp only[go_sem,show dN _ _ _ k k ts en (n:Int) (a1:Int) (d1:Int) mO x=_ from e3]
   ·simp only[go_sem,NQ,Cn,gK,n7,ae (show n<_ by omega),show am k ts (a:Int) en ns (d1:Int) 0 0 ((n+1:Nat):Int)=_ from e2,show fq _ _ _ k k ts en (n:Int) (a1:Int) mO (d1:Int) 0 0 x=_ from e4]
theorem adU(U:UnB ts en a d ns):KQ ts en a d ns 7:=by
 obtain⟨r,hi,hr⟩:=U;have n7:((7:Nat):Int) > 6:=by omega
 refine⟨r,hi,Ev.succ (hr.mono fun k e=>?_)⟩;obtain⟨e1,e2⟩:=e;cases r with
 |er c p=>
  obtain⟨v,a',eg,d',e2⟩:=e2;refine⟨?_,v,a',eg,d',?_⟩
  ·simp only[go_sem,t6,IZ,ii,n7,show fh k ts en (a:Int) (d:Int) ns=_ from e1]
  ·simp only[go_sem,Cn,gK,n7,e2]
 |ok v a' d' eg=>
  refine⟨?_,?_⟩
  ·simp only[go_sem,t6,IZ,ii,n7,show fh k ts en (a:Int) (d:Int) ns=_ from e1]
  ·simp only[go_sem,NQ,Cn,gK,n7,show ik k ts (a:Int) en ns (d:Int) 0 0=_ from e2]
theorem Vj(hs:oT ts){a:Nat}(U:∀ a' d ns,a≤a'→xI ts a' d ns→UnB ts en a' d ns):∀ j n,n+j=7→1≤n→∀ a' d ns,a≤a'→xI ts a' d ns→KQ ts en a' d ns n
 |0,n,h,h1,a',d,ns,ha,hp=>by
  obtain rfl:n=7:=by omega
  exact adU (U a' d ns ha hp)
 |j+1,n,h,h1,a',d,ns,ha,hp=>Vh hs h1 (by omega) hp fun a2 pY h2 p2=>Vj hs U j (n+1) (by omega) (by omega) a2 d pY (by omega) p2
theorem af5(hs:oT ts):∀ m a,ts.length - a≤m→∀ a',a≤a'→∀ d ns,xI ts a' d ns→UnB ts en a' d ns∧KQ ts en a' d ns 1:=by
 intro m;induction m with
 |zero=>
  intro a hm a' ha d ns hp;have key:∀ a',a≤a'→∀ d ns,xI ts a' d ns→UnB ts en a' d ns:=fun a' ha d ns hp=>
   Xj hs hp (fun a2 d2 pY h2 p2=>by have:=p2.hi;have:=hp.hi;omega) (QD hs hp fun a2 d2 pY h2 p2=>by have:=p2.hi;have:=hp.hi;omega)
  exact⟨key a' ha d ns hp,Vj hs (a:=a) (fun a' d ns ha hp=>key a' ha d ns hp) 6 1 rfl (by omega) a' d ns ha hp⟩
 |succ m ih=>
  intro a hm a' ha d ns hp;have key:∀ a',a≤a'→∀ d ns,xI ts a' d ns→UnB ts en a' d ns:=fun a' ha d ns hp=>
   Xj hs hp (fun a2 d2 pY h2 p2=>(ih (a+1) (by omega) a2 (by omega) d2 pY p2).1) (QD hs hp fun a2 d2 pY h2 p2=>(ih (a+1) (by omega) a2 (by omega) d2 pY p2).2)
  exact⟨key a' ha d ns hp,Vj hs (a:=a) (fun a' d ns ha hp=>key a' ha d ns hp) 6 1 rfl (by omega) a' d ns ha hp⟩
theorem BE(hs:oT ts)(hp:xI ts a d ns):KQ ts en a d ns 1:=(af5 hs _ a (ava _) a (ava _) d ns hp).2
end
end Go.Fx.R5
namespace Go.Fx.R5
open Go Go.Fx
section
theorem Ck(k:Nat):dQ (k+1)=lP (dQ k) (gc k) (eY k) k:=rfl
theorem Cj(k:Nat):gc (k+1)=lM (dQ k) (gc k) (eY k) k:=rfl
theorem jY(k:Nat):eY (k+1)=dy (dQ k) (gc k) (eY k) k:=rfl
theorem Hu(k:Nat):dJ (k+1)=kz (dJ k) (eH k) (dK k) k:=rfl
theorem Ht(k:Nat):eH (k+1)=ky (dJ k) (eH k) (dK k) k:=rfl
theorem jQ(k:Nat):dK (k+1)=cA (dJ k) (eH k) (dK k) k:=rfl
variable {ts:List zn} {en:Int} {c p:Int}
theorem adr(hc:c≠0):Ev fun k=>∀(a:Nat) (ns:List ey) (d:Int),eY k ts (a:Int) en ns d c p=some (0,(a:Int),ns,d,c,p,()):=by refine Ev.succ ((fl1 (ts:=ts) (en:=en) (p:=p) hc).mono fun k e a ns d=>?_);rw[jY];simp only[go_sem,dy,dM,Ab hc,e,Y6 hc,Uo,show ID []=0 from rfl,J9 hc]
theorem adq(hc:c≠0):Ev fun k=>∀(a:Nat) (ns:List ey) (d:Int),gc k ts (a:Int) en ns d c p=some (0,(a:Int),ns,d,c,p,()):=by
 refine Ev.succ (((adr (ts:=ts) (en:=en) (p:=p) hc).and ⟨1,fun k hk=>hk⟩).mono fun k e a ns d=>?_);obtain⟨e,hk⟩:=e;obtain⟨j,rfl⟩:∃ j,k=j+1:=⟨k - 1,by omega⟩
 rw[Cj];simp only[go_sem,lM,e,fT,Nj hc]
theorem Y5(hc:c≠0):Ev fun k=>∀(a:Nat) (ns:List ey) (d:Int),dQ k ts (a:Int) en ns d c p=some (0,(a:Int),ns,d,c,p,()):=by
 refine Ev.succ (((adq (ts:=ts) (en:=en) (p:=p) hc).and ⟨1,fun k hk=>hk⟩).mono fun k e a ns d=>?_);obtain⟨e,hk⟩:=e;obtain⟨j,rfl⟩:∃ j,k=j+1:=⟨k - 1,by omega⟩
 rw[Ck];simp only[go_sem,lP,e,fU,Nj hc]
variable {a d:Nat} {ns:List ey}
abbrev CdB(ts:List zn)(en:Int)(a d:Nat)(ns:List ey):Prop:=SF ts sV 1 a d ns (fun k=>dJ k ts en (a:Int) (d:Int) ns) (fun k=>dQ k ts (a:Int) en ns (d:Int) 0 0)
abbrev BoB(ts:List zn)(en:Int)(a d:Nat)(ns:List ey):Prop:=SF ts sV 1 a d ns (fun k=>eH k ts en (a:Int) (d:Int) ns) (fun k=>gc k ts (a:Int) en ns (d:Int) 0 0)
abbrev LaB(ts:List zn)(en:Int)(a d:Nat)(ns:List ey):Prop:=SF ts sV 1 a d ns (fun k=>dK k ts en (a:Int) (d:Int) ns) (fun k=>eY k ts (a:Int) en ns (d:Int) 0 0)
theorem Xq(hs:oT ts){a0:Nat}(IH:∀ a' eg,a0≤a'→xI ts a' d eg→LaB ts en a' d eg):∀ m a (ns:List ey) (x:Int),ts.length - a≤m→a0≤a→xI ts a d ns→0≤x→x<ns.length→sV (kd ns x)=true→
  ∃ r,Inv ts sV 0 a d ns r (wt ns x)∧ct fun q k=>I1 r (eW (dJ q) (eH q) (dK q) q k ts en (a:Int) (d:Int) ns x)∧
   RQ r (fT (dQ q) (gc q) (eY q) q k ts en (a:Int) ns (d:Int) 0 0 x):=by
 have h7:=hs.len;intro m;induction m with
 |zero=>
  intro a ns x hm h0 hp x0 x1 x2;have Km:be ts a [97,110,100]=false:=by
   cases h:be ts a [97,110,100] with
   |false=>rfl
   |true=>have:=bz h;omega
  have b0:a≤4000000000000000000:=by have:=hp.hi;omega
  refine⟨.ok x a d ns,⟨by omega,hp.hi,rfl,by omega,aVa _,hp.all,x0,x1,x2,by omega⟩,ct.succ (ct.of fun q k=>⟨?_,?_⟩)⟩
  ·simp only[go_sem,I1,eW,sj b0,Km]
  ·simp only[go_sem,RQ,fT,gB hs (w:=[97,110,100]) rfl,Km]
 |succ m ih=>
  intro a ns x hm h0 hp x0 x1 x2;obtain⟨p1,p2,p3,p4⟩:=hp;have b0:a≤4000000000000000000:=by omega
  cases Km:be ts a [97,110,100] with
  |true=>
   have bq:=bz Km;obtain⟨r,hi,hr⟩:=IH (a+1) ns (by omega) ⟨by omega,by omega,by omega,p4⟩
   cases r with
   |er c p=>
    refine⟨.er c p,hi,ct.succ (ct.succ (hr.tZ.mono fun q k e=>?_))⟩;obtain⟨e1,v,a',eg,d',e2⟩:=e;refine⟨?_,0,a',eg,d',?_⟩
    ·simp only[go_sem,I1,eW,sj b0,Km,bw,ae (show a<_ by omega),show dK q ts en ((a+1:Nat):Int) (d:Int) ns=_ from e1]
    ·simp only[go_sem,fT,gB hs (w:=[97,110,100]) rfl,Km,dM,ae (show a<_ by omega),show eY q ts ((a+1:Nat):Int) en ns (d:Int) 0 0=_ from e2,cf (show c≠0 from hi),Nj (show c≠0 from hi)]
   |ok y a1 d1 mO=>
    obtain⟨q1,q2,rfl,q3,q4,q5,q6,q7,q8,q9⟩:=hi;have ML:mO.length≤4000000:=by omega
    have xk:kd mO x=kd ns x:=qc q4 x0 x1;have ql:=q4.length_le;have Tw:nU mO mO.length (31,pl ts en a,0,[],[x,y]):=⟨by simp;omega,by simp[ce,xk,x2,q8],by simp⟩
    obtain⟨r,gi,gr⟩:=ih a1 (mO++[(31,pl ts en a,0,[],[x,y])]) (mO.length:Int) (by omega) (by omega) ⟨by omega,by omega,by simp;omega,q5.add Tw⟩ (by omega) (by simp;omega) (by rw[qD];rfl)
    refine⟨r,gi.from (by omega) (by simp;omega) (q4.trans (aJa _ _)) (by rw[nT,ye,qZ q4 x0 x1];simp;omega),ct.succ ((hr.tZ.and gr).mono fun q k e=>?_)⟩
    obtain⟨⟨e1,e2⟩,e4,e5⟩:=e;refine⟨?_,?_⟩
    ·simp only[go_sem,eW,sj b0,Km,bw,ae (show a<_ by omega),show dK q ts en ((a+1:Nat):Int) (d1:Int) ns=_ from e1,gX ML]
     exact e4
    ·simp only[go_sem,fT,gB hs (w:=[97,110,100]) rfl,Km,dM,ae (show a<_ by omega),show eY q ts ((a+1:Nat):Int) en ns (d1:Int) 0 0=_ from e2,fj ML]
     exact e5
  |false=>
   refine⟨.ok x a d ns,⟨by omega,p1,rfl,by omega,aVa _,p4,x0,x1,x2,by omega⟩,ct.succ (ct.of fun q k=>⟨?_,?_⟩)⟩
   ·simp only[go_sem,I1,eW,sj b0,Km]
   ·simp only[go_sem,RQ,fT,gB hs (w:=[97,110,100]) rfl,Km]
theorem PS(hs:oT ts)(hp:xI ts a d ns)(IH:∀ a' eg,a≤a'→xI ts a' d eg→LaB ts en a' d eg):BoB ts en a d ns:=by
 have h7:=hs.len;obtain⟨r,hi,hr⟩:=IH a ns (ava _) hp;obtain⟨p1,p2,p3,p4⟩:=hp;cases r with
 |er c p=>
  refine⟨.er c p,hi,Ev.succ ((hr.and ⟨1,fun k hk=>hk⟩).mono fun k e=>?_)⟩;obtain⟨⟨e1,v,a',eg,d',e2⟩,hk⟩:=e;obtain⟨j,rfl⟩:∃ j,k=j+1:=⟨k - 1,by omega⟩
  refine⟨?_,v,a',eg,d',?_⟩
  ·simp only[go_sem,t6,Ht (j+1),ky,show dK (j+1) ts en (a:Int) (d:Int) ns=_ from e1]
  ·simp only[go_sem,Cj (j+1),lM,show eY (j+1) ts (a:Int) en ns (d:Int) 0 0=_ from e2,fT,Nj (show c≠0 from hi)]
 |ok x a1 d1 mO=>
  obtain⟨q1,q2,rfl,q3,q4,q5,q6,q7,q8,q9⟩:=hi;obtain⟨r,gi,gr⟩:=Xq hs IH _ a1 mO x (ava _) (by omega) ⟨q2,p2,by omega,q5⟩ q6 q7 q8
  refine⟨r,gi.from (by omega) q3 q4 q9,Ev.succ ((hr.and gr.jN).mono fun k e=>?_)⟩
  obtain⟨⟨e1,e2⟩,e3,e4⟩:=e;cases r with
  |er c p=>
   obtain⟨v,a',eg,d',e4⟩:=e4;refine⟨?_,v,a',eg,d',?_⟩
   ·simp only[go_sem,t6,Ht,ky,show dK k ts en (a:Int) (d1:Int) ns=_ from e1]
    simp only[go_sem,show eW _ _ _ k k ts en (a1:Int) (d1:Int) mO x=_ from e3]
   ·simp only[go_sem,Cj,lM,show eY k ts (a:Int) en ns (d1:Int) 0 0=_ from e2,e4]
  |ok v a' d' eg=>
   refine⟨?_,?_⟩
   ·simp only[go_sem,t6,Ht,ky,show dK k ts en (a:Int) (d1:Int) ns=_ from e1]
    simp only[go_sem,show eW _ _ _ k k ts en (a1:Int) (d1:Int) mO x=_ from e3]
   ·simp only[go_sem,NQ,Cj,lM,show eY k ts (a:Int) en ns (d1:Int) 0 0=_ from e2,show fT _ _ _ k k ts en (a1:Int) mO (d1:Int) 0 0 x=_ from e4]
theorem Xu(hs:oT ts){a0:Nat}(IH:∀ a' eg,a0≤a'→xI ts a' d eg→BoB ts en a' d eg):∀ m a (ns:List ey) (x:Int),ts.length - a≤m→a0≤a→xI ts a d ns→0≤x→x<ns.length→sV (kd ns x)=true→
  ∃ r,Inv ts sV 0 a d ns r (wt ns x)∧ct fun q k=>I1 r (eX (dJ q) (eH q) (dK q) q k ts en (a:Int) (d:Int) ns x)∧
   RQ r (fU (dQ q) (gc q) (eY q) q k ts en (a:Int) ns (d:Int) 0 0 x):=by
 have h7:=hs.len;intro m;induction m with
 |zero=>
  intro a ns x hm h0 hp x0 x1 x2;have Km:be ts a [111,114]=false:=by
   cases h:be ts a [111,114] with
   |false=>rfl
   |true=>have:=bz h;omega
  have b0:a≤4000000000000000000:=by have:=hp.hi;omega
  refine⟨.ok x a d ns,⟨by omega,hp.hi,rfl,by omega,aVa _,hp.all,x0,x1,x2,by omega⟩,ct.succ (ct.of fun q k=>⟨?_,?_⟩)⟩
  ·simp only[go_sem,I1,eX,sj b0,Km]
  ·simp only[go_sem,RQ,fU,gB hs (w:=[111,114]) rfl,Km]
 |succ m ih=>
  intro a ns x hm h0 hp x0 x1 x2;obtain⟨p1,p2,p3,p4⟩:=hp;have b0:a≤4000000000000000000:=by omega
  cases Km:be ts a [111,114] with
  |true=>
   have bq:=bz Km;obtain⟨r,hi,hr⟩:=IH (a+1) ns (by omega) ⟨by omega,by omega,by omega,p4⟩
   cases r with
   |er c p=>
    refine⟨.er c p,hi,ct.succ (ct.succ (hr.tZ.mono fun q k e=>?_))⟩;obtain⟨e1,v,a',eg,d',e2⟩:=e;refine⟨?_,0,a',eg,d',?_⟩
    ·simp only[go_sem,I1,eX,sj b0,Km,bw,ae (show a<_ by omega),show eH q ts en ((a+1:Nat):Int) (d:Int) ns=_ from e1]
    ·simp only[go_sem,fU,gB hs (w:=[111,114]) rfl,Km,dM,ae (show a<_ by omega),show gc q ts ((a+1:Nat):Int) en ns (d:Int) 0 0=_ from e2,cf (show c≠0 from hi),Nj (show c≠0 from hi)]
   |ok y a1 d1 mO=>
    obtain⟨q1,q2,rfl,q3,q4,q5,q6,q7,q8,q9⟩:=hi;have ML:mO.length≤4000000:=by omega
    have xk:kd mO x=kd ns x:=qc q4 x0 x1;have ql:=q4.length_le;have Tw:nU mO mO.length (32,pl ts en a,0,[],[x,y]):=⟨by simp;omega,by simp[ce,xk,x2,q8],by simp⟩
    obtain⟨r,gi,gr⟩:=ih a1 (mO++[(32,pl ts en a,0,[],[x,y])]) (mO.length:Int) (by omega) (by omega) ⟨by omega,by omega,by simp;omega,q5.add Tw⟩ (by omega) (by simp;omega) (by rw[qD];rfl)
    refine⟨r,gi.from (by omega) (by simp;omega) (q4.trans (aJa _ _)) (by rw[nT,ye,qZ q4 x0 x1];simp;omega),ct.succ ((hr.tZ.and gr).mono fun q k e=>?_)⟩
    obtain⟨⟨e1,e2⟩,e4,e5⟩:=e;refine⟨?_,?_⟩
    ·simp only[go_sem,eX,sj b0,Km,bw,ae (show a<_ by omega),show eH q ts en ((a+1:Nat):Int) (d1:Int) ns=_ from e1,gX ML]
     exact e4
    ·simp only[go_sem,fU,gB hs (w:=[111,114]) rfl,Km,dM,ae (show a<_ by omega),show gc q ts ((a+1:Nat):Int) en ns (d1:Int) 0 0=_ from e2,fj ML]
     exact e5
  |false=>
   refine⟨.ok x a d ns,⟨by omega,p1,rfl,by omega,aVa _,p4,x0,x1,x2,by omega⟩,ct.succ (ct.of fun q k=>⟨?_,?_⟩)⟩
   ·simp only[go_sem,I1,eX,sj b0,Km]
   ·simp only[go_sem,RQ,fU,gB hs (w:=[111,114]) rfl,Km]
theorem PW(hs:oT ts)(hp:xI ts a d ns)(IH:∀ a' eg,a≤a'→xI ts a' d eg→BoB ts en a' d eg):CdB ts en a d ns:=by
 have h7:=hs.len;obtain⟨r,hi,hr⟩:=IH a ns (ava _) hp;obtain⟨p1,p2,p3,p4⟩:=hp;cases r with
 |er c p=>
  refine⟨.er c p,hi,Ev.succ ((hr.and ⟨1,fun k hk=>hk⟩).mono fun k e=>?_)⟩;obtain⟨⟨e1,v,a',eg,d',e2⟩,hk⟩:=e;obtain⟨j,rfl⟩:∃ j,k=j+1:=⟨k - 1,by omega⟩
  refine⟨?_,v,a',eg,d',?_⟩
  ·simp only[go_sem,t6,Hu (j+1),kz,show eH (j+1) ts en (a:Int) (d:Int) ns=_ from e1]
  ·simp only[go_sem,Ck (j+1),lP,show gc (j+1) ts (a:Int) en ns (d:Int) 0 0=_ from e2,fU,Nj (show c≠0 from hi)]
 |ok x a1 d1 mO=>
  obtain⟨q1,q2,rfl,q3,q4,q5,q6,q7,q8,q9⟩:=hi;obtain⟨r,gi,gr⟩:=Xu hs IH _ a1 mO x (ava _) (by omega) ⟨q2,p2,by omega,q5⟩ q6 q7 q8
  refine⟨r,gi.from (by omega) q3 q4 q9,Ev.succ ((hr.and gr.jN).mono fun k e=>?_)⟩
  obtain⟨⟨e1,e2⟩,e3,e4⟩:=e;cases r with
  |er c p=>
   obtain⟨v,a',eg,d',e4⟩:=e4;refine⟨?_,v,a',eg,d',?_⟩
   ·simp only[go_sem,t6,Hu,kz,show eH k ts en (a:Int) (d1:Int) ns=_ from e1]
    simp only[go_sem,show eX _ _ _ k k ts en (a1:Int) (d1:Int) mO x=_ from e3]
   ·simp only[go_sem,Ck,lP,show gc k ts (a:Int) en ns (d1:Int) 0 0=_ from e2,e4]
  |ok v a' d' eg=>
   refine⟨?_,?_⟩
   ·simp only[go_sem,t6,Hu,kz,show eH k ts en (a:Int) (d1:Int) ns=_ from e1]
    simp only[go_sem,show eX _ _ _ k k ts en (a1:Int) (d1:Int) mO x=_ from e3]
   ·simp only[go_sem,NQ,Ck,lP,show gc k ts (a:Int) en ns (d1:Int) 0 0=_ from e2,show fU _ _ _ k k ts en (a1:Int) mO (d1:Int) 0 0 x=_ from e4]
theorem Qn(hs:oT ts)(hp:xI ts a d ns)(IHl:∀ a' d' eg,a<a'→xI ts a' d' eg→LaB ts en a' d' eg)(IHc:∀ a' d' eg,a<a'→xI ts a' d' eg→CdB ts en a' d' eg):LaB ts en a d ns:=by
 have h7:=hs.len;have Ax:=hp;obtain⟨p1,p2,p3,p4⟩:=hp;have b0:a≤4000000000000000000:=by omega
 have b1:a+1≤4000000000000000000:=by omega
 have bn:ns.length≤4000000:=by omega
 cases vP:be ts a [110,111,116] with
 |true=>
  have bq:=bz vP;by_cases hd:d<10
  ·obtain⟨r,hi,hr⟩:=IHl (a+1) (d+1) ns (by omega) ⟨by omega,by omega,by omega,p4⟩
   cases r with
   |er c p=>
    refine⟨.er c p,hi,Ev.succ (hr.mono fun k e=>?_)⟩;obtain⟨e1,v,a',eg,d',e2⟩:=e;refine⟨?_,0,a',eg,cm (d' - 1),?_⟩
    ·simp only[go_sem,t6,jQ,cA,bw,reduceIte,aG b0,gC p2,vP,hd,show dK k ts en ((a+1:Nat):Int) ((d+1:Nat):Int) ns=_ from e1]
    ·simp only[go_sem,jY,dy,dM,reduceIte,af hs (w:=[110,111,116]) rfl b0,lJ p2,vP,hd,show eY k ts ((a+1:Nat):Int) en ns ((d+1:Nat):Int) 0 0=_ from e2,cf (show c≠0 from hi)]
   |ok v a' d' eg=>
    obtain⟨q1,q2,rfl,q3,q4,q5,q6,q7,q8,q9⟩:=hi;have ML:eg.length≤4000000:=by omega
    refine⟨.ok _ a' d (eg++[(33,pl ts en a,0,[],[v])]),kF (by omega) (by omega) (by omega) q4 q5 ⟨by simp;omega,by simpa[ce] using q8,by simp⟩ rfl (by rw[oJ];exact q9),Ev.succ (hr.mono fun k e=>⟨?_,?_⟩)⟩
    ·simp only[go_sem,t6,jQ,cA,bw,reduceIte,aG b0,gC p2,gX ML,vP,hd,show dK k ts en ((a+1:Nat):Int) ((d+1:Nat):Int) ns=_ from e.1,kn (show d≤_ by omega)]
    ·simp only[go_sem,NQ,jY,dy,dM,reduceIte,af hs (w:=[110,111,116]) rfl b0,lJ p2,fj ML,vP,hd,show eY k ts ((a+1:Nat):Int) en ns ((d+1:Nat):Int) 0 0=_ from e.2,kn (show d≤_ by omega)]
  ·refine⟨.er 7 (pl ts en (a+1)),(show(7:Int)≠0 by decide),Ev.succ (Ev.of fun k=>⟨?_,0,a+1,ns,((d+1:Nat):Int),?_⟩)⟩
   ·simp only[go_sem,t6,jQ,cA,bw,reduceIte,aG b0,gC p2,vP,hd]
   ·simp only[go_sem,jY,dy,dM,reduceIte,af hs (w:=[110,111,116]) rfl b0,lJ p2,vP,hd]
 |false=>
 cases rh:be ts a [91] with
 |true=>
  have bq:=bz rh;by_cases hd:d<10
  ·obtain⟨r,hi,hr⟩:=IHc (a+1) (d+1) ns (by omega) ⟨by omega,by omega,by omega,p4⟩
   cases r with
   |er c p=>
    refine⟨.er c p,hi,Ev.succ (hr.mono fun k e=>?_)⟩;obtain⟨e1,v,a',eg,d',e2⟩:=e;refine⟨?_,v,a',eg,cm (d' - 1),?_⟩
    ·simp only[go_sem,t6,jQ,cA,bw,reduceIte,aG b0,gC p2,vP,rh,hd,show dJ k ts en ((a+1:Nat):Int) ((d+1:Nat):Int) ns=_ from e1]
    ·simp only[go_sem,jY,dy,dM,reduceIte,af hs (w:=[110,111,116]) rfl b0,af hs (w:=[91]) rfl b0,lJ p2,vP,rh,hd,show dQ k ts ((a+1:Nat):Int) en ns ((d+1:Nat):Int) 0 0=_ from e2,fB (show c≠0 from hi)]
   |ok v a' d' eg=>
    obtain⟨q1,q2,rfl,q3,q4,q5,q6,q7,q8,q9⟩:=hi;have b4:a'≤4000000000000000000:=by omega
    cases mg:be ts a' [93] with
    |true=>
     have Hr:=bz mg;refine⟨.ok v (a' + 1) d eg,⟨by omega,by omega,rfl,by omega,q4,q5,q6,q7,q8,q9⟩,Ev.succ (hr.mono fun k e=>⟨?_,?_⟩)⟩
     ·simp only[go_sem,t6,jQ,cA,bw,reduceIte,aG b0,bC b4,gC p2,vP,rh,hd,mg,show dJ k ts en ((a+1:Nat):Int) ((d+1:Nat):Int) ns=_ from e.1,kn (show d≤_ by omega)]
     ·simp only[go_sem,NQ,jY,dy,dM,reduceIte,af hs (w:=[110,111,116]) rfl b0,af hs (w:=[91]) rfl b0,lJ p2,aI hs (w:=[93]) rfl b4,vP,rh,hd,mg,show dQ k ts ((a+1:Nat):Int) en ns ((d+1:Nat):Int) 0 0=_ from e.2,kn (show d≤_ by omega)]
    |false=>
     refine⟨.er 6 (pl ts en a'),(show(6:Int)≠0 by decide),Ev.succ (hr.mono fun k e=>⟨?_,v,a',eg,d,?_⟩)⟩
     ·simp only[go_sem,t6,jQ,cA,bw,reduceIte,aG b0,bC b4,gC p2,vP,rh,hd,mg,show dJ k ts en ((a+1:Nat):Int) ((d+1:Nat):Int) ns=_ from e.1]
     ·simp only[go_sem,jY,dy,dM,reduceIte,af hs (w:=[110,111,116]) rfl b0,af hs (w:=[91]) rfl b0,lJ p2,aI hs (w:=[93]) rfl b4,vP,rh,hd,mg,show dQ k ts ((a+1:Nat):Int) en ns ((d+1:Nat):Int) 0 0=_ from e.2,kn (show d≤_ by omega)]
  ·refine⟨.er 7 (pl ts en (a+1)),(show(7:Int)≠0 by decide),Ev.succ (Ev.of fun k=>⟨?_,0,a+1,ns,((d+1:Nat):Int),?_⟩)⟩
   ·simp only[go_sem,t6,jQ,cA,bw,reduceIte,aG b0,gC p2,vP,rh,hd]
   ·simp only[go_sem,jY,dy,dM,reduceIte,af hs (w:=[110,111,116]) rfl b0,af hs (w:=[91]) rfl b0,lJ p2,vP,rh,hd]
 |false=>
 cases hnu:be ts a [110,117,108,108] with
 |true=>
  have bq:=bz hnu;cases hn:tr ts (a+1) 1 with
  |true=>
   have bq:=jE hn;refine⟨.ok _ (a+1+1) d (ns++[(34,pl ts en a,0,(tk ts (a+1)).2.2.1,[])]),kF (by omega) (by omega) (by omega) (aVa _) p4 (rZ rfl (by decide)) rfl (by simp[jz]),Ev.succ (Ev.of fun k=>⟨?_,?_⟩)⟩
   ·simp only[go_sem,t6,jQ,cA,bw,reduceIte,cT b1,aG b0,gX bn,vP,rh,hnu,hn]
   ·simp only[go_sem,NQ,jY,dy,dM,reduceIte,af hs (w:=[110,111,116]) rfl b0,af hs (w:=[91]) rfl b0,af hs (w:=[110,117,108,108]) rfl b0,df b1,fj bn,vP,rh,hnu,hn]
  |false=>
   refine⟨.er 6 (pl ts en (a+1)),(show(6:Int)≠0 by decide),Ev.succ (Ev.of fun k=>⟨?_,0,a+1,ns,d,?_⟩)⟩
   ·simp only[go_sem,t6,jQ,cA,bw,reduceIte,cT b1,aG b0,vP,rh,hnu,hn]
   ·simp only[go_sem,jY,dy,dM,reduceIte,af hs (w:=[110,111,116]) rfl b0,af hs (w:=[91]) rfl b0,af hs (w:=[110,117,108,108]) rfl b0,df b1,cf (show(6:Int)≠0 by decide),vP,rh,hnu,hn]
 |false=>
 obtain⟨r,hi,hr⟩:=BE (en:=en) hs Ax;cases r with
 |er c p=>
  have hc:c≠0:=hi;refine⟨.er c p,hi,Ev.succ (hr.mono fun k e=>?_)⟩;obtain⟨e1,v,a',eg,d',e2⟩:=e;refine⟨?_,0,a',eg,d',?_⟩
  ·simp only[go_sem,t6,jQ,cA,bw,reduceIte,aG b0,vP,rh,hnu,show ai k ts en (a:Int) (d:Int) ns 1=_ from e1]
  ·simp only[go_sem,jY,dy,dM,reduceIte,af hs (w:=[110,111,116]) rfl b0,af hs (w:=[91]) rfl b0,af hs (w:=[110,117,108,108]) rfl b0,vP,rh,hnu,show am k ts (a:Int) en ns (d:Int) 0 0 1=_ from e2,Y6 hc,Uo,show ID []=0 from rfl,J9 hc]
 |ok x a1 d1 mO=>
  obtain⟨q1,q2,rfl,q3,q4,q5,q6,q7,q8,q9⟩:=hi;by_cases hz:ID (sg ts a1)=0
  ·refine⟨.er 6 (pl ts en a1),(show(6:Int)≠0 by decide),Ev.succ ((hr.and (ZC (tk ts a1).2.2.1)).mono fun k e=>⟨?_,0,a1,mO,d1,?_⟩)⟩
   ·by_cases bq:a1<ts.length
    ·simp only[go_sem,t6,jQ,cA,aa,bw,reduceIte,aG b0,vP,rh,hnu,show ai k ts en (a:Int) (d1:Int) ns 1=_ from e.1.1,Q3,bq,bj (il bq),e.2,U3 hs bq,hz,Aj]
    ·simp only[go_sem,t6,jQ,cA,aa,bw,reduceIte,aG b0,vP,rh,hnu,show ai k ts en (a:Int) (d1:Int) ns 1=_ from e.1.1,Q3,bq,Aj]
   ·simp only[go_sem,jY,dy,dM,reduceIte,af hs (w:=[110,111,116]) rfl b0,af hs (w:=[91]) rfl b0,af hs (w:=[110,117,108,108]) rfl b0,vP,rh,hnu,show am k ts (a:Int) en ns (d1:Int) 0 0 1=_ from e.1.2,HK,Uo,hz,KJ]
  ·have bq:a1<ts.length:=by
    by_cases h:a1<ts.length
    ·exact h
    ·rw[VJ h] at hz;exact absurd rfl hz
   have hz':(ID (sg ts a1)==0)=false:=Q6.2 hz;obtain⟨r,gi,gr⟩:=BE (en:=en) hs (a:=a1+1) (d:=d1) (ns:=mO) ⟨by omega,p2,by omega,q5⟩
   cases r with
   |er c p=>
    have hc:c≠0:=gi;refine⟨.er c p,gi,Ev.succ (((hr.and (ZC (tk ts a1).2.2.1)).and gr).mono fun k e=>?_)⟩;obtain⟨⟨⟨e1,e2⟩,e3⟩,e4,v,a',eg,d',e5⟩:=e;refine⟨?_,0,a',eg,d',?_⟩
    ·simp only[go_sem,t6,jQ,cA,aa,bw,reduceIte,aG b0,vP,rh,hnu,show ai k ts en (a:Int) (d1:Int) ns 1=_ from e1,Q3,bq,bj (il bq),e3,U3 hs bq,hz',ae (show a1<_ by omega),show ai k ts en ((a1+1:Nat):Int) (d1:Int) mO 1=_ from e4]
    ·simp only[go_sem,jY,dy,dM,reduceIte,af hs (w:=[110,111,116]) rfl b0,af hs (w:=[91]) rfl b0,af hs (w:=[110,117,108,108]) rfl b0,vP,rh,hnu,show am k ts (a:Int) en ns (d1:Int) 0 0 1=_ from e2,HK,Uo,hz',ae (show a1<_ by omega),show am k ts ((a1+1:Nat):Int) en mO (d1:Int) 0 0 1=_ from e5,cf hc]
   |ok y a2 d2 pY=>
    obtain⟨g1,g2,rfl,g3,g4,g5,g6,g7,g8,g9⟩:=gi;have ML:pY.length≤4000000:=by omega
    have xk:kd pY x=kd mO x:=qc g4 q6 q7;have ql:=g4.length_le;refine⟨.ok _ a2 d2 (pY++[(30,pl ts en a1,ID (sg ts a1),[],[x,y])]),kF (by omega) (by omega) (by omega) (q4.trans g4) g5 ⟨by simp;omega,by simp[ce,xk,q8,g8],by simp⟩ rfl (by rw[ye,qZ g4 q6 q7];omega),Ev.succ (((hr.and (ZC (tk ts a1).2.2.1)).and gr).mono fun k e=>?_)⟩
    obtain⟨⟨⟨e1,e2⟩,e3⟩,e4,e5⟩:=e;refine⟨?_,?_⟩
    ·simp only[go_sem,t6,jQ,cA,aa,bw,reduceIte,aG b0,vP,rh,hnu,show ai k ts en (a:Int) (d2:Int) ns 1=_ from e1,Q3,bq,bj (il bq),e3,U3 hs bq,hz',ae (show a1<_ by omega),show ai k ts en ((a1+1:Nat):Int) (d2:Int) mO 1=_ from e4,gX ML]
    ·simp only[go_sem,NQ,jY,dy,dM,reduceIte,af hs (w:=[110,111,116]) rfl b0,af hs (w:=[91]) rfl b0,af hs (w:=[110,117,108,108]) rfl b0,vP,rh,hnu,show am k ts (a:Int) en ns (d2:Int) 0 0 1=_ from e2,HK,Uo,hz',ae (show a1<_ by omega),show am k ts ((a1+1:Nat):Int) en mO (d2:Int) 0 0 1=_ from e5,fj ML]
theorem aeK(hs:oT ts):∀ m a,ts.length - a≤m→∀ a',a≤a'→∀ d ns,xI ts a' d ns→LaB ts en a' d ns∧CdB ts en a' d ns:=by
 intro m;induction m with
 |zero=>
  intro a hm a' ha d ns hp;have key:∀ a',a≤a'→∀ d ns,xI ts a' d ns→LaB ts en a' d ns:=fun a' ha d ns hp=>
   Qn hs hp (fun a2 d2 pY h2 p2=>by have:=p2.hi;have:=hp.hi;omega) (fun a2 d2 pY h2 p2=>by have:=p2.hi;have:=hp.hi;omega)
  exact⟨key a' ha d ns hp,PW hs hp fun a2 pY h2 p2=>PS hs p2 fun a3 Mn h3 p3=>key a3 (by omega) d Mn p3⟩
 |succ m ih=>
  intro a hm a' ha d ns hp;have key:∀ a',a≤a'→∀ d ns,xI ts a' d ns→LaB ts en a' d ns:=fun a' ha d ns hp=>
   Qn hs hp (fun a2 d2 pY h2 p2=>(ih (a+1) (by omega) a2 (by omega) d2 pY p2).1) (fun a2 d2 pY h2 p2=>(ih (a+1) (by omega) a2 (by omega) d2 pY p2).2)
  exact⟨key a' ha d ns hp,PW hs hp fun a2 pY h2 p2=>PS hs p2 fun a3 Mn h3 p3=>key a3 (by omega) d Mn p3⟩
theorem YS(hs:oT ts)(hp:xI ts a d ns):CdB ts en a d ns:=(aeK hs _ a (ava _) a (ava _) d ns hp).2
end
end Go.Fx.R5
namespace Go.Fx.R5
open Go Go.Fx
def QR(P:Int→Nat→Nat→List ey→Prop):Res→Prop | .ok v a d ns=>P v a d ns | .er c _=>c≠0
def BS(P:Int→Nat→Nat→List ey→Prop)(i:Nat→IT)(s:Nat→ST):Prop:=∃ r,QR P r∧Ev fun k=>t6 r (i k)∧NQ r (s k)
def fv(c p:Int)(o:ST):Prop:=match o with|some (_,a,_,_,c',p',_)=>c' = c∧p' = p∧0≤a|none=>False
theorem fv.wh{c p:Int}{o:ST}(h:fv c p o):∃(v:Int) (a:Nat) (ns:List ey) (d:Int),o=some (v,(a:Int),ns,d,c,p,()):=by
 match o,h with
 |some (v,a,ns,d,c',p',u),h'=>obtain⟨rfl,rfl,h0⟩:=h';exact⟨v,a.toNat,ns,d,by rw[aMa h0]⟩
section
variable {P P1:Int→Nat→Nat→List ey→Prop} {i:Nat→IT} {s:Nat→ST} {c p:Int}
theorem BS.of{ts:List zn}{C:Int→Bool}{s0 a d:Nat}{ns:List ey}(h:SF ts C s0 a d ns i s):BS (xH ts C s0 a d ns) i s:=by obtain⟨r,hi,hr⟩:=h;exact⟨r,by cases r<;>exact hi,hr⟩
theorem BS.to{ts:List zn}{C:Int→Bool}{s0 a d:Nat}{ns:List ey}(h:BS (xH ts C s0 a d ns) i s):SF ts C s0 a d ns i s:=by obtain⟨r,hi,hr⟩:=h;exact⟨r,by cases r<;>exact hi,hr⟩
theorem BS.mono(h:BS P1 i s)(g:∀ v a d ns,P1 v a d ns→P v a d ns):BS P i s:=by
 obtain⟨r,hi,hr⟩:=h;refine⟨r,?_,hr⟩;cases r with
 |ok v a d ns=>exact g _ _ _ _ hi
 |er c p=>exact hi
theorem BS.succ(h:BS P (fun k=>i (k+1)) (fun k=>s (k+1))):BS P i s:=by obtain⟨r,hi,hr⟩:=h;exact⟨r,hi,Ev.succ hr⟩
theorem BS.ok{v:Int}{a d:Nat}{ns:List ey}(h:P v a d ns):BS P (fun _=>some (.inl (v,(a:Int),(d:Int),ns,()))) (fun _=>some (v,(a:Int),ns,(d:Int),0,0,())):=
 ⟨.ok v a d ns,h,Ev.of fun k=>⟨rfl,rfl⟩⟩
theorem BS.er(hc:c≠0)(h:Ev fun k=>i k=some (.inr (c,p,()))∧fv c p (s k)):BS P i s:=
 ⟨.er c p,hc,h.mono fun _ e=>⟨e.1,e.2.wh⟩⟩
theorem BS.bind{f:Nat→(Int×Int×Int×List ey×Unit)⊕(Int×Int×Unit)→IT}{g:Nat→Int×Int×List ey×Int×Int×Int×Unit→ST}(h:BS P1 i s)
  (hok:∀(v:Int) (a d:Nat) (ns:List ey),P1 v a d ns→BS P (fun k=>f k (.inl (v,(a:Int),(d:Int),ns,()))) (fun k=>g k (v,(a:Int),ns,(d:Int),0,0,())))
  (her:∀ c p:Int,c≠0→Ev fun k=>∀(v:Int) (a:Nat) (ns:List ey) (d:Int),f k (.inr (c,p,()))=some (.inr (c,p,()))∧fv c p (g k (v,(a:Int),ns,d,c,p,()))):
  BS P (fun k=>(i k).bind (f k)) (fun k=>(s k).bind (g k)):=by
 obtain⟨r,hi,hr⟩:=h;cases r with
 |ok v a d ns=>obtain⟨r2,hi2,hr2⟩:=hok v a d ns hi;refine⟨r2,hi2,(hr.and hr2).mono fun k e=>?_⟩;obtain⟨⟨e1,e2⟩,e3⟩:=e;have e1:i k=_:=e1;have e2:s k=_:=e2;simpa only[e1,e2,bOa] using e3
 |er c p=>refine BS.er (p:=p) hi ((hr.and (her c p hi)).mono fun k e=>?_);obtain⟨⟨e1,v,a,ns,d,e2⟩,e3⟩:=e;have e1:i k=_:=e1;simp only[go_sem,e1,e2];exact e3 v a ns d
end
section
variable {ts:List zn} {en:Int} {c p:Int} {a d:Nat} {ns:List ey}
theorem sK(h:a<ts.length):pl ts en a=(tk ts a).2.1:=by simp only[pl,il h]
def stp(ts:List zn)(C:Int→Bool)(s a d:Nat)(ns:List ey):=xH ts C s a d ns
theorem ff(hc:c≠0):Ev fun k=>(∀(a:Nat) (ns:List ey) (d:Int),am k ts (a:Int) en ns d c p 1=some (0,(a:Int),ns,d,c,p,()))∧
  (∀(a:Nat) (ns:List ey) (d:Int),dQ k ts (a:Int) en ns d c p=some (0,(a:Int),ns,d,c,p,())):=
 (fl1 hc).and (Y5 hc)
theorem ff1(hc:c≠0):Ev fun k=>∃ j,k=j+1∧(∀(a:Nat) (ns:List ey) (d:Int),am (j+1) ts (a:Int) en ns d c p 1=some (0,(a:Int),ns,d,c,p,()))∧
  (∀(a:Nat) (ns:List ey) (d:Int),dQ (j+1) ts (a:Int) en ns d c p=some (0,(a:Int),ns,d,c,p,())):=
 ((ff hc).and ⟨1,fun k hk=>hk⟩).mono fun k e=>⟨k - 1,by omega,by rw[show k - 1+1=k by omega];exact e.1⟩
theorem F3(hs:oT ts)(hp:xI ts a d ns):BS (xH ts Bc 1 a d ns) (fun k=>ai k ts en (a:Int) (d:Int) ns 1) (fun k=>am k ts (a:Int) en ns (d:Int) 0 0 1):=BS.of (BE hs hp)
theorem Yv(hs:oT ts)(hp:xI ts a d ns):BS (xH ts sV 1 a d ns) (fun k=>dJ k ts en (a:Int) (d:Int) ns) (fun k=>dQ k ts (a:Int) en ns (d:Int) 0 0):=BS.of (YS hs hp)
inductive OT|ok (l:XI) (a:Nat) (ns:List ey)|er (c p:Int)
structure iO(C:Int→Bool)(ns:List ey)(l:XI):Prop where
 v:∀ j∈l,0≤j∧j<(ns.length:Int)
 c:∀ j∈l,C (kd ns j)=true
theorem iO.up{C:Int→Bool}{ns eg:List ey}{l:XI}(h:iO C ns l)(hp:ns <+: eg):iO C eg l:=by
 have:=hp.length_le;refine⟨fun j hj=>?_,fun j hj=>?_⟩
 ·have:=h.v j hj;omega
 ·have:=h.v j hj
  rw[qc hp this.1 this.2];exact h.c j hj
theorem iO.add{C:Int→Bool}{ns:List ey}{l:XI}{v:Int}(h:iO C ns l)(h0:0≤v)(h1:v<ns.length)(hc:C (kd ns v)=true):iO C ns (l++[v]):=by
 refine⟨fun j hj=>?_,fun j hj=>?_⟩
 ·rcases ala.1 hj with hj|hj
  ·exact h.v j hj
  ·rw[Q7.1 hj];exact⟨h0,h1⟩
 ·rcases ala.1 hj with hj|hj
  ·exact h.c j hj
  ·rw[Q7.1 hj];exact hc
theorem iO.nil{C:Int→Bool}{ns:List ey}:iO C ns []:=⟨by simp,by simp⟩
theorem cv{l:XI}{v:Int}(h:l.length≤4000000):lA l [v]=some (l++[v]):=pZ (by simp;omega)
def ZF(u:XI)(r:OT)(d:Int)(o:Option ((XI×Int×Int×List ey×Unit)⊕(Int×Int×Unit))):Prop:=match r with
 |.ok l a ns=>o=some (.inl (u++l,(a:Int),d,ns,()))
 |.er c p=>o=some (.inr (c,p,()))
def Pn(u:XI)(r:OT)(d:Int)(o:Option (Int×List ey×Int×Int×Int×XI×Unit)):Prop:=match r with
 |.ok l a ns=>o=some ((a:Int),ns,d,0,0,u++l,())
 |.er c p=>∃(l:XI) (a:Nat) (ns:List ey) (d:Int),o=some ((a:Int),ns,d,c,p,l,())
def p6(ts:List zn)(en:Int)(w:ak):OT→OT
 |.ok l a ns=>if be ts a w=true then .ok l a ns else .er 6 (pl ts en a)
 |.er c p=>.er c p
structure LOk(ts:List zn)(C:Int→Bool)(a:Nat)(ns:List ey)(n w0:Nat)(l':XI)(a':Nat)(eg:List ey):Prop where
 lo:a≤a'
 hi:a'≤ts.length
 ln:eg.length+2 * a≤ns.length+2 * a'
 pre:ns <+: eg
 all:jl eg
 cE:iO C eg l'
 len:l'.length+a≤n+a'
 w:jz eg l' + ns.length≤eg.length+w0
def OS(ts:List zn)(C:Int→Bool)(a:Nat)(ns:List ey)(n w0:Nat):OT→Prop
 |.ok l' a' eg=>LOk ts C a ns n w0 l' a' eg
 |.er c _=>c≠0
theorem OS.from{C:Int→Bool}{a a1 n n1 w0 w1:Nat}{ns mO:List ey}{r:OT}(h:OS ts C a1 mO n1 w1 r)(lo:a≤a1)(ln:mO.length+2 * a≤ns.length+2 * a1)(pre:ns <+: mO)(hn:n1+a≤n+a1)(hw:w1+ns.length≤mO.length+w0):OS ts C a ns n w0 r:=by
 cases r with
 |er c p=>exact h
 |ok l' a' eg=>obtain⟨h1,h2,h3,h4,h5,h6,h7,h8⟩:=h;exact⟨by omega,h2,by omega,pre.trans h4,h5,h6,by omega,by omega⟩
theorem Xm(hs:oT ts){u:Int}(hd:d≤10):∀ m a (ns:List ey) (l:XI),ts.length - a≤m→xI ts a d ns→iO Bc ns l→1≤l.length→l.length≤1+a→
  ∃ r,OS ts Bc a ns l.length (jz ns l) r∧ct fun q k=>ZF [u] r d (cW q k ts en (u::l) (a:Int) (d:Int) ns)∧
   Pn [u] (p6 ts en [41] r) d (bx q k ts en (a:Int) ns (d:Int) 0 0 (u::l)):=by
 have h7:=hs.len;intro m;induction m with
 |zero=>
  intro a ns l hm hp hk hl hl2;have Gb:be ts a [44]=false:=by
   cases h:be ts a [44] with
   |false=>rfl
   |true=>have:=bz h;omega
  have mg:be ts a [41]=false:=by
   cases h:be ts a [41] with
   |false=>rfl
   |true=>have:=bz h;omega
  have b0:a≤4000000000000000000:=by have:=hp.hi;omega
  have bl:((u::l).length:Int) > 1:=by simp;omega
  have bk:(u::l).length≤4000000:=by have:=hp.hi;simp;omega
  refine⟨.ok l a ns,⟨by omega,hp.hi,by omega,aVa _,hp.all,hk,by omega,by omega⟩,ct.succ (ct.succ ((fl1 (ts:=ts) (en:=en) (c:=6) (p:=pl ts en a) (by decide)).tZ.mono fun q k e=>⟨?_,?_⟩))⟩
  ·simp only[go_sem,ZF,a2a,aQa,cW,aG b0,Gb,reduceIte]
  ·simp only[go_sem,p6,mg,reduceIte]
   refine⟨u::(l++[0]),a,ns,d,?_⟩;rw[bx];simp only[go_sem,aa,gB hs (w:=[41]) rfl,mg,bl,aI hs (w:=[44]) rfl b0,Gb,reduceIte,e,cv bk];rw[bx];simp only[go_sem,aa,show((6:Int)==0)=false from rfl,a2a]
 |succ m ih=>
  intro a ns l hm hp hk hl hl2;obtain⟨p1,p2,p3,p4⟩:=hp;have b0:a≤4000000000000000000:=by omega
  have bl:((u::l).length:Int) > 1:=by simp;omega
  have bk:(u::l).length≤4000000:=by simp;omega
  have bk1:l.length≤4000000:=by omega
  cases Gb:be ts a [44] with
  |true=>
   have mg:be ts a [41]=false:=bc Gb rfl;have bq:=bz Gb;obtain⟨r,hi,hr⟩:=BE (en:=en) hs (a:=a+1) (d:=d) (ns:=ns) ⟨by omega,p2,by omega,p4⟩
   cases r with
   |er c p=>
    have hc:c≠0:=hi;refine⟨.er c p,hi,ct.succ (ct.succ (hr.tZ.mono fun q k e=>?_))⟩;obtain⟨e1,v,a',eg,d',e2⟩:=e;refine⟨?_,u::(l++[v]),a',eg,d',?_⟩
    ·simp only[go_sem,ZF,cW,aG b0,Gb,reduceIte,show ai q ts en ((a+1:Nat):Int) (d:Int) ns 1=_ from e1]
    ·rw[bx]
     simp only[go_sem,aa,gB hs (w:=[41]) rfl,mg,bl,aI hs (w:=[44]) rfl b0,Gb,reduceIte,show am q ts ((a+1:Nat):Int) en ns (d:Int) 0 0 1=_ from e2,cv bk]
     rw[bx];simp only[go_sem,aa,Q6.2 hc,a2a]
   |ok v a1 d1 mO=>
    obtain⟨q1,q2,rfl,q3,q4,q5,q6,q7,q8,q9⟩:=hi;obtain⟨r,gi,gr⟩:=ih a1 mO (l++[v]) (by omega) ⟨q2,p2,by omega,q5⟩ ((hk.up q4).add q6 q7 q8) (by simp) (by simp;omega)
    refine⟨r,gi.from (by omega) (by omega) q4 (by simp;omega) (by rw[qd,oJ,pz q4 hk.v];omega),ct.succ ((hr.tZ.and gr).mono fun q k e=>?_)⟩
    obtain⟨⟨e1,e2⟩,e3,e4⟩:=e;refine⟨?_,?_⟩
    ·simp only[go_sem,cW,aG b0,Gb,reduceIte,show ai q ts en ((a+1:Nat):Int) (d1:Int) ns 1=_ from e1,cv bk,a2a]
     exact e3
    ·simp only[go_sem,bx,aa,gB hs (w:=[41]) rfl,mg,bl,aI hs (w:=[44]) rfl b0,Gb,reduceIte,show am q ts ((a+1:Nat):Int) en ns (d1:Int) 0 0 1=_ from e2,cv bk,a2a]
     exact e4
  |false=>
   cases mg:be ts a [41] with
   |true=>
    refine⟨.ok l a ns,⟨by omega,p1,by omega,aVa _,p4,hk,by omega,by omega⟩,ct.succ (ct.of fun q k=>⟨?_,?_⟩)⟩
    ·simp only[go_sem,ZF,a2a,aQa,cW,aG b0,Gb,reduceIte]
    ·simp only[go_sem,p6,mg,reduceIte,Pn,a2a,aQa,bx,aa,gB hs (w:=[41]) rfl]
   |false=>
    refine⟨.ok l a ns,⟨by omega,p1,by omega,aVa _,p4,hk,by omega,by omega⟩,ct.succ (ct.succ ((fl1 (ts:=ts) (en:=en) (c:=6) (p:=pl ts en a) (by decide)).tZ.mono fun q k e=>⟨?_,?_⟩))⟩
    ·simp only[go_sem,ZF,a2a,aQa,cW,aG b0,Gb,reduceIte]
    ·simp only[go_sem,p6,mg,reduceIte]
     refine⟨u::(l++[0]),a,ns,d,?_⟩;rw[bx];simp only[go_sem,aa,gB hs (w:=[41]) rfl,mg,bl,aI hs (w:=[44]) rfl b0,Gb,reduceIte,e,cv bk];rw[bx];simp only[go_sem,aa,show((6:Int)==0)=false from rfl,a2a]
end
end Go.Fx.R5
namespace Go.Fx.R5
open Go Go.Fx
section
variable {ts:List zn} {en:Int} {a d:Nat} {ns:List ey}
theorem ahj{k:Int}(h1:9≤k)(h2:k≤22):Po k=true:=by simp[Po,h1,h2]
theorem aaF(hs:oT ts)(hp:xI ts a d ns)(hn:tr ts a 1=true):BS (xH ts Po 1 a d ns) (fun k=>cp k ts en (a:Int) (d:Int) ns) (fun k=>dU k ts (a:Int) en ns (d:Int) 0 0):=by
 have h7:=hs.len;obtain⟨p1,p2,p3,p4⟩:=hp;have bq:=jE hn;have uw:pl ts en a=(tk ts a).2.1:=sK bq;have b0:a≤4000000000000000000:=by omega
 have b1:a+1≤4000000000000000000:=by omega
 have b2:a+1+1≤4000000000000000000:=by omega
 have b3:a+1+1+1≤4000000000000000000:=by omega
 have b4:a+1+1+1+1≤4000000000000000000:=by omega
 have bn:ns.length≤4000000:=by omega
 cases rh:be ts (a+1) [91] with
 |true=>
  have hl0:=bz rh;simp only[go_sem,cp,dU,aa,dM,reduceIte,cT b0,hn,aG b1,df b0,uw,af hs (w:=[91]) rfl b1,rh,show be ts (a+1) [61]=false from bc rh rfl,show be ts (a+1) [43,61]=false from bc rh rfl]
  refine BS.bind (F3 hs (a:=a+1+1) ⟨by omega,p2,by omega,p4⟩) (fun x1 a1 d1 mO g1=>?_) (fun c p hc=>(ff (ts:=ts) (en:=en) (p:=p) hc).mono fun k e v a' eg d'=>⟨rfl,by simp only[go_sem,fv,fB hc,cf hc,e.1,aNa,ama]⟩)
  obtain⟨q11,q12,rfl,q13,L4,PG,q16,q17,OP,q19⟩:=g1;have c1:a1≤4000000000000000000:=by omega
  have OU:a1+1≤4000000000000000000:=by omega
  have m1:mO.length≤4000000:=by omega
  cases h1:be ts (a1) [93] with
  |false=>simp only[go_sem,bC c1,aI hs (w:=[93]) rfl c1,h1,reduceIte];exact BS.er (c:=6) (p:=pl ts en (a1)) (by decide) ((ff (ts:=ts) (en:=en) (c:=6) (p:=pl ts en (a1)) (by decide)).mono fun k e=>⟨rfl,by have hc:(6:Int)≠0:=(by decide);simp only[go_sem,fv,fB hc,cf hc,e.1,aNa,ama]⟩)
  |true=>
  have XP:=bz h1;simp only[go_sem,bC c1,aI hs (w:=[93]) rfl c1,h1,reduceIte];cases h2:be ts (a1+1) [61] with
  |false=>simp only[go_sem,bC OU,aI hs (w:=[61]) rfl OU,h2,reduceIte];exact BS.er (c:=6) (p:=pl ts en (a1+1)) (by decide) ((ff (ts:=ts) (en:=en) (c:=6) (p:=pl ts en (a1+1)) (by decide)).mono fun k e=>⟨rfl,by have hc:(6:Int)≠0:=(by decide);simp only[go_sem,fv,fB hc,cf hc,e.1,aNa,ama]⟩)
  |true=>
  have Tu:=bz h2;simp only[go_sem,bC OU,aI hs (w:=[61]) rfl OU,h2,reduceIte];refine BS.bind (F3 hs (a:=a1+1+1) ⟨by omega,p2,by omega,PG⟩) (fun x2 a2 d2 pY g2=>?_) (fun c p hc=>(ff (ts:=ts) (en:=en) (p:=p) hc).mono fun k e v a' eg d'=>⟨rfl,by simp only[go_sem,fv,fB hc,cf hc,aNa,ama]⟩)
  obtain⟨q21,q22,rfl,q23,Oo,q25,q26,q27,q28,q29⟩:=g2;have c2:a2≤4000000000000000000:=by omega
  have c21:a2+1≤4000000000000000000:=by omega
  have m2:pY.length≤4000000:=by omega
  cases h3:be ts (a2) [59] with
  |false=>simp only[go_sem,bC c2,aI hs (w:=[59]) rfl c2,h3,reduceIte];exact BS.er (c:=6) (p:=pl ts en (a2)) (by decide) ((ff (ts:=ts) (en:=en) (c:=6) (p:=pl ts en (a2)) (by decide)).mono fun k e=>⟨rfl,by have hc:(6:Int)≠0:=(by decide);simp only[go_sem,fv,cf hc,aNa,ama]⟩)
  |true=>
  have agG:=bz h3;simp only[go_sem,bC c2,aI hs (w:=[59]) rfl c2,h3,reduceIte];simp only[go_sem,gX m2,fj m2];exact BS.ok (kF (by omega) (by omega) (by omega) (L4.trans Oo) q25 ⟨by simp;have:=Oo.length_le;omega,by simp[ce,OP,q28,qc Oo q16 q17],by simp⟩ rfl (by rw[ye,qZ Oo q16 q17];omega))
 |false=>
 cases ze:be ts (a+1) [43,61] with
 |true=>
  have hl0:=bz ze;simp only[go_sem,cp,dU,aa,dM,reduceIte,cT b0,hn,aG b1,df b0,uw,af hs (w:=[91]) rfl b1,af hs (w:=[43,61]) rfl b1,rh,ze,show be ts (a+1) [61]=false from bc ze rfl]
  refine BS.bind (F3 hs (a:=a+1+1) ⟨by omega,p2,by omega,p4⟩) (fun x1 a1 d1 mO g1=>?_) (fun c p hc=>(ff (ts:=ts) (en:=en) (p:=p) hc).mono fun k e v a' eg d'=>⟨rfl,by simp only[go_sem,fv,fB hc,cf hc,aNa,ama]⟩)
  obtain⟨q11,q12,rfl,q13,L4,PG,q16,q17,OP,q19⟩:=g1;have c1:a1≤4000000000000000000:=by omega
  have OU:a1+1≤4000000000000000000:=by omega
  have m1:mO.length≤4000000:=by omega
  cases h1:be ts (a1) [59] with
  |false=>simp only[go_sem,bC c1,aI hs (w:=[59]) rfl c1,h1,reduceIte];exact BS.er (c:=6) (p:=pl ts en (a1)) (by decide) ((ff (ts:=ts) (en:=en) (c:=6) (p:=pl ts en (a1)) (by decide)).mono fun k e=>⟨rfl,by have hc:(6:Int)≠0:=(by decide);simp only[go_sem,fv,cf hc,aNa,ama]⟩)
  |true=>
  have XP:=bz h1;simp only[go_sem,bC c1,aI hs (w:=[59]) rfl c1,h1,reduceIte];simp only[go_sem,gX m1,fj m1];exact BS.ok (kF (by omega) (by omega) (by omega) L4 PG ⟨by simp;omega,by simpa[ce] using OP,by simp⟩ rfl (by rw[oJ];exact q19))
 |false=>
 cases heq:be ts (a+1) [61] with
 |false=>simp only[go_sem,cp,dU,aa,dM,reduceIte,cT b0,hn,aG b1,df b0,uw,af hs (w:=[91]) rfl b1,af hs (w:=[43,61]) rfl b1,aI hs (w:=[61]) rfl b1,rh,ze,heq,Aj];exact BS.er (c:=6) (p:=pl ts en (a+1)) (by decide) ((ff (ts:=ts) (en:=en) (c:=6) (p:=pl ts en (a+1)) (by decide)).mono fun k e=>⟨rfl,by have hc:(6:Int)≠0:=(by decide);simp only[go_sem,fv,fB hc,Ab hc,Nj hc,Nk hc,cf hc,aeO hc,dM,e.1,aNa,ama]⟩)
 |true=>
 have hl0:=bz heq;cases ham:be ts (a+1+1) [38] with
 |true=>
  have hl1:=bz ham;cases hu:tr ts (a+1+1+1) 1 with
  |false=>simp only[go_sem,cp,dX,dU,aa,bw,gw,dM,fR,a5a,reduceIte,cT b0,hn,aG b1,aG b2,df b0,uw,af hs (w:=[91]) rfl b1,af hs (w:=[43,61]) rfl b1,aI hs (w:=[61]) rfl b1,af hs (w:=[38]) rfl b2,rh,ze,heq,ham,jD b3 bn,hu,nQ,df b3];exact BS.er (c:=6) (p:=pl ts en (a+1+1+1)) (by decide) ((ff (ts:=ts) (en:=en) (c:=6) (p:=pl ts en (a+1+1+1)) (by decide)).mono fun k e=>⟨rfl,by have hc:(6:Int)≠0:=(by decide);simp only[go_sem,fv,fB hc,cf hc,e.1,aNa,ama]⟩)
  |true=>
  have hl2:=jE hu;simp only[go_sem,cp,dX,dU,aa,bw,gw,dM,fR,a5a,reduceIte,cT b0,hn,aG b1,aG b2,df b0,uw,af hs (w:=[91]) rfl b1,af hs (w:=[43,61]) rfl b1,aI hs (w:=[61]) rfl b1,af hs (w:=[38]) rfl b2,rh,ze,heq,ham,jD b3 bn,hu,Lb b3 bn hu,sK hl2];cases h1:be ts (a+1+1+1+1) [91] with
  |false=>simp only[go_sem,bC b4,aI hs (w:=[91]) rfl b4,h1,reduceIte];exact BS.er (c:=6) (p:=pl ts en (a+1+1+1+1)) (by decide) ((ff (ts:=ts) (en:=en) (c:=6) (p:=pl ts en (a+1+1+1+1)) (by decide)).mono fun k e=>⟨rfl,by have hc:(6:Int)≠0:=(by decide);simp only[go_sem,fv,fB hc,cf hc,e.1,aNa,ama]⟩)
  |true=>
  have XP:=bz h1;simp only[go_sem,bC b4,aI hs (w:=[91]) rfl b4,h1,a5a,reduceIte];have hx:jl (ns++[(23,(tk ts (a+1+1+1)).2.1,0,(tk ts (a+1+1+1)).2.2.1,[])]):=p4.add (rZ rfl (by decide))
  refine BS.bind (F3 hs (a:=a+1+1+1+1+1) ⟨by omega,p2,by simp;omega,hx⟩) (fun x1 a1 d1 mO g1=>?_) (fun c p hc=>(ff (ts:=ts) (en:=en) (p:=p) hc).mono fun k e v a' eg d'=>⟨rfl,by simp only[go_sem,fv,fB hc,cf hc,aNa,ama]⟩)
  obtain⟨q11,q12,rfl,q13,L4,PG,q16,q17,OP,q19⟩:=g1;simp only[ata,ara,aBa] at q13 q19;have c1:a1≤4000000000000000000:=by omega
  have OU:a1+1≤4000000000000000000:=by omega
  have m1:mO.length≤4000000:=by omega
  cases h2:be ts (a1) [93] with
  |false=>simp only[go_sem,bC c1,aI hs (w:=[93]) rfl c1,h2,reduceIte];exact BS.er (c:=6) (p:=pl ts en (a1)) (by decide) ((ff (ts:=ts) (en:=en) (c:=6) (p:=pl ts en (a1)) (by decide)).mono fun k e=>⟨rfl,by have hc:(6:Int)≠0:=(by decide);simp only[go_sem,fv,fB hc,cf hc,aNa,ama]⟩)
  |true=>
  have Tu:=bz h2;simp only[go_sem,bC c1,aI hs (w:=[93]) rfl c1,h2,reduceIte];cases h3:be ts (a1+1) [59] with
  |false=>simp only[go_sem,bC OU,aI hs (w:=[59]) rfl OU,h3,reduceIte];exact BS.er (c:=6) (p:=pl ts en (a1+1)) (by decide) ((ff (ts:=ts) (en:=en) (c:=6) (p:=pl ts en (a1+1)) (by decide)).mono fun k e=>⟨rfl,by have hc:(6:Int)≠0:=(by decide);simp only[go_sem,fv,cf hc,aNa,ama]⟩)
  |true=>
  have agG:=bz h3;simp only[go_sem,bC OU,aI hs (w:=[59]) rfl OU,h3,reduceIte];simp only[go_sem,gX m1,fj m1];have jI:=L4.length_le;simp only[ata,ara,aBa] at jI;exact BS.ok (kF (by omega) (by omega) (by omega) ((aJa _ _).trans L4) PG ⟨by simp;omega,by simp[ce,OP,qc L4 (show(0:Int)≤(ns.length:Int) by omega) (by simp;omega),qD],by simp⟩ rfl (by rw[ye,qZ L4 (show(0:Int)≤(ns.length:Int) by omega) (by simp;omega),nT,zy];omega))
 |false=>
 cases mg:(tr ts (a+1+1) 1&&be ts (a+1+1+1) [40]) with
 |true=>
  obtain⟨hu,mm⟩:=Bool.and_eq_true_iff.1 mg;have hl1:=bz mm;have hx:jl (ns++[(23,(tk ts (a+1+1)).2.1,0,(tk ts (a+1+1)).2.2.1,[])]):=p4.add (rZ rfl (by decide))
  have b5:a+1+1+1+1+1≤4000000000000000000:=by omega
  have nu:(ns++[(23,(tk ts (a+1+1)).2.1,0,(tk ts (a+1+1)).2.2.1,[])]).length≤4000000:=by simp;omega
  have ku:kd (ns++[(23,(tk ts (a+1+1)).2.1,0,(tk ts (a+1+1)).2.2.1,[])]) (ns.length:Int)=23:=qD;cases h1:be ts (a+1+1+1+1) [41] with
  |true=>
   have hl2:=bz h1;have hL:Ev fun k=>bx k k ts en ((a+1+1+1+1:Nat):Int) (ns++[(23,(tk ts (a+1+1)).2.1,0,(tk ts (a+1+1)).2.2.1,[])]) (d:Int) 0 0 [(ns.length:Int)]=some (((a+1+1+1+1:Nat):Int),(ns++[(23,(tk ts (a+1+1)).2.1,0,(tk ts (a+1+1)).2.2.1,[])]),(d:Int),0,0,[(ns.length:Int)],()):=
    ct.jN (p2:=fun q k=>bx q k ts en ((a+1+1+1+1:Nat):Int) (ns++[(23,(tk ts (a+1+1)).2.1,0,(tk ts (a+1+1)).2.2.1,[])]) (d:Int) 0 0 [(ns.length:Int)]=_) (ct.succ (ct.of fun q k=>by
     simp only[go_sem,bx,aa,gB hs (w:=[41]) rfl,h1]))
   cases h2:be ts (a+1+1+1+1+1) [59] with
   |true=>
    have hl3:=bz h2;refine⟨.ok _ (a+1+1+1+1+1+1) d ((ns++[(23,(tk ts (a+1+1)).2.1,0,(tk ts (a+1+1)).2.2.1,[])])++[(22,(tk ts a).2.1,0,(tk ts a).2.2.1,[(ns.length:Int)])]),kF (by omega) (by omega) (by simp;omega) (aJa _ _) hx ⟨by simp;omega,by simp[ce,qD],by simp⟩ rfl (by rw[oJ,nT,zy];simp;omega),hL.mono fun k e=>⟨?_,?_⟩⟩
    ·simp only[go_sem,t6,cp,dX,aa,bw,gw,reduceIte,cT b0,hn,aG b1,aG b2,heq,ham,hu,mm,zv b2,jD b2 bn,bC b3,aG b4,h1,bC b5,h2,gX nu]
    ·simp only[go_sem,NQ,dU,aa,dM,fR,reduceIte,df b0,hn,uw,af hs (w:=[91]) rfl b1,af hs (w:=[43,61]) rfl b1,aI hs (w:=[61]) rfl b1,af hs (w:=[38]) rfl b2,rh,ze,heq,ham,hu,mm,EE hs (w:=[40]) rfl b2,Lb b2 bn hu,sK (jE hu),aI hs (w:=[40]) rfl b3,e,aI hs (w:=[41]) rfl b4,aI hs (w:=[59]) rfl b5,h1,h2,fj nu]
   |false=>
    refine⟨.er 6 (pl ts en (a+1+1+1+1+1)),show(6:Int)≠0 by decide,hL.mono fun k e=>⟨?_,0,a+1+1+1+1+1,(ns++[(23,(tk ts (a+1+1)).2.1,0,(tk ts (a+1+1)).2.2.1,[])]),d,?_⟩⟩
    ·simp only[go_sem,t6,cp,dX,aa,bw,gw,reduceIte,cT b0,hn,aG b1,aG b2,heq,ham,hu,mm,zv b2,jD b2 bn,bC b3,aG b4,h1,bC b5,h2]
    ·simp only[go_sem,dU,aa,dM,fR,reduceIte,df b0,hn,uw,af hs (w:=[91]) rfl b1,af hs (w:=[43,61]) rfl b1,aI hs (w:=[61]) rfl b1,af hs (w:=[38]) rfl b2,rh,ze,heq,ham,hu,mm,EE hs (w:=[40]) rfl b2,Lb b2 bn hu,sK (jE hu),aI hs (w:=[40]) rfl b3,e,aI hs (w:=[41]) rfl b4,aI hs (w:=[59]) rfl b5,h1,h2,cf (show(6:Int)≠0 by decide)]
  |false=>
  obtain⟨r,hi,hr⟩:=BE (en:=en) hs (a:=a+1+1+1+1) (d:=d) (ns:=(ns++[(23,(tk ts (a+1+1)).2.1,0,(tk ts (a+1+1)).2.2.1,[])])) ⟨by omega,p2,by simp;omega,hx⟩
  cases r with
  |er c p=>
   have hc:c≠0:=hi;have hL:Ev fun k=>∃(a':Nat) (eg:List ey) (d':Int) (v:Int),bx k k ts en ((a+1+1+1+1:Nat):Int) (ns++[(23,(tk ts (a+1+1)).2.1,0,(tk ts (a+1+1)).2.2.1,[])]) (d:Int) 0 0 [(ns.length:Int)]=some ((a':Int),eg,d',c,p,[(ns.length:Int),v],()):=
    ct.jN (p2:=fun q k=>∃(a':Nat) (eg:List ey) (d':Int) (v:Int),bx q k ts en ((a+1+1+1+1:Nat):Int) (ns++[(23,(tk ts (a+1+1)).2.1,0,(tk ts (a+1+1)).2.2.1,[])]) (d:Int) 0 0 [(ns.length:Int)]=some ((a':Int),eg,d',c,p,[(ns.length:Int),v],())) (ct.succ (ct.succ (hr.tZ.mono fun q k e=>by
     obtain⟨_,v,a',eg,d',e2⟩:=e;refine⟨a',eg,d',v,?_⟩;rw[bx];simp only[go_sem,aa,gB hs (w:=[41]) rfl,h1,ara,aBa,show((((0+1:Nat):Int)) > 1)=False from by simp,show am q ts ((a+1+1+1+1:Nat):Int) en (ns++[(23,(tk ts (a+1+1)).2.1,0,(tk ts (a+1+1)).2.2.1,[])]) (d:Int) 0 0 1=_ from e2,cv (l:=[(ns.length:Int)]) (v:=v) (by simp),a2a,aQa]
     rw[bx];simp only[go_sem,aa,Q6.2 hc])))
   refine⟨.er c p,hi,(hr.and hL).mono fun k e=>?_⟩;obtain⟨⟨e1,_⟩,a',eg,d',v,e2⟩:=e;refine⟨?_,0,a',eg,d',?_⟩
   ·simp only[go_sem,t6,cp,dX,aa,bw,gw,reduceIte,cT b0,hn,aG b1,aG b2,heq,ham,hu,mm,zv b2,jD b2 bn,bC b3,aG b4,h1,show ai k ts en ((a+1+1+1+1:Nat):Int) (d:Int) (ns++[(23,(tk ts (a+1+1)).2.1,0,(tk ts (a+1+1)).2.2.1,[])]) 1=_ from e1]
   ·simp only[go_sem,dU,aa,dM,fR,reduceIte,df b0,hn,uw,af hs (w:=[91]) rfl b1,af hs (w:=[43,61]) rfl b1,aI hs (w:=[61]) rfl b1,af hs (w:=[38]) rfl b2,rh,ze,heq,ham,hu,mm,EE hs (w:=[40]) rfl b2,Lb b2 bn hu,sK (jE hu),aI hs (w:=[40]) rfl b3,e2,fB hc,cf hc]
  |ok v a1 d1 mO=>
   obtain⟨q1,q2,rfl,q3,q4,q5,q6,q7,q8,q9⟩:=hi;simp only[ata,ara,aBa] at q3 q9;have jI:=q4.length_le;simp only[ata,ara,aBa] at jI;have ku1:kd mO (ns.length:Int)=23:=by rw[qc q4 (by omega) (by simp;omega),qD]
   obtain⟨r,gi,gr⟩:=Xm (en:=en) hs (u:=(ns.length:Int)) p2 _ a1 mO [v] (ava _) ⟨q2,p2,by omega,q5⟩ ⟨by simp<;>omega,by simpa using q8⟩ (by simp) (by simp<;>omega)
   have hL:Ev fun k=>Pn [(ns.length:Int)] (p6 ts en [41] r) d1 (bx k k ts en ((a+1+1+1+1:Nat):Int) (ns++[(23,(tk ts (a+1+1)).2.1,0,(tk ts (a+1+1)).2.2.1,[])]) (d1:Int) 0 0 [(ns.length:Int)]):=
    ct.jN (p2:=fun q k=>Pn [(ns.length:Int)] (p6 ts en [41] r) d1 (bx q k ts en ((a+1+1+1+1:Nat):Int) (ns++[(23,(tk ts (a+1+1)).2.1,0,(tk ts (a+1+1)).2.2.1,[])]) (d1:Int) 0 0 [(ns.length:Int)])) (ct.succ ((hr.tZ.and gr).mono fun q k e=>by
     obtain⟨⟨_,e2⟩,_,e4⟩:=e;simp only[go_sem,bx,aa,gB hs (w:=[41]) rfl,h1,ara,aBa,show((((0+1:Nat):Int)) > 1)=False from by simp,show am q ts ((a+1+1+1+1:Nat):Int) en (ns++[(23,(tk ts (a+1+1)).2.1,0,(tk ts (a+1+1)).2.2.1,[])]) (d1:Int) 0 0 1=_ from e2,cv (l:=[(ns.length:Int)]) (v:=v) (by simp),a2a,aQa]
     exact e4))
   have hE:=(hr.and gr.jN).and hL;cases r with
   |er c p=>
    have hc:c≠0:=gi;refine⟨.er c p,gi,hE.mono fun k e=>?_⟩;obtain⟨⟨⟨e1,_⟩,e3,_⟩,l,a',eg,d',e4⟩:=e;refine⟨?_,0,a',eg,d',?_⟩
    ·simp only[go_sem,t6,cp,dX,aa,bw,gw,reduceIte,cT b0,hn,aG b1,aG b2,heq,ham,hu,mm,zv b2,jD b2 bn,bC b3,aG b4,h1,show ai k ts en ((a+1+1+1+1:Nat):Int) (d1:Int) (ns++[(23,(tk ts (a+1+1)).2.1,0,(tk ts (a+1+1)).2.2.1,[])]) 1=_ from e1,cv (l:=[(ns.length:Int)]) (v:=v) (by simp),a2a,aQa]
     simp only[go_sem,show cW k k ts en _ (a1:Int) (d1:Int) mO=_ from e3]
    ·simp only[go_sem,dU,aa,dM,fR,reduceIte,df b0,hn,uw,af hs (w:=[91]) rfl b1,af hs (w:=[43,61]) rfl b1,aI hs (w:=[61]) rfl b1,af hs (w:=[38]) rfl b2,rh,ze,heq,ham,hu,mm,EE hs (w:=[40]) rfl b2,Lb b2 bn hu,sK (jE hu),aI hs (w:=[40]) rfl b3,e4,fB hc,cf hc]
   |ok l a2 pY=>
    obtain⟨g1,g2,g3,g4,g5,g6,g7,g8⟩:=gi;rw[oJ] at g8;have wu2:wt pY (ns.length:Int)=1:=by rw[qZ (q4.trans g4) (by omega) (by simp;omega),nT];rfl
    have c2:a2≤4000000000000000000:=by omega
    have c21:a2+1≤4000000000000000000:=by omega
    have m2:pY.length≤4000000:=by omega
    have ku2:kd pY (ns.length:Int)=23:=by rw[qc g4 (by omega) (by omega),ku1]
    have ahm:=g4.length_le;cases h3:be ts a2 [41] with
    |false=>
     refine⟨.er 6 (pl ts en a2),show(6:Int)≠0 by decide,hE.mono fun k e=>?_⟩
     obtain⟨⟨⟨e1,_⟩,e3,_⟩,e4⟩:=e;simp only[go_sem,p6,h3,reduceIte] at e4;obtain⟨l',a',eg,d',e4⟩:=e4;refine⟨?_,0,a',eg,d',?_⟩
     ·simp only[go_sem,t6,cp,dX,aa,bw,gw,reduceIte,cT b0,hn,aG b1,aG b2,heq,ham,hu,mm,zv b2,jD b2 bn,bC b3,aG b4,h1,show ai k ts en ((a+1+1+1+1:Nat):Int) (d1:Int) (ns++[(23,(tk ts (a+1+1)).2.1,0,(tk ts (a+1+1)).2.2.1,[])]) 1=_ from e1,cv (l:=[(ns.length:Int)]) (v:=v) (by simp),a2a,aQa]
      simp only[go_sem,show cW k k ts en _ (a1:Int) (d1:Int) mO=_ from e3,bC c2,h3,reduceIte]
     ·simp only[go_sem,dU,aa,dM,fR,reduceIte,df b0,hn,uw,af hs (w:=[91]) rfl b1,af hs (w:=[43,61]) rfl b1,aI hs (w:=[61]) rfl b1,af hs (w:=[38]) rfl b2,rh,ze,heq,ham,hu,mm,EE hs (w:=[40]) rfl b2,Lb b2 bn hu,sK (jE hu),aI hs (w:=[40]) rfl b3,e4,fB (show(6:Int)≠0 by decide),cf (show(6:Int)≠0 by decide)]
    |true=>
    have hl3:=bz h3;cases h4:be ts (a2+1) [59] with
    |false=>
     refine⟨.er 6 (pl ts en (a2+1)),show(6:Int)≠0 by decide,hE.mono fun k e=>?_⟩
     obtain⟨⟨⟨e1,_⟩,e3,_⟩,e4⟩:=e;simp only[p6,h3,reduceIte] at e4;refine⟨?_,0,a2+1,pY,d1,?_⟩
     ·simp only[go_sem,t6,cp,dX,aa,bw,gw,reduceIte,cT b0,hn,aG b1,aG b2,heq,ham,hu,mm,zv b2,jD b2 bn,bC b3,aG b4,h1,show ai k ts en ((a+1+1+1+1:Nat):Int) (d1:Int) (ns++[(23,(tk ts (a+1+1)).2.1,0,(tk ts (a+1+1)).2.2.1,[])]) 1=_ from e1,cv (l:=[(ns.length:Int)]) (v:=v) (by simp),a2a,aQa]
      simp only[go_sem,show cW k k ts en _ (a1:Int) (d1:Int) mO=_ from e3,bC c2,bC c21,h3,h4,reduceIte]
     ·simp only[go_sem,dU,aa,dM,fR,reduceIte,df b0,hn,uw,af hs (w:=[91]) rfl b1,af hs (w:=[43,61]) rfl b1,aI hs (w:=[61]) rfl b1,af hs (w:=[38]) rfl b2,rh,ze,heq,ham,hu,mm,EE hs (w:=[40]) rfl b2,Lb b2 bn hu,sK (jE hu),aI hs (w:=[40]) rfl b3,show bx k k ts en ((a+1+1+1+1:Nat):Int) (ns++[(23,(tk ts (a+1+1)).2.1,0,(tk ts (a+1+1)).2.2.1,[])]) (d1:Int) 0 0 [(ns.length:Int)]=_ from e4,aI hs (w:=[41]) rfl c2,aI hs (w:=[59]) rfl c21,h3,h4,cf (show(6:Int)≠0 by decide)]
    |true=>
     have hl4:=bz h4;refine⟨.ok _ (a2+1+1) d1 (pY++[(22,(tk ts a).2.1,0,(tk ts a).2.2.1,[(ns.length:Int)]++l)]),kF (by omega) (by omega) (by omega) ((aJa _ _).trans (q4.trans g4)) g5 ⟨?_,?_,by simp,by simp at g7 ⊢;omega⟩ rfl (by rw[qd,oJ,wu2];omega),hE.mono fun k e=>?_⟩
     ·intro j hj
      rcases ala.1 hj with hj|hj
      ·rw[Q7.1 hj];omega
      ·exact g6.v j hj
     ·have:l.all (fun j=>Bc (kd pY j))=true:=apa.2 g6.c
      simp[ce,ku2];simpa using this
     ·obtain⟨⟨⟨e1,_⟩,e3,_⟩,e4⟩:=e
      simp only[p6,h3,reduceIte] at e4;refine⟨?_,?_⟩
      ·simp only[go_sem,t6,cp,dX,aa,bw,gw,reduceIte,cT b0,hn,aG b1,aG b2,heq,ham,hu,mm,zv b2,jD b2 bn,bC b3,aG b4,h1,show ai k ts en ((a+1+1+1+1:Nat):Int) (d1:Int) (ns++[(23,(tk ts (a+1+1)).2.1,0,(tk ts (a+1+1)).2.2.1,[])]) 1=_ from e1,cv (l:=[(ns.length:Int)]) (v:=v) (by simp),a2a,aQa]
       simp only[go_sem,show cW k k ts en _ (a1:Int) (d1:Int) mO=_ from e3,bC c2,bC c21,h3,h4,reduceIte,gX m2,a2a,aQa]
      ·simp only[go_sem,NQ,dU,aa,dM,fR,reduceIte,df b0,hn,uw,af hs (w:=[91]) rfl b1,af hs (w:=[43,61]) rfl b1,aI hs (w:=[61]) rfl b1,af hs (w:=[38]) rfl b2,rh,ze,heq,ham,hu,mm,EE hs (w:=[40]) rfl b2,Lb b2 bn hu,sK (jE hu),aI hs (w:=[40]) rfl b3,show bx k k ts en ((a+1+1+1+1:Nat):Int) (ns++[(23,(tk ts (a+1+1)).2.1,0,(tk ts (a+1+1)).2.2.1,[])]) (d1:Int) 0 0 [(ns.length:Int)]=_ from e4,aI hs (w:=[41]) rfl c2,aI hs (w:=[59]) rfl c21,h3,h4,fj m2]
 |false=>
 cases hnu:be ts (a+1+1) [110,117,108,108] with
 |true=>
  have hl1:=bz hnu;have hk0:tr ts (a+1+1) 1=false:=Ur hs rfl (.inl rfl) hnu;simp only[go_sem,cp,dX,dU,aa,bw,gw,dM,fR,a5a,reduceIte,cT b0,hn,aG b1,aG b2,df b0,uw,af hs (w:=[91]) rfl b1,af hs (w:=[43,61]) rfl b1,aI hs (w:=[61]) rfl b1,af hs (w:=[38]) rfl b2,rh,ze,heq,ham,hk0,sj b2,gB hs (w:=[110,117,108,108]) rfl,hnu,gX bn,fj bn,ae (show a+1+1<_ by omega)]
  have hx:jl (ns++[(29,pl ts en (a+1+1),0,[],[])]):=p4.add (rZ rfl (by decide))
  have nu:(ns++[(29,pl ts en (a+1+1),0,[],[])]:List ey).length≤4000000:=by simp;omega
  cases h1:be ts (a+1+1+1) [59] with
  |false=>simp only[go_sem,bC b3,aI hs (w:=[59]) rfl b3,h1,reduceIte];exact BS.er (c:=6) (p:=pl ts en (a+1+1+1)) (by decide) ((ff (ts:=ts) (en:=en) (c:=6) (p:=pl ts en (a+1+1+1)) (by decide)).mono fun k e=>⟨rfl,by have hc:(6:Int)≠0:=(by decide);simp only[go_sem,fv,cf hc,aNa,ama]⟩)
  |true=>
  have XP:=bz h1;simp only[go_sem,bC b3,aI hs (w:=[59]) rfl b3,h1,reduceIte];simp only[go_sem,gX nu,fj nu];exact BS.ok (kF (by omega) (by omega) (by simp;omega) (aJa _ _) hx ⟨by simp;omega,by simp[ce,qD],by simp⟩ rfl (by rw[oJ,nT,zy];simp;omega))
 |false=>
 have agR:(bif tr ts (a+1+1) 1 then be ts (a+1+1+1) [40] else false)=false:=by rw[←mg];cases tr ts (a+1+1) 1<;>rfl
 have pick:∀{α:Type} (f g:α),(bif tr ts (a+1+1) 1 then(bif be ts (a+1+1+1) [40] then f else g) else g)=g:=fun f g=>by revert agR;cases tr ts (a+1+1) 1<;>cases be ts (a+1+1+1) [40]<;>simp
 simp only[go_sem,cp,dX,dU,aa,bw,gw,dM,fR,a5a,reduceIte,cT b0,hn,aG b1,aG b2,df b0,uw,af hs (w:=[91]) rfl b1,af hs (w:=[43,61]) rfl b1,aI hs (w:=[61]) rfl b1,af hs (w:=[38]) rfl b2,rh,ze,heq,ham,zv b2,EE hs (w:=[40]) rfl b2,pick,sj b2,gB hs (w:=[110,117,108,108]) rfl,hnu];refine BS.bind (F3 hs (a:=a+1+1) ⟨by omega,p2,by omega,p4⟩) (fun x1 a1 d1 mO g1=>?_) (fun c p hc=>(ff (ts:=ts) (en:=en) (p:=p) hc).mono fun k e v a' eg d'=>⟨rfl,by simp only[go_sem,fv,fB hc,cf hc,aNa,ama]⟩)
 obtain⟨q11,q12,rfl,q13,L4,PG,q16,q17,OP,q19⟩:=g1;have c1:a1≤4000000000000000000:=by omega
 have OU:a1+1≤4000000000000000000:=by omega
 have m1:mO.length≤4000000:=by omega
 cases h1:be ts (a1) [59] with
 |false=>simp only[go_sem,bC c1,aI hs (w:=[59]) rfl c1,h1,reduceIte];exact BS.er (c:=6) (p:=pl ts en (a1)) (by decide) ((ff (ts:=ts) (en:=en) (c:=6) (p:=pl ts en (a1)) (by decide)).mono fun k e=>⟨rfl,by have hc:(6:Int)≠0:=(by decide);simp only[go_sem,fv,cf hc,aNa,ama]⟩)
 |true=>
 have XP:=bz h1;simp only[go_sem,bC c1,aI hs (w:=[59]) rfl c1,h1,reduceIte];simp only[go_sem,gX m1,fj m1];exact BS.ok (kF (by omega) (by omega) (by omega) L4 PG ⟨by simp;omega,by simp[ce,OP],by simp⟩ rfl (by rw[oJ];exact q19))
end
end Go.Fx.R5
namespace Go.Fx.R5
open Go Go.Fx
section
theorem BS.up{P:Int→Nat→Nat→List ey→Prop}{i:Nat→IT}{s:Nat→ST}(h:BS P i s):BS P (fun k=>i (k+1)) s:=by obtain⟨r,hi,hr⟩:=h;have h1:Ev fun k=>t6 r (i k):=hr.mono fun _ e=>e.1;have h2:Ev fun k=>NQ r (s k):=hr.mono fun _ e=>e.2;exact⟨r,hi,h1.abM.and h2⟩
theorem BS.upS{P:Int→Nat→Nat→List ey→Prop}{i:Nat→IT}{s:Nat→ST}(h:BS P i s):BS P i (fun k=>s (k+1)):=by obtain⟨r,hi,hr⟩:=h;have h1:Ev fun k=>t6 r (i k):=hr.mono fun _ e=>e.1;have h2:Ev fun k=>NQ r (s k):=hr.mono fun _ e=>e.2;exact⟨r,hi,h1.and h2.abM⟩
theorem nS(k:Nat):eu (k+1)=bP (eu k) (lO k) (iS k) k:=rfl
theorem Js(k:Nat):lO (k+1)=j0 (eu k) (lO k) (iS k) k:=rfl
theorem EH(k:Nat):iS (k+1)=jC (eu k) (lO k) (iS k) k:=rfl
theorem I2(k:Nat):dd (k+1)=fE (dd k) (cY k) (gY k) (gk k) k:=rfl
theorem nJ(k:Nat):cY (k+1)=bt (dd k) (cY k) (gY k) (gk k) k:=rfl
theorem IX(k:Nat):gY (k+1)=iC (dd k) (cY k) (gY k) (gk k) k:=rfl
theorem TA(k:Nat):gk (k+1)=jT (dd k) (cY k) (gY k) (gk k) k:=rfl
variable {ts:List zn} {en:Int} {c p:Int} {a d:Nat} {ns:List ey}
theorem abh(hc:c≠0):Ev fun k=>∀(a:Nat) (ns:List ey) (d:Int),iS k ts (a:Int) en ns d c p=some (0,(a:Int),ns,cm (d+1),c,p,()):=
 Ev.succ (Ev.of fun k a ns d=>by rw[EH];simp only[go_sem,jC,dM,fB hc,G8 hc])
theorem fb(hc:c≠0):Ev fun k=>(∀(a:Nat) (ns:List ey) (d:Int),am k ts (a:Int) en ns d c p 1=some (0,(a:Int),ns,d,c,p,()))∧
  (∀(a:Nat) (ns:List ey) (d:Int),dQ k ts (a:Int) en ns d c p=some (0,(a:Int),ns,d,c,p,()))∧(∀(a:Nat) (ns:List ey) (d:Int),iS k ts (a:Int) en ns d c p=some (0,(a:Int),ns,cm (d+1),c,p,())):=
 (fl1 hc).and ((Y5 hc).and (abh hc))
abbrev StB(ts:List zn)(en:Int)(a d:Nat)(ns:List ey):Prop:=BS (xH ts Po 1 a d ns) (fun k=>cY k ts en (a:Int) (d:Int) ns) (fun k=>eu k ts (a:Int) en ns (d:Int) 0 0)
abbrev BlB(ts:List zn)(en:Int)(a d:Nat)(ns:List ey):Prop:=BS (xH ts (·==8) 1 a d ns) (fun k=>gY k ts en (a:Int) (d:Int) ns) (fun k=>iS k ts (a:Int) en ns (d:Int) 0 0)
def ZG(r:OT)(d:Int)(o:Option ((Int×Int×List ey×XI×Unit)⊕(Int×Int×Unit))):Prop:=match r with
 |.ok l a ns=>o=some (.inl (((a+1:Nat):Int),d,ns,l,()))
 |.er c p=>o=some (.inr (c,p,()))
theorem aa6(x y:Int):lA [x] [y]=some [x,y]:=by simp[lA]
theorem aa7(x y z:Int):lA [x,y] [z]=some [x,y,z]:=by simp[lA]
theorem OA(hs:oT ts)(hd:d≤10){a0:Nat}(IH:∀ a' eg,a0≤a'→xI ts a' d eg→StB ts en a' d eg):∀ m a (ns:List ey) (l:XI),ts.length - a≤m→a0≤a→xI ts a d ns→iO Po ns l→l.length≤a→
  ∃ r,OS ts Po a ns l.length (jz ns l) r∧(∀ l' a' eg,r=.ok l' a' eg→be ts a' [125]=true)∧ct fun q k=>
   ZG r d (bR (dd q) (cY q) (gY q) (gk q) q k ts en (a:Int) (d:Int) ns l)∧
   Pn [] r d (dZ (eu q) (lO q) (iS q) q k ts en (a:Int) ns (d:Int) 0 0 l):=by
 have h7:=hs.len;intro m;induction m with
 |zero=>
  intro a ns l hm h0 hp hk hl;have b0:a≤4000000000000000000:=by have:=hp.hi;omega
  have bk:l.length≤4000000:=by have:=hp.hi;omega
  have mg:be ts a [125]=false:=by
   cases h:be ts a [125] with
   |false=>rfl
   |true=>have:=bz h;omega
  obtain⟨r,hi,hr⟩:=IH a ns h0 hp;cases r with
  |er c p=>
   have hc:c≠0:=hi;refine⟨.er c p,hi,(fun _ _ _ h=>by cases h),ct.succ (ct.succ (hr.tZ.mono fun q k e=>?_))⟩
   obtain⟨e1,v,a',eg,d',e2⟩:=e;refine⟨?_,l++[v],a',eg,d',?_⟩
   ·simp only[go_sem,ZG,bR,aG b0,mg,reduceIte,show cY q ts en (a:Int) (d:Int) ns=_ from e1]
   ·rw[dZ]
    simp only[go_sem,aa,gB hs (w:=[125]) rfl,mg,show eu q ts (a:Int) en ns (d:Int) 0 0=_ from e2,cv bk]
    rw[dZ];simp only[go_sem,aa,Q6.2 hc]
  |ok v a1 d1 mO=>have:=hi.lo;have:=hi.hi;have:=hp.hi;omega
 |succ m ih=>
  intro a ns l hm h0 hp hk hl;have b0:a≤4000000000000000000:=by have:=hp.hi;omega
  have bk:l.length≤4000000:=by have:=hp.hi;omega
  cases mg:be ts a [125] with
  |true=>
   refine⟨.ok l a ns,⟨by omega,hp.hi,by omega,aVa _,hp.all,hk,by omega,by omega⟩,(fun _ _ _ h=>by cases h;exact mg),ct.succ (ct.of fun q k=>⟨?_,?_⟩)⟩
   ·simp only[go_sem,ZG,bR,aG b0,mg,reduceIte]
   ·simp only[go_sem,Pn,aQa,dZ,aa,gB hs (w:=[125]) rfl,mg]
  |false=>
  obtain⟨r,hi,hr⟩:=IH a ns h0 hp;cases r with
  |er c p=>
   have hc:c≠0:=hi;refine⟨.er c p,hi,(fun _ _ _ h=>by cases h),ct.succ (ct.succ (hr.tZ.mono fun q k e=>?_))⟩
   obtain⟨e1,v,a',eg,d',e2⟩:=e;refine⟨?_,l++[v],a',eg,d',?_⟩
   ·simp only[go_sem,ZG,bR,aG b0,mg,reduceIte,show cY q ts en (a:Int) (d:Int) ns=_ from e1]
   ·rw[dZ]
    simp only[go_sem,aa,gB hs (w:=[125]) rfl,mg,show eu q ts (a:Int) en ns (d:Int) 0 0=_ from e2,cv bk]
    rw[dZ];simp only[go_sem,aa,Q6.2 hc]
  |ok v a1 d1 mO=>
   obtain⟨q1,q2,rfl,q3,q4,q5,q6,q7,q8,q9⟩:=hi;obtain⟨r,gi,gx,gr⟩:=ih a1 mO (l++[v]) (by omega) (by omega) ⟨q2,hd,by have:=hp.ln;omega,q5⟩ ((hk.up q4).add q6 q7 q8) (by simp;omega)
   refine⟨r,gi.from (by omega) (by omega) q4 (by simp;omega) (by rw[qd,oJ,pz q4 hk.v];omega),gx,ct.succ ((hr.tZ.and gr).mono fun q k e=>?_)⟩
   obtain⟨⟨e1,e2⟩,e3,e4⟩:=e;refine⟨?_,?_⟩
   ·simp only[go_sem,bR,aG b0,mg,reduceIte,show cY q ts en (a:Int) (d1:Int) ns=_ from e1,cv bk]
    exact e3
   ·simp only[go_sem,dZ,aa,gB hs (w:=[125]) rfl,mg,show eu q ts (a:Int) en ns (d1:Int) 0 0=_ from e2,cv bk]
    exact e4
theorem ct.split{p r:Nat→Nat→Prop}(h:ct fun q k=>p q k∧r q k):Ev fun k=>p k k∧r (k+1) (k+1):=by have h1:Ev fun k=>p k k:=(h.mono fun _ _ e=>e.1).jN;have h2:Ev fun k=>r k k:=(h.mono fun _ _ e=>e.2).jN;exact h1.and h2.abM
theorem aaH{ns:List ey}{l:XI}(h:iO Po ns l):ce 8 (l.map (kd ns))=true:=by have:l.all (fun j=>Po (kd ns j))=true:=apa.2 h.c;simp[ce];simpa using this
theorem MK(hs:oT ts)(hp:xI ts a d ns)(IH:∀ a' d' eg,a<a'→xI ts a' d' eg→StB ts en a' d' eg):BlB ts en a d ns:=by
 have h7:=hs.len;obtain⟨p1,p2,p3,p4⟩:=hp;have b0:a≤4000000000000000000:=by omega
 cases mm:be ts a [123] with
 |false=>refine BS.succ ?_;simp only[go_sem,IX,EH,iC,jC,bw,dM,reduceIte,bC b0,aI hs (w:=[123]) rfl b0,mm];exact BS.er (c:=6) (p:=pl ts en a) (by decide) (Ev.of fun k=>⟨rfl,by simp only[go_sem,G8 (show(6:Int)≠0 by decide),fv,ama,aNa]⟩)
 |true=>
 have bq:=bz mm;by_cases hd:d<10
 ·obtain⟨r,hi,hx,hr⟩:=OA (en:=en) hs (d:=d+1) (by omega) (a0:=a+1) (fun a' eg h p=>IH a' (d+1) eg (by omega) p) _ (a+1) ns [] (ava _) (ava _) ⟨by omega,by omega,by omega,p4⟩ iO.nil (by simp)
  have hr:=hr.split;cases r with
  |er c p=>
   have hc:c≠0:=hi;refine⟨.er c p,hi,Ev.succ (Ev.succ (hr.mono fun k e=>?_))⟩;obtain⟨e1,l',a',eg,d',e2⟩:=e;refine⟨?_,0,a',eg,cm (d' - 1),?_⟩
   ·simp only[go_sem,t6,IX (k+1),iC,bw,a5a,reduceIte,bC b0,gC p2,mm,hd,I2,fE]
    simp only[go_sem,show bR _ _ _ _ k k ts en ((a+1:Nat):Int) ((d+1:Nat):Int) ns []=_ from e1]
   ·simp only[go_sem,EH (k+1),jC,dM,reduceIte,aI hs (w:=[123]) rfl b0,lJ p2,mm,hd,e2,fB hc,cf hc]
  |ok l' a' eg=>
   obtain⟨g1,g2,g3,g4,g5,g6,g7,g8⟩:=hi;rw[zy] at g8;have mg:=hx _ _ _ rfl;have hl:=bz mg;have b4:a'≤4000000000000000000:=by omega
   have ML:eg.length≤4000000:=by omega
   refine⟨.ok _ (a' + 1) d (eg++[(8,pl ts en a,0,[],l')]),kF (by omega) (by omega) (by omega) g4 g5 ⟨g6.v,aaH g6,by simp,by simp at g7 ⊢;omega⟩ rfl g8,Ev.succ (Ev.succ (hr.mono fun k e=>?_))⟩
   obtain⟨e1,e2⟩:=e;refine⟨?_,?_⟩
   ·simp only[go_sem,t6,IX (k+1),iC,bw,a5a,reduceIte,bC b0,gC p2,mm,hd,I2,fE]
    simp only[go_sem,show bR _ _ _ _ k k ts en ((a+1:Nat):Int) ((d+1:Nat):Int) ns []=_ from e1,gX ML,kn (show d≤_ by omega)]
   ·simp only[go_sem,NQ,EH (k+1),jC,dM,reduceIte,aI hs (w:=[123]) rfl b0,lJ p2,mm,hd]
    simp only[go_sem,show dZ _ _ _ (k+1) (k+1) ts en ((a+1:Nat):Int) ns ((d+1:Nat):Int) 0 0 []=_ from e2,aI hs (w:=[125]) rfl b4,mg,reduceIte,fj ML,aQa,kn (show d≤_ by omega)]
 ·refine BS.succ ?_
  simp only[go_sem,IX,EH,iC,jC,bw,dM,reduceIte,bC b0,aI hs (w:=[123]) rfl b0,gC p2,lJ p2,mm,hd];exact BS.er (c:=7) (p:=pl ts en (a+1)) (by decide) (Ev.of fun k=>⟨rfl,by simp only[fv,ama,aNa]⟩)
theorem QQ(hs:oT ts)(hp:xI ts a d ns)(IH:∀ a' d' eg,a<a'→xI ts a' d' eg→BlB ts en a' d' eg):StB ts en a d ns:=by
 have h7:=hs.len;have Ax:=hp;obtain⟨p1,p2,p3,p4⟩:=hp;have b0:a≤4000000000000000000:=by omega
 have b1:a+1≤4000000000000000000:=by omega
 have b2:a+1+1≤4000000000000000000:=by omega
 have b3:a+1+1+1≤4000000000000000000:=by omega
 have bn:ns.length≤4000000:=by omega
 cases hn:tr ts a 1 with
 |true=>refine BS.succ ?_;simp only[go_sem,nJ,nS,bt,bP,aa,bw,gw,dM,fR,hn];exact BS.bind (aaF hs Ax hn) (fun v a1 d1 mO g=>BS.ok g) (fun c p hc=>Ev.of fun k v a' eg d'=>⟨rfl,by simp only[fv,ama,aNa]⟩)
 |false=>
 cases Ae:be ts a [42] with
 |true=>
  have hl0:=bz Ae;refine BS.succ ?_;cases hm:tr ts (a+1) 1 with
  |false=>
   simp only[go_sem,nJ,nS,bt,bP,aa,bw,gw,dM,fR,reduceIte,hn,aG b0,af hs (w:=[42]) rfl b0,gB hs (w:=[105,102]) rfl,gB hs (w:=[119,104,105,108,101]) rfl,gB hs (w:=[102,111,114]) rfl,show be ts a [105,102]=false from bc Ae rfl,show be ts a [119,104,105,108,101]=false from bc Ae rfl,show be ts a [102,111,114]=false from bc Ae rfl,Ae,cT b1,df b1,hm]
   exact BS.er (c:=6) (p:=pl ts en (a+1)) (by decide) ((fb (ts:=ts) (en:=en) (c:=6) (p:=pl ts en (a+1)) (by decide)).mono fun k e=>⟨rfl,by have hc:(6:Int)≠0:=(by decide);simp only[go_sem,fv,fB hc,cf hc,e.1,aNa,ama]⟩)
  |true=>
  have hl1:=jE hm;simp only[go_sem,nJ,nS,bt,bP,aa,bw,gw,dM,fR,reduceIte,hn,aG b0,af hs (w:=[42]) rfl b0,gB hs (w:=[105,102]) rfl,gB hs (w:=[119,104,105,108,101]) rfl,gB hs (w:=[102,111,114]) rfl,show be ts a [105,102]=false from bc Ae rfl,show be ts a [119,104,105,108,101]=false from bc Ae rfl,show be ts a [102,111,114]=false from bc Ae rfl,Ae,cT b1,df b1,hm]
  cases h1:be ts (a+1+1) [61] with
  |false=>simp only[go_sem,bC b2,aI hs (w:=[61]) rfl b2,h1,reduceIte];exact BS.er (c:=6) (p:=pl ts en (a+1+1)) (by decide) ((fb (ts:=ts) (en:=en) (c:=6) (p:=pl ts en (a+1+1)) (by decide)).mono fun k e=>⟨rfl,by have hc:(6:Int)≠0:=(by decide);simp only[go_sem,fv,fB hc,cf hc,e.1,aNa,ama]⟩)
  |true=>
  have XP:=bz h1;simp only[go_sem,bC b2,aI hs (w:=[61]) rfl b2,h1,reduceIte];refine BS.bind (F3 hs (a:=a+1+1+1) ⟨by omega,p2,by omega,p4⟩) (fun x1 a1 d1 mO g1=>?_) (fun c p hc=>(fb (ts:=ts) (en:=en) (p:=p) hc).mono fun k e v a' eg d'=>⟨rfl,by simp only[go_sem,fv,fB hc,cf hc,aNa,ama]⟩)
  obtain⟨q11,q12,rfl,q13,L4,PG,q16,q17,OP,q19⟩:=g1;have c1:a1≤4000000000000000000:=by omega
  have OU:a1+1≤4000000000000000000:=by omega
  have m1:mO.length≤4000000:=by omega
  cases h2:be ts (a1) [59] with
  |false=>simp only[go_sem,bC c1,aI hs (w:=[59]) rfl c1,h2,reduceIte];exact BS.er (c:=6) (p:=pl ts en (a1)) (by decide) ((fb (ts:=ts) (en:=en) (c:=6) (p:=pl ts en (a1)) (by decide)).mono fun k e=>⟨rfl,by have hc:(6:Int)≠0:=(by decide);simp only[go_sem,fv,cf hc,aNa,ama]⟩)
  |true=>
  have Tu:=bz h2;simp only[go_sem,bC c1,aI hs (w:=[59]) rfl c1,h2,reduceIte];simp only[go_sem,gX m1,fj m1];exact BS.ok (kF (by omega) (by omega) (by omega) L4 PG ⟨by simp;omega,by simpa[ce] using OP,by simp⟩ rfl (by rw[oJ];exact q19))
 |false=>
 cases Nu:be ts a [105,102] with
 |true=>
  have hl0:=bz Nu;refine BS.succ (BS.succ ?_);simp only[go_sem,nJ (_+1),nS (_+1),bt,bP,Js,j0,aa,bw,gw,dM,fR,a5a,reduceIte,hn,aa6,aa7,aG b0,af hs (w:=[42]) rfl b0,gB hs (w:=[105,102]) rfl,af hs (w:=[105,102]) rfl b0,gB hs (w:=[119,104,105,108,101]) rfl,gB hs (w:=[102,111,114]) rfl,af hs (w:=[114,101,97,100]) rfl b0,af hs (w:=[112,114,105,110,116]) rfl b0,af hs (w:=[97,115,115,101,114,116]) rfl b0,af hs (w:=[115,116,111,112]) rfl b0,af hs (w:=[114,101,116,117,114,110]) rfl b0,show be ts a [42]=false from bc Nu rfl,show be ts a [119,104,105,108,101]=false from bc Nu rfl,show be ts a [102,111,114]=false from bc Nu rfl,show be ts a [114,101,97,100]=false from bc Nu rfl,show be ts a [112,114,105,110,116]=false from bc Nu rfl,show be ts a [97,115,115,101,114,116]=false from bc Nu rfl,show be ts a [115,116,111,112]=false from bc Nu rfl,show be ts a [114,101,116,117,114,110]=false from bc Nu rfl,Nu]
  refine BS.bind ((Yv hs (a:=a+1) ⟨by omega,p2,by omega,p4⟩).up) (fun x1 a1 d1 mO g1=>?_) (fun c p hc=>(fb (ts:=ts) (en:=en) (p:=p) hc).mono fun k e v a' eg d'=>⟨rfl,by simp only[go_sem,fv,Ab hc,cf hc,e.2.2,aNa,ama]⟩)
  obtain⟨q11,q12,rfl,q13,L4,PG,q16,q17,OP,q19⟩:=g1;have c1:a1≤4000000000000000000:=by omega
  have OU:a1+1≤4000000000000000000:=by omega
  have m1:mO.length≤4000000:=by omega
  refine BS.bind ((IH (a1) _ _ (by omega) ⟨by omega,p2,by omega,PG⟩).up) (fun x2 a2 d2 pY g2=>?_) (fun c p hc=>(fb (ts:=ts) (en:=en) (p:=p) hc).mono fun k e v a' eg d'=>⟨rfl,by simp only[go_sem,fv,Ab hc,cf hc,e.2.2,aNa,ama]⟩)
  obtain⟨q21,q22,rfl,q23,Oo,q25,q26,q27,q28,q29⟩:=g2;have c2:a2≤4000000000000000000:=by omega
  have c21:a2+1≤4000000000000000000:=by omega
  have m2:pY.length≤4000000:=by omega
  cases hel:be ts a2 [101,108,115,101] with
  |true=>
   have hl1:=bz hel;simp only[go_sem,a5a,reduceIte,aG c2,af hs (w:=[101,108,115,101]) rfl c2,hel];refine BS.bind ((IH (a2+1) _ _ (by omega) ⟨by omega,p2,by omega,q25⟩).up) (fun x3 a3 d3 Mn g3=>?_) (fun c p hc=>(fb (ts:=ts) (en:=en) (p:=p) hc).mono fun k e v a' eg d'=>⟨rfl,by simp only[go_sem,fv,cf hc,aNa,ama]⟩)
   obtain⟨q31,q32,rfl,q33,q34,q35,q36,q37,q38,q39⟩:=g3;have c3:a3≤4000000000000000000:=by omega
   have c31:a3+1≤4000000000000000000:=by omega
   have m3:Mn.length≤4000000:=by omega
   simp only[go_sem,gX m3,fj m3];exact BS.ok (kF (by omega) (by omega) (by omega) (L4.trans (Oo.trans q34)) q35 ⟨by simp;have:=Oo.length_le;have:=q34.length_le;omega,by simp[ce,OP,bfa.1 q28,bfa.1 q38,qc (Oo.trans q34) q16 q17,qc q34 q26 q27],by simp⟩ rfl (by rw[Qm,qZ (Oo.trans q34) q16 q17,qZ q34 q26 q27];omega))
  |false=>simp only[go_sem,reduceIte,aG c2,af hs (w:=[101,108,115,101]) rfl c2,hel,gX m2,fj m2];exact BS.ok (kF (by omega) (by omega) (by omega) (L4.trans Oo) q25 ⟨by simp;have:=Oo.length_le;omega,by simp[ce,OP,bfa.1 q28,qc Oo q16 q17],by simp⟩ rfl (by rw[ye,qZ Oo q16 q17];omega))
 |false=>
 cases td:be ts a [119,104,105,108,101] with
 |true=>
  have hl0:=bz td;refine BS.succ (BS.succ ?_);simp only[go_sem,nJ (_+1),nS (_+1),bt,bP,Js,j0,aa,bw,gw,dM,fR,a5a,reduceIte,hn,aa6,aa7,aG b0,af hs (w:=[42]) rfl b0,gB hs (w:=[105,102]) rfl,af hs (w:=[105,102]) rfl b0,gB hs (w:=[119,104,105,108,101]) rfl,af hs (w:=[119,104,105,108,101]) rfl b0,gB hs (w:=[102,111,114]) rfl,af hs (w:=[114,101,97,100]) rfl b0,af hs (w:=[112,114,105,110,116]) rfl b0,af hs (w:=[97,115,115,101,114,116]) rfl b0,af hs (w:=[115,116,111,112]) rfl b0,af hs (w:=[114,101,116,117,114,110]) rfl b0,show be ts a [42]=false from bc td rfl,show be ts a [105,102]=false from bc td rfl,show be ts a [102,111,114]=false from bc td rfl,show be ts a [114,101,97,100]=false from bc td rfl,show be ts a [112,114,105,110,116]=false from bc td rfl,show be ts a [97,115,115,101,114,116]=false from bc td rfl,show be ts a [115,116,111,112]=false from bc td rfl,show be ts a [114,101,116,117,114,110]=false from bc td rfl,td]
  refine BS.bind ((Yv hs (a:=a+1) ⟨by omega,p2,by omega,p4⟩).up) (fun x1 a1 d1 mO g1=>?_) (fun c p hc=>(fb (ts:=ts) (en:=en) (p:=p) hc).mono fun k e v a' eg d'=>⟨rfl,by simp only[go_sem,fv,cf hc,e.2.2,aNa,ama]⟩)
  obtain⟨q11,q12,rfl,q13,L4,PG,q16,q17,OP,q19⟩:=g1;have c1:a1≤4000000000000000000:=by omega
  have OU:a1+1≤4000000000000000000:=by omega
  have m1:mO.length≤4000000:=by omega
  refine BS.bind ((IH (a1) _ _ (by omega) ⟨by omega,p2,by omega,PG⟩).up) (fun x2 a2 d2 pY g2=>?_) (fun c p hc=>(fb (ts:=ts) (en:=en) (p:=p) hc).mono fun k e v a' eg d'=>⟨rfl,by simp only[go_sem,fv,cf hc,aNa,ama]⟩)
  obtain⟨q21,q22,rfl,q23,Oo,q25,q26,q27,q28,q29⟩:=g2;have c2:a2≤4000000000000000000:=by omega
  have c21:a2+1≤4000000000000000000:=by omega
  have m2:pY.length≤4000000:=by omega
  simp only[go_sem,gX m2,fj m2];exact BS.ok (kF (by omega) (by omega) (by omega) (L4.trans Oo) q25 ⟨by simp;have:=Oo.length_le;omega,by simp[ce,OP,bfa.1 q28,qc Oo q16 q17],by simp⟩ rfl (by rw[ye,qZ Oo q16 q17];omega))
 |false=>
 cases sx:be ts a [102,111,114] with
 |true=>
  have hl0:=bz sx;refine BS.succ (BS.succ ?_);cases hm:tr ts (a+1) 1 with
  |false=>
   simp only[go_sem,nJ (_+1),nS (_+1),bt,bP,Js,j0,aa,bw,gw,dM,fR,a5a,reduceIte,hn,aI hs (w:=[102,111,114]) rfl b0,aa6,aa7,aG b0,af hs (w:=[42]) rfl b0,gB hs (w:=[105,102]) rfl,af hs (w:=[105,102]) rfl b0,gB hs (w:=[119,104,105,108,101]) rfl,af hs (w:=[119,104,105,108,101]) rfl b0,gB hs (w:=[102,111,114]) rfl,af hs (w:=[114,101,97,100]) rfl b0,af hs (w:=[112,114,105,110,116]) rfl b0,af hs (w:=[97,115,115,101,114,116]) rfl b0,af hs (w:=[115,116,111,112]) rfl b0,af hs (w:=[114,101,116,117,114,110]) rfl b0,show be ts a [42]=false from bc sx rfl,show be ts a [105,102]=false from bc sx rfl,show be ts a [119,104,105,108,101]=false from bc sx rfl,show be ts a [114,101,97,100]=false from bc sx rfl,show be ts a [112,114,105,110,116]=false from bc sx rfl,show be ts a [97,115,115,101,114,116]=false from bc sx rfl,show be ts a [115,116,111,112]=false from bc sx rfl,show be ts a [114,101,116,117,114,110]=false from bc sx rfl,sx,TA,jT,cT b1,df b1,hm]
   exact BS.er (c:=6) (p:=pl ts en (a+1)) (by decide) ((fb (ts:=ts) (en:=en) (c:=6) (p:=pl ts en (a+1)) (by decide)).mono fun k e=>⟨rfl,by have hc:(6:Int)≠0:=(by decide);simp only[go_sem,fv,fB hc,cf hc,e.1,e.2.2,aNa,ama]⟩)
  |true=>
  have hl1:=jE hm;simp only[go_sem,nJ (_+1),nS (_+1),bt,bP,Js,j0,aa,bw,gw,dM,fR,a5a,reduceIte,hn,aI hs (w:=[102,111,114]) rfl b0,aa6,aa7,aG b0,af hs (w:=[42]) rfl b0,gB hs (w:=[105,102]) rfl,af hs (w:=[105,102]) rfl b0,gB hs (w:=[119,104,105,108,101]) rfl,af hs (w:=[119,104,105,108,101]) rfl b0,gB hs (w:=[102,111,114]) rfl,af hs (w:=[114,101,97,100]) rfl b0,af hs (w:=[112,114,105,110,116]) rfl b0,af hs (w:=[97,115,115,101,114,116]) rfl b0,af hs (w:=[115,116,111,112]) rfl b0,af hs (w:=[114,101,116,117,114,110]) rfl b0,show be ts a [42]=false from bc sx rfl,show be ts a [105,102]=false from bc sx rfl,show be ts a [119,104,105,108,101]=false from bc sx rfl,show be ts a [114,101,97,100]=false from bc sx rfl,show be ts a [112,114,105,110,116]=false from bc sx rfl,show be ts a [97,115,115,101,114,116]=false from bc sx rfl,show be ts a [115,116,111,112]=false from bc sx rfl,show be ts a [114,101,116,117,114,110]=false from bc sx rfl,sx,TA,jT,cT b1,df b1,hm,sK hl1]
  cases h1:be ts (a+1+1) [61] with
  |false=>simp only[go_sem,bC b2,aI hs (w:=[61]) rfl b2,h1,reduceIte];exact BS.er (c:=6) (p:=pl ts en (a+1+1)) (by decide) ((fb (ts:=ts) (en:=en) (c:=6) (p:=pl ts en (a+1+1)) (by decide)).mono fun k e=>⟨rfl,by have hc:(6:Int)≠0:=(by decide);simp only[go_sem,fv,fB hc,cf hc,e.1,e.2.2,aNa,ama]⟩)
  |true=>
  have XP:=bz h1;simp only[go_sem,bC b2,aI hs (w:=[61]) rfl b2,h1,a5a,reduceIte];refine BS.bind (F3 hs (a:=a+1+1+1) ⟨by omega,p2,by omega,p4⟩) (fun x1 a1 d1 mO g1=>?_) (fun c p hc=>(fb (ts:=ts) (en:=en) (p:=p) hc).mono fun k e v a' eg d'=>⟨rfl,by simp only[go_sem,fv,fB hc,cf hc,e.1,e.2.2,aNa,ama]⟩)
  obtain⟨q11,q12,rfl,q13,L4,PG,q16,q17,OP,q19⟩:=g1;have c1:a1≤4000000000000000000:=by omega
  have OU:a1+1≤4000000000000000000:=by omega
  have m1:mO.length≤4000000:=by omega
  cases h2:be ts (a1) [46,46] with
  |false=>simp only[go_sem,bC c1,aI hs (w:=[46,46]) rfl c1,h2,reduceIte];exact BS.er (c:=6) (p:=pl ts en (a1)) (by decide) ((fb (ts:=ts) (en:=en) (c:=6) (p:=pl ts en (a1)) (by decide)).mono fun k e=>⟨rfl,by have hc:(6:Int)≠0:=(by decide);simp only[go_sem,fv,cf hc,e.1,e.2.2,aNa,ama]⟩)
  |true=>
  have Tu:=bz h2;simp only[go_sem,bC c1,aI hs (w:=[46,46]) rfl c1,h2,a5a,reduceIte];refine BS.bind (F3 hs (a:=a1+1) ⟨by omega,p2,by omega,PG⟩) (fun x2 a2 d2 pY g2=>?_) (fun c p hc=>(fb (ts:=ts) (en:=en) (p:=p) hc).mono fun k e v a' eg d'=>⟨rfl,by simp only[go_sem,fv,cf hc,e.2.2,aNa,ama]⟩)
  obtain⟨q21,q22,rfl,q23,Oo,q25,q26,q27,q28,q29⟩:=g2;have c2:a2≤4000000000000000000:=by omega
  have c21:a2+1≤4000000000000000000:=by omega
  have m2:pY.length≤4000000:=by omega
  simp only[go_sem,a5a];refine BS.bind (IH (a2) _ _ (by omega) ⟨by omega,p2,by omega,q25⟩) (fun x3 a3 d3 Mn g3=>?_) (fun c p hc=>(fb (ts:=ts) (en:=en) (p:=p) hc).mono fun k e v a' eg d'=>⟨rfl,by simp only[go_sem,fv,cf hc,aNa,ama]⟩)
  obtain⟨q31,q32,rfl,q33,q34,q35,q36,q37,q38,q39⟩:=g3;have c3:a3≤4000000000000000000:=by omega
  have c31:a3+1≤4000000000000000000:=by omega
  have m3:Mn.length≤4000000:=by omega
  simp only[go_sem,gX m3,fj m3];exact BS.ok (kF (by omega) (by omega) (by omega) (L4.trans (Oo.trans q34)) q35 ⟨by simp;have:=Oo.length_le;have:=q34.length_le;omega,by simp[ce,OP,q28,bfa.1 q38,qc (Oo.trans q34) q16 q17,qc q34 q26 q27],by simp⟩ rfl (by rw[Qm,qZ (Oo.trans q34) q16 q17,qZ q34 q26 q27];omega))
 |false=>
 refine BS.succ ?_;cases vO:be ts a [114,101,97,100] with
 |true=>
  have hl0:=bz vO;cases hm:tr ts (a+1) 1 with
  |false=>
   simp only[go_sem,nJ,nS,bt,bP,aa,bw,gw,dM,fR,reduceIte,hn,aG b0,af hs (w:=[42]) rfl b0,gB hs (w:=[105,102]) rfl,gB hs (w:=[119,104,105,108,101]) rfl,gB hs (w:=[102,111,114]) rfl,af hs (w:=[114,101,97,100]) rfl b0,show be ts a [42]=false from bc vO rfl,show be ts a [105,102]=false from bc vO rfl,show be ts a [119,104,105,108,101]=false from bc vO rfl,show be ts a [102,111,114]=false from bc vO rfl,vO,cT b1,df b1,hm]
   exact BS.er (c:=6) (p:=pl ts en (a+1)) (by decide) ((fb (ts:=ts) (en:=en) (c:=6) (p:=pl ts en (a+1)) (by decide)).mono fun k e=>⟨rfl,by have hc:(6:Int)≠0:=(by decide);simp only[go_sem,fv,fB hc,cf hc,aNa,ama]⟩)
  |true=>
  have hl1:=jE hm;simp only[go_sem,nJ,nS,bt,bP,aa,bw,gw,dM,fR,reduceIte,hn,aG b0,af hs (w:=[42]) rfl b0,gB hs (w:=[105,102]) rfl,gB hs (w:=[119,104,105,108,101]) rfl,gB hs (w:=[102,111,114]) rfl,af hs (w:=[114,101,97,100]) rfl b0,show be ts a [42]=false from bc vO rfl,show be ts a [105,102]=false from bc vO rfl,show be ts a [119,104,105,108,101]=false from bc vO rfl,show be ts a [102,111,114]=false from bc vO rfl,vO,cT b1,df b1,hm,kn (d:=a+1) b1,bj (il hl1),sK hl1]
  cases h2:be ts (a+1+1) [59] with
  |false=>simp only[go_sem,bC b2,aI hs (w:=[59]) rfl b2,h2,reduceIte];exact BS.er (c:=6) (p:=pl ts en (a+1+1)) (by decide) ((fb (ts:=ts) (en:=en) (c:=6) (p:=pl ts en (a+1+1)) (by decide)).mono fun k e=>⟨rfl,by have hc:(6:Int)≠0:=(by decide);simp only[go_sem,fv,cf hc,aNa,ama]⟩)
  |true=>
  have Tu:=bz h2;simp only[go_sem,bC b2,aI hs (w:=[59]) rfl b2,h2,reduceIte];simp only[go_sem,gX bn,fj bn];exact BS.ok (kF (by omega) (by omega) (by omega) (aVa _) p4 (rZ rfl (by decide)) rfl (by simp[jz]))
 |false=>
 cases zu:be ts a [112,114,105,110,116] with
 |true=>
  have hl0:=bz zu;simp only[go_sem,nJ,nS,bt,bP,aa,bw,gw,dM,fR,reduceIte,hn,aG b0,af hs (w:=[42]) rfl b0,gB hs (w:=[105,102]) rfl,gB hs (w:=[119,104,105,108,101]) rfl,gB hs (w:=[102,111,114]) rfl,af hs (w:=[114,101,97,100]) rfl b0,af hs (w:=[112,114,105,110,116]) rfl b0,show be ts a [42]=false from bc zu rfl,show be ts a [105,102]=false from bc zu rfl,show be ts a [119,104,105,108,101]=false from bc zu rfl,show be ts a [102,111,114]=false from bc zu rfl,show be ts a [114,101,97,100]=false from bc zu rfl,zu]
  refine BS.bind (F3 hs (a:=a+1) ⟨by omega,p2,by omega,p4⟩) (fun x1 a1 d1 mO g1=>?_) (fun c p hc=>(fb (ts:=ts) (en:=en) (p:=p) hc).mono fun k e v a' eg d'=>⟨rfl,by simp only[go_sem,fv,fB hc,cf hc,aNa,ama]⟩)
  obtain⟨q11,q12,rfl,q13,L4,PG,q16,q17,OP,q19⟩:=g1;have c1:a1≤4000000000000000000:=by omega
  have OU:a1+1≤4000000000000000000:=by omega
  have m1:mO.length≤4000000:=by omega
  cases h2:be ts (a1) [59] with
  |false=>simp only[go_sem,bC c1,aI hs (w:=[59]) rfl c1,h2,reduceIte];exact BS.er (c:=6) (p:=pl ts en (a1)) (by decide) ((fb (ts:=ts) (en:=en) (c:=6) (p:=pl ts en (a1)) (by decide)).mono fun k e=>⟨rfl,by have hc:(6:Int)≠0:=(by decide);simp only[go_sem,fv,cf hc,aNa,ama]⟩)
  |true=>
  have Tu:=bz h2;simp only[go_sem,bC c1,aI hs (w:=[59]) rfl c1,h2,reduceIte];simp only[go_sem,gX m1,fj m1];exact BS.ok (kF (by omega) (by omega) (by omega) L4 PG ⟨by simp;omega,by simpa[ce] using OP,by simp⟩ rfl (by rw[oJ];exact q19))
 |false=>
 cases tc:be ts a [97,115,115,101,114,116] with
 |true=>
  have hl0:=bz tc;simp only[go_sem,nJ,nS,bt,bP,aa,bw,gw,dM,fR,reduceIte,hn,aG b0,af hs (w:=[42]) rfl b0,gB hs (w:=[105,102]) rfl,gB hs (w:=[119,104,105,108,101]) rfl,gB hs (w:=[102,111,114]) rfl,af hs (w:=[114,101,97,100]) rfl b0,af hs (w:=[112,114,105,110,116]) rfl b0,af hs (w:=[97,115,115,101,114,116]) rfl b0,show be ts a [42]=false from bc tc rfl,show be ts a [105,102]=false from bc tc rfl,show be ts a [119,104,105,108,101]=false from bc tc rfl,show be ts a [102,111,114]=false from bc tc rfl,show be ts a [114,101,97,100]=false from bc tc rfl,show be ts a [112,114,105,110,116]=false from bc tc rfl,tc]
  refine BS.bind (Yv hs (a:=a+1) ⟨by omega,p2,by omega,p4⟩) (fun x1 a1 d1 mO g1=>?_) (fun c p hc=>(fb (ts:=ts) (en:=en) (p:=p) hc).mono fun k e v a' eg d'=>⟨rfl,by simp only[go_sem,fv,fB hc,cf hc,aNa,ama]⟩)
  obtain⟨q11,q12,rfl,q13,L4,PG,q16,q17,OP,q19⟩:=g1;have c1:a1≤4000000000000000000:=by omega
  have OU:a1+1≤4000000000000000000:=by omega
  have m1:mO.length≤4000000:=by omega
  cases h2:be ts (a1) [59] with
  |false=>simp only[go_sem,bC c1,aI hs (w:=[59]) rfl c1,h2,reduceIte];exact BS.er (c:=6) (p:=pl ts en (a1)) (by decide) ((fb (ts:=ts) (en:=en) (c:=6) (p:=pl ts en (a1)) (by decide)).mono fun k e=>⟨rfl,by have hc:(6:Int)≠0:=(by decide);simp only[go_sem,fv,cf hc,aNa,ama]⟩)
  |true=>
  have Tu:=bz h2;simp only[go_sem,bC c1,aI hs (w:=[59]) rfl c1,h2,reduceIte];simp only[go_sem,gX m1,fj m1];exact BS.ok (kF (by omega) (by omega) (by omega) L4 PG ⟨by simp;omega,by simpa[ce] using OP,by simp⟩ rfl (by rw[oJ];exact q19))
 |false=>
 cases Af:be ts a [115,116,111,112] with
 |true=>
  have hl0:=bz Af;simp only[go_sem,nJ,nS,bt,bP,aa,bw,gw,dM,fR,reduceIte,hn,aG b0,af hs (w:=[42]) rfl b0,gB hs (w:=[105,102]) rfl,gB hs (w:=[119,104,105,108,101]) rfl,gB hs (w:=[102,111,114]) rfl,af hs (w:=[114,101,97,100]) rfl b0,af hs (w:=[112,114,105,110,116]) rfl b0,af hs (w:=[97,115,115,101,114,116]) rfl b0,af hs (w:=[115,116,111,112]) rfl b0,show be ts a [42]=false from bc Af rfl,show be ts a [105,102]=false from bc Af rfl,show be ts a [119,104,105,108,101]=false from bc Af rfl,show be ts a [102,111,114]=false from bc Af rfl,show be ts a [114,101,97,100]=false from bc Af rfl,show be ts a [112,114,105,110,116]=false from bc Af rfl,show be ts a [97,115,115,101,114,116]=false from bc Af rfl,Af]
  cases h2:be ts (a+1) [59] with
  |false=>simp only[go_sem,bC b1,aI hs (w:=[59]) rfl b1,h2,reduceIte];exact BS.er (c:=6) (p:=pl ts en (a+1)) (by decide) ((fb (ts:=ts) (en:=en) (c:=6) (p:=pl ts en (a+1)) (by decide)).mono fun k e=>⟨rfl,by have hc:(6:Int)≠0:=(by decide);simp only[go_sem,fv,cf hc,aNa,ama]⟩)
  |true=>
  have Tu:=bz h2;simp only[go_sem,bC b1,aI hs (w:=[59]) rfl b1,h2,reduceIte];simp only[go_sem,gX bn,fj bn];exact BS.ok (kF (by omega) (by omega) (by omega) (aVa _) p4 (rZ rfl (by decide)) rfl (by simp[jz]))
 |false=>
 cases p8:be ts a [114,101,116,117,114,110] with
 |true=>
  have hl0:=bz p8;simp only[go_sem,nJ,nS,bt,bP,aa,bw,gw,dM,fR,reduceIte,hn,aG b0,af hs (w:=[42]) rfl b0,gB hs (w:=[105,102]) rfl,gB hs (w:=[119,104,105,108,101]) rfl,gB hs (w:=[102,111,114]) rfl,af hs (w:=[114,101,97,100]) rfl b0,af hs (w:=[112,114,105,110,116]) rfl b0,af hs (w:=[97,115,115,101,114,116]) rfl b0,af hs (w:=[115,116,111,112]) rfl b0,af hs (w:=[114,101,116,117,114,110]) rfl b0,show be ts a [42]=false from bc p8 rfl,show be ts a [105,102]=false from bc p8 rfl,show be ts a [119,104,105,108,101]=false from bc p8 rfl,show be ts a [102,111,114]=false from bc p8 rfl,show be ts a [114,101,97,100]=false from bc p8 rfl,show be ts a [112,114,105,110,116]=false from bc p8 rfl,show be ts a [97,115,115,101,114,116]=false from bc p8 rfl,show be ts a [115,116,111,112]=false from bc p8 rfl,p8]
  refine BS.bind (F3 hs (a:=a+1) ⟨by omega,p2,by omega,p4⟩) (fun x1 a1 d1 mO g1=>?_) (fun c p hc=>(fb (ts:=ts) (en:=en) (p:=p) hc).mono fun k e v a' eg d'=>⟨rfl,by simp only[go_sem,fv,fB hc,cf hc,aNa,ama]⟩)
  obtain⟨q11,q12,rfl,q13,L4,PG,q16,q17,OP,q19⟩:=g1;have c1:a1≤4000000000000000000:=by omega
  have OU:a1+1≤4000000000000000000:=by omega
  have m1:mO.length≤4000000:=by omega
  cases h2:be ts (a1) [59] with
  |false=>simp only[go_sem,bC c1,aI hs (w:=[59]) rfl c1,h2,reduceIte];exact BS.er (c:=6) (p:=pl ts en (a1)) (by decide) ((fb (ts:=ts) (en:=en) (c:=6) (p:=pl ts en (a1)) (by decide)).mono fun k e=>⟨rfl,by have hc:(6:Int)≠0:=(by decide);simp only[go_sem,fv,cf hc,aNa,ama]⟩)
  |true=>
  have Tu:=bz h2;simp only[go_sem,bC c1,aI hs (w:=[59]) rfl c1,h2,reduceIte];simp only[go_sem,gX m1,fj m1];exact BS.ok (kF (by omega) (by omega) (by omega) L4 PG ⟨by simp;omega,by simpa[ce] using OP,by simp⟩ rfl (by rw[oJ];exact q19))
 |false=>simp only[go_sem,nJ,nS,bt,bP,aa,bw,gw,dM,fR,reduceIte,hn,aG b0,af hs (w:=[42]) rfl b0,gB hs (w:=[105,102]) rfl,gB hs (w:=[119,104,105,108,101]) rfl,gB hs (w:=[102,111,114]) rfl,af hs (w:=[114,101,97,100]) rfl b0,af hs (w:=[112,114,105,110,116]) rfl b0,af hs (w:=[97,115,115,101,114,116]) rfl b0,af hs (w:=[115,116,111,112]) rfl b0,af hs (w:=[114,101,116,117,114,110]) rfl b0,Ae,Nu,td,sx,vO,zu,tc,Af,p8,Aj,KJ];exact BS.er (c:=6) (p:=pl ts en a) (by decide) ((fb (ts:=ts) (en:=en) (c:=6) (p:=pl ts en a) (by decide)).mono fun k e=>⟨rfl,by have hc:(6:Int)≠0:=(by decide);simp only[go_sem,fv,fB hc,cf hc,aNa,ama]⟩)
theorem Yl(hs:oT ts):∀ m a,ts.length - a≤m→∀ a',a≤a'→∀ d ns,xI ts a' d ns→StB ts en a' d ns∧BlB ts en a' d ns:=by
 intro m;induction m with
 |zero=>intro a hm a' ha d ns hp;exact⟨QQ hs hp fun a2 d2 pY h2 p2=>by have:=p2.hi;have:=hp.hi;omega,MK hs hp fun a2 d2 pY h2 p2=>by have:=p2.hi;have:=hp.hi;omega⟩
 |succ m ih=>intro a hm a' ha d ns hp;exact⟨QQ hs hp fun a2 d2 pY h2 p2=>(ih (a+1) (by omega) a2 (by omega) d2 pY p2).2,MK hs hp fun a2 d2 pY h2 p2=>(ih (a+1) (by omega) a2 (by omega) d2 pY p2).1⟩
theorem aaL(hs:oT ts)(hp:xI ts a d ns):StB ts en a d ns:=(Yl hs _ a (ava _) a (ava _) d ns hp).1
end
end Go.Fx.R5
namespace Go.Fx.R5
open Go Go.Fx
section
variable {ts:List zn} {en:Int} {c p:Int} {a d:Nat} {ns:List ey}
def FR(pre:XI)(r:OT)(o:Option ((Int×List ey×XI×Unit)⊕(Int×Int×Unit))):Prop:=match r with
 |.ok l a ns=>o=some (.inl ((a:Int),ns,pre++l,()))
 |.er c p=>o=some (.inr (c,p,()))
def FT(r:OT)(o:Option (Int×List ey×Int×Int×XI×Unit)):Prop:=match r with
 |.ok l a ns=>o=some ((a:Int),ns,0,0,l,())
 |.er c p=>∃(l:XI) (a:Nat) (ns:List ey),o=some ((a:Int),ns,c,p,l,())∧l.length≤2000000
theorem Cg{w:ak}(h:¬ a<ts.length):be ts a w=false:=by
 cases h':be ts a w with
 |false=>rfl
 |true=>exact absurd (bz h') h
theorem RT{k:Int}(hk:vT k=true)(hs0:ce k []=true)(h4:k≠4){l:XI}{y:ey}(hy:y.1=k)(Ko:y.2.2.2.2=[])(h:iO vT ns l)(hp:jl ns):
  jl (ns++[y])∧iO vT (ns++[y]) (l++[(ns.length:Int)]):=by
 obtain⟨k',a',n',s',l'⟩:=y;simp only at hy Ko;subst hy;subst Ko;refine⟨hp.add (rZ hs0 h4),(h.up (aJa _ _)).add (by omega) (by simp;omega) (by rw[qD];exact hk)⟩
theorem Ud(hs:oT ts):∀ m a (ns:List ey) (l:XI),ts.length - a≤m→xI ts a d ns→iO vT ns l→1≤l.length→l.length≤a→
  ∃ r,OS ts vT a ns l.length (jz ns l) r∧ct fun q k=>FR [] r (bY q k ts en (a:Int) ns l)∧FT (p6 ts en [41] r) (aq q k ts en (a:Int) ns 0 0 l):=by
 have h7:=hs.len;intro m;induction m with
 |zero=>
  intro a ns l hm hp hk hl hl2;have bq:¬ a<ts.length:=by omega
  have b0:a≤4000000000000000000:=by have:=hp.hi;omega
  have bk:l.length≤4000000:=by have:=hp.hi;omega
  have bl:(l.length:Int) > 0:=by omega
  have hc:(6:Int)≠0:=by decide
  refine⟨.ok l a ns,⟨by omega,hp.hi,by omega,aVa _,hp.all,hk,by omega,by omega⟩,ct.succ (ct.succ (ct.of fun q k=>⟨?_,?_⟩))⟩
  ·simp only[go_sem,FR,aQa,bY,aG b0,Cg bq,reduceIte]
  ·simp only[go_sem,p6,Cg bq,reduceIte]
   refine⟨l++[0],a,ns,?_,by have:=hp.hi;simp;omega⟩
   rw[aq];simp only[go_sem,aa,gB hs (w:=[41]) rfl,Cg bq,bl,aI hs (w:=[44]) rfl b0,reduceIte,dM,Nl hc,cf hc,cv bk];rw[aq];simp only[go_sem,aa,show((6:Int)==0)=false from rfl]
 |succ m ih=>
  intro a ns l hm hp hk hl hl2;obtain⟨p1,p2,p3,p4⟩:=hp;have b0:a≤4000000000000000000:=by omega
  have b1:a+1≤4000000000000000000:=by omega
  have bn:ns.length≤4000000:=by omega
  have bk:l.length≤4000000:=by omega
  have bl:(l.length:Int) > 0:=by omega
  have hc:(6:Int)≠0:=by decide
  cases Gb:be ts a [44] with
  |true=>
   have mg:be ts a [41]=false:=bc Gb rfl;have bq:=bz Gb;cases hn:tr ts (a+1) 1 with
   |false=>
    refine⟨.er 6 (pl ts en (a+1)),hc,ct.succ (ct.succ (ct.of fun q k=>⟨?_,l++[0],a+1,ns,?_,by simp;omega⟩))⟩
    ·simp only[go_sem,FR,bY,aG b0,Gb,reduceIte,jD b1 bn,hn]
    ·rw[aq]
     simp only[go_sem,aa,gB hs (w:=[41]) rfl,mg,Gb,bl,aI hs (w:=[44]) rfl b0,reduceIte,dM,df b1,hn,cf hc,cv bk];rw[aq];simp only[go_sem,aa,show((6:Int)==0)=false from rfl]
   |true=>
    have Tv:=jE hn;obtain⟨x1,x2⟩:=RT (k:=5) (y:=(5,(tk ts (a+1)).2.1,0,(tk ts (a+1)).2.2.1,[])) rfl rfl (by decide) rfl rfl hk p4
    obtain⟨r,gi,gr⟩:=ih (a+1+1) (ns++[(5,(tk ts (a+1)).2.1,0,(tk ts (a+1)).2.2.1,[])]) (l++[(ns.length:Int)]) (by omega) ⟨by omega,p2,by simp;omega,x1⟩ x2 (by simp) (by simp;omega)
    refine⟨r,gi.from (by omega) (by simp;omega) (aJa _ _) (by simp;omega) (by rw[qd,oJ,nT,zy,pz (aJa _ _) hk.v];simp;omega),ct.succ (gr.mono fun q k e=>⟨?_,?_⟩)⟩
    ·simp only[go_sem,bY,aG b0,Gb,reduceIte,jD b1 bn,hn,cv bk]
     exact e.1
    ·simp only[go_sem,aq,aa,gB hs (w:=[41]) rfl,mg,Gb,bl,aI hs (w:=[44]) rfl b0,reduceIte,dM,df b1,hn,sK Tv,fj bn,cv bk]
     exact e.2
  |false=>
   cases mg:be ts a [41] with
   |true=>
    refine⟨.ok l a ns,⟨by omega,p1,by omega,aVa _,p4,hk,by omega,by omega⟩,ct.succ (ct.of fun q k=>⟨?_,?_⟩)⟩
    ·simp only[go_sem,FR,aQa,bY,aG b0,Gb,reduceIte]
    ·simp only[go_sem,p6,mg,reduceIte,FT,aq,aa,gB hs (w:=[41]) rfl]
   |false=>
    refine⟨.ok l a ns,⟨by omega,p1,by omega,aVa _,p4,hk,by omega,by omega⟩,ct.succ (ct.succ (ct.of fun q k=>⟨?_,?_⟩))⟩
    ·simp only[go_sem,FR,aQa,bY,aG b0,Gb,reduceIte]
    ·simp only[go_sem,p6,mg,reduceIte]
     refine⟨l++[0],a,ns,?_,by simp;omega⟩
     rw[aq];simp only[go_sem,aa,gB hs (w:=[41]) rfl,mg,Gb,bl,aI hs (w:=[44]) rfl b0,reduceIte,dM,Nl hc,cf hc,cv bk];rw[aq];simp only[go_sem,aa,show((6:Int)==0)=false from rfl]
theorem Uc(hs:oT ts)(hp:xI ts a d ns):∃ r,OS ts vT a ns 0 0 r∧(∀ l' a' eg,r=.ok l' a' eg→be ts a' [41]=true)∧Ev fun k=>
    (∀ f:XI×Int×List ey→IT,(aa f fun cq=>(aE ts (a:Int) [41]).bind fun r5=>
      bif !r5.1 then
       (eN ts en r5.2.1 ns 5).bind fun r=>match r with
       |.inl r6=>
        (lA ([]:XI) ([r6.1])).bind fun l=>
        (bY k k ts en r6.2.1 r6.2.2.1 l).bind fun r=>match r with
        |.inl o=>
         (aY ts en o.1 ([41]:ak)).bind fun r=>match r with
         |.inl r8=>
          cq (o.2.2.1,r8.1,o.2.1)
         |.inr r9=>
          some (.inr (r9.1,r9.2.1,()))
        |.inr o2=>
         some (.inr (o2.1,o2.2.1,()))
       |.inr r7=>
        some (.inr (r7.1,r7.2.1,()))
      else
       cq ([],r5.2.1,ns))=match r with | .ok l' a' eg=>f (l',((a' + 1:Nat):Int),eg) | .er c p=>some (.inr (c,p,())))∧FT r (aq k k ts en (a:Int) ns 0 0 []):=by
  have h7:=hs.len;obtain⟨p1,p2,p3,p4⟩:=hp;have b0:a≤4000000000000000000:=by omega
  have bn:ns.length≤4000000:=by omega
  have hc:(6:Int)≠0:=by decide
  have a0:∀ v:Int,lA ([]:XI) [v]=some [v]:=fun v=>by simp[lA]
  cases mg:be ts a [41] with
  |true=>
    have hS:Ev fun k=>FT (.ok [] a ns) (aq k k ts en (a:Int) ns 0 0 []):=
      ct.jN (p2:=fun q k=>FT (.ok [] a ns) (aq q k ts en (a:Int) ns 0 0 [])) (ct.succ (ct.of fun q k=>by
        simp only[go_sem,FT,aq,aa,gB hs (w:=[41]) rfl,mg]))
    refine⟨.ok [] a ns,⟨by omega,p1,by omega,aVa _,p4,iO.nil,by simp,by simp[jz]⟩,(fun _ _ _ h=>by cases h;exact mg),hS.mono fun k e=>⟨fun f=>?_,e⟩⟩
    simp only[go_sem,aa,aG b0,mg,reduceIte]
  |false=>
  cases hn:tr ts a 1 with
  |false=>
    have hL:Ev fun k=>FT (.er 6 (pl ts en a)) (aq k k ts en (a:Int) ns 0 0 []):=
      ct.jN (p2:=fun q k=>FT (.er 6 (pl ts en a)) (aq q k ts en (a:Int) ns 0 0 [])) (ct.succ (ct.succ (ct.of fun q k=>by
        refine⟨[0],a,ns,?_,by simp⟩
        rw[aq];simp only[go_sem,aa,gB hs (w:=[41]) rfl,mg,aBa,show(((0:Nat):Int) > 0)=False from by simp,dM,df b0,hn,reduceIte,cf hc,a0]
        rw[aq];simp only[go_sem,aa,show((6:Int)==0)=false from rfl])))
    refine⟨.er 6 (pl ts en a),hc,(fun _ _ _ h=>by cases h),hL.mono fun k e=>⟨fun f=>?_,e⟩⟩
    simp only[go_sem,aa,aG b0,mg,reduceIte,jD b0 bn,hn]
  |true=>
    have bq:=jE hn;obtain⟨x1,x2⟩:=RT (k:=5) (y:=(5,(tk ts a).2.1,0,(tk ts a).2.2.1,[])) rfl rfl (by decide) rfl rfl (iO.nil (ns:=ns)) p4
    obtain⟨r,gi,gr⟩:=Ud (en:=en) (d:=d) hs _ (a+1) (ns++[(5,(tk ts a).2.1,0,(tk ts a).2.2.1,[])]) ([]++[(ns.length:Int)]) (ava _) ⟨by omega,p2,by simp;omega,x1⟩ x2 (by simp) (by simp)
    have hI:Ev fun k=>FR [] r (bY k k ts en ((a+1:Nat):Int) (ns++[(5,(tk ts a).2.1,0,(tk ts a).2.2.1,[])]) [(ns.length:Int)]):=(gr.mono fun q k e=>e.1).jN;have hS:Ev fun k=>FT (p6 ts en [41] r) (aq k k ts en (a:Int) ns 0 0 []):=
      ct.jN (p2:=fun q k=>FT (p6 ts en [41] r) (aq q k ts en (a:Int) ns 0 0 [])) (ct.succ (gr.mono fun q k e=>by
        simp only[go_sem,aq,aa,gB hs (w:=[41]) rfl,mg,aBa,show(((0:Nat):Int) > 0)=False from by simp,dM,df b0,hn,reduceIte,sK bq,fj bn,a0]
        exact e.2))
    have hE:=hI.and hS;cases r with
    |er c p=>
      refine⟨.er c p,gi,(fun _ _ _ h=>by cases h),hE.mono fun k e=>⟨fun f=>?_,e.2⟩⟩
      simp only[go_sem,aa,aG b0,mg,reduceIte,jD b0 bn,hn,a0];rw[show bY k k ts en ((a+1:Nat):Int) _ [(ns.length:Int)]=_ from e.1]
      rfl
    |ok l' a' eg=>
      have gi':LOk ts vT (a+1) (ns++[(5,(tk ts a).2.1,0,(tk ts a).2.2.1,[])]) ([]++[(ns.length:Int)]).length (jz (ns++[(5,(tk ts a).2.1,0,(tk ts a).2.2.1,[])]) ([]++[(ns.length:Int)])) l' a' eg:=gi;obtain⟨g1,g2,g3,g4,g5,g6,g7,g8⟩:=gi';rw[aQa,oJ,nT,zy] at g8;simp only[ata,ara,aBa] at g3 g7 g8;have b4:a'≤4000000000000000000:=by omega
      cases h3:be ts a' [41] with
      |true=>
        refine⟨.ok l' a' eg,⟨by omega,g2,by omega,(aJa _ _).trans g4,g5,g6,by omega,by omega⟩,(fun _ _ _ h=>by cases h;exact h3),hE.mono fun k e=>⟨fun f=>?_,?_⟩⟩
        · simp only[go_sem,aa,aG b0,mg,reduceIte,jD b0 bn,hn,a0]
          rw[show bY k k ts en ((a+1:Nat):Int) _ [(ns.length:Int)]=_ from e.1]
          simp only[go_sem,bC b4,h3,reduceIte,aQa]
        · have e2:=e.2
          simp only[p6,h3,reduceIte] at e2;exact e2
      |false=>
        refine⟨.er 6 (pl ts en a'),hc,(fun _ _ _ h=>by cases h),hE.mono fun k e=>⟨fun f=>?_,?_⟩⟩
        · simp only[go_sem,aa,aG b0,mg,reduceIte,jD b0 bn,hn,a0]
          rw[show bY k k ts en ((a+1:Nat):Int) _ [(ns.length:Int)]=_ from e.1]
          simp only[go_sem,bC b4,h3,reduceIte]
        · have e2:=e.2
          simp only[go_sem,p6,h3,reduceIte] at e2;exact e2
theorem Vo(hs:oT ts){kk:Int}(hk1:vT kk=true)(hk2:ce kk []=true)(hk4:kk≠4)(pre:XI)(afm:pre.length≤1000000):∀ m a (ns:List ey) (l:XI),ts.length - a≤m→xI ts a d ns→iO vT ns l→l.length≤a→
  ∃ r,OS ts vT a ns l.length (jz ns l) r∧ct fun q k=>FR pre r (cI q k ts en kk (a:Int) ns (pre++l))∧FT r (cS q k ts en kk (a:Int) ns 0 0 l):=by
 have h7:=hs.len;intro m;induction m with
 |zero=>
  intro a ns l hm hp hk hl2;have bq:¬ a<ts.length:=by omega
  have b0:a≤4000000000000000000:=by have:=hp.hi;omega
  refine⟨.ok l a ns,⟨by omega,hp.hi,by omega,aVa _,hp.all,hk,by omega,by omega⟩,ct.succ (ct.of fun q k=>⟨?_,?_⟩)⟩
  ·simp only[go_sem,FR,cI,aG b0,Cg bq,reduceIte]
  ·simp only[go_sem,FT,cS,af hs (w:=[44]) rfl b0,Cg bq,reduceIte]
 |succ m ih=>
  intro a ns l hm hp hk hl2;obtain⟨p1,p2,p3,p4⟩:=hp;have b0:a≤4000000000000000000:=by omega
  have b1:a+1≤4000000000000000000:=by omega
  have bn:ns.length≤4000000:=by omega
  have bk:l.length≤4000000:=by omega
  have bp:(pre++l).length≤4000000:=by simp;omega
  have hc:(6:Int)≠0:=by decide
  cases Gb:be ts a [44] with
  |false=>
   refine⟨.ok l a ns,⟨by omega,p1,by omega,aVa _,p4,hk,by omega,by omega⟩,ct.succ (ct.of fun q k=>⟨?_,?_⟩)⟩
   ·simp only[go_sem,FR,cI,aG b0,Gb,reduceIte]
   ·simp only[go_sem,FT,cS,af hs (w:=[44]) rfl b0,Gb,reduceIte]
  |true=>
   have bq:=bz Gb;cases hn:tr ts (a+1) 1 with
   |false=>
    refine⟨.er 6 (pl ts en (a+1)),hc,ct.succ (ct.succ (ct.of fun q k=>⟨?_,l++[0],a+1,ns,?_,by simp;omega⟩))⟩
    ·simp only[go_sem,FR,cI,aG b0,Gb,reduceIte,jD b1 bn,hn]
    ·rw[cS]
     simp only[go_sem,af hs (w:=[44]) rfl b0,Gb,reduceIte,dM,df b1,hn,cf hc,cv bk];rw[cS];simp only[go_sem,Ab hc]
   |true=>
    have Tv:=jE hn;obtain⟨x1,x2⟩:=RT (k:=kk) (y:=(kk,(tk ts (a+1)).2.1,0,(tk ts (a+1)).2.2.1,[])) hk1 hk2 hk4 rfl rfl hk p4;obtain⟨r,gi,gr⟩:=ih (a+1+1) (ns++[(kk,(tk ts (a+1)).2.1,0,(tk ts (a+1)).2.2.1,[])]) (l++[(ns.length:Int)]) (by omega) ⟨by omega,p2,by simp;omega,x1⟩ x2 (by simp;omega)
    refine⟨r,gi.from (by omega) (by simp;omega) (aJa _ _) (by simp;omega) (by rw[qd,oJ,nT,zy,pz (aJa _ _) hk.v];simp;omega),ct.succ (gr.mono fun q k e=>⟨?_,?_⟩)⟩
    ·simp only[go_sem,cI,aG b0,Gb,reduceIte,jD b1 bn,hn,cv bp,a1a]
     exact e.1
    ·simp only[go_sem,cS,af hs (w:=[44]) rfl b0,Gb,reduceIte,dM,df b1,hn,sK Tv,fj bn,cv bk]
     exact e.2
theorem TM(hs:oT ts)(pre:XI)(afm:pre.length≤1000000):∀ m a (ns:List ey) (l:XI),ts.length - a≤m→xI ts a d ns→iO vT ns l→l.length≤a→
  ∃ r,OS ts vT a ns l.length (jz ns l) r∧ct fun q k=>FR pre r (cw q k ts en (a:Int) ns (pre++l))∧FT r (cR q k ts en (a:Int) ns 0 0 l):=by
 have h7:=hs.len;intro m;induction m with
 |zero=>
  intro a ns l hm hp hk hl2;have bq:¬ a<ts.length:=by omega
  have b0:a≤4000000000000000000:=by have:=hp.hi;omega
  refine⟨.ok l a ns,⟨by omega,hp.hi,by omega,aVa _,hp.all,hk,by omega,by omega⟩,ct.succ (ct.of fun q k=>⟨?_,?_⟩)⟩
  ·simp only[go_sem,FR,cw,aa,sj b0,Cg bq]
  ·simp only[go_sem,FT,cR,aa,gB hs (w:=[118,97,114]) rfl,gB hs (w:=[114,101,102]) rfl,Cg bq]
 |succ m ih=>
  intro a ns l hm hp hk hl2;obtain⟨p1,p2,p3,p4⟩:=hp;have b0:a≤4000000000000000000:=by omega
  have b1:a+1≤4000000000000000000:=by omega
  have bn:ns.length≤4000000:=by omega
  have bk:l.length≤4000000:=by omega
  have bp:(pre++l).length≤4000000:=by simp;omega
  have hc:(6:Int)≠0:=by decide
  by_cases hv:be ts a [118,97,114]=true∨be ts a [114,101,102]=true
  ·have bq:a<ts.length:=hv.elim bz bz
   obtain⟨kk,hk1,hk2,hk4,Xc,Xd⟩:∃ kk:Int,vT kk=true∧ce kk []=true∧kk≠4∧
     (∀ q k,cw q (k+1) ts en (a:Int) ns (pre++l)=(eN ts en ((a+1:Nat):Int) ns kk).bind fun r=>match r with
      |.inl sO=>(lA (pre++l) ([sO.1])).bind fun l2=>(cI q q ts en kk sO.2.1 sO.2.2.1 l2).bind fun r=>match r with
       |.inl o3=>(aY ts en o3.1 ([59]:ak)).bind fun r=>match r with
        |.inl yP=>cw q k ts en yP.1 o3.2.1 o3.2.2.1
        |.inr BJ=>some (.inr (BJ.1,BJ.2.1,()))
       |.inr o4=>some (.inr (o4.1,o4.2.1,()))
      |.inr sX=>some (.inr (sX.1,sX.2.1,())))∧
     (∀ q k,cR q (k+1) ts en (a:Int) ns 0 0 l=(da ts ((a+1:Nat):Int) en).bind fun r4=>(dC ts ((a+1:Nat):Int) en 0 0).bind fun r5=>
      (aR ns r5.2.2.1 (kk,r4.1,0,r5.1,[])).bind fun r6=>(lA l ([r6.1])).bind fun l2=>
      (cS q q ts en kk r5.2.1 r6.2.1 r5.2.2.1 r5.2.2.2.1 l2).bind fun o=>(aK ts o.1 en o.2.2.1 o.2.2.2.1 ([59]:ak)).bind fun r7=>
      cR q k ts en r7.1 o.2.1 r7.2.1 r7.2.2.1 o.2.2.2.2.1):=by
    rcases hv with hv|hv
    ·have hr:be ts a [114,101,102]=false:=bc hv rfl
     exact⟨6,rfl,rfl,by decide,fun q k=>by simp only[go_sem,cw,aa,sj b0,hv,hr,ae (show a<_ by omega)];rfl,
      fun q k=>by simp only[go_sem,cR,aa,gB hs (w:=[118,97,114]) rfl,gB hs (w:=[114,101,102]) rfl,hv,hr,ae (show a<_ by omega)]⟩
    ·have hr:be ts a [118,97,114]=false:=bc hv rfl
     exact⟨7,rfl,rfl,by decide,fun q k=>by simp only[go_sem,cw,aa,sj b0,hv,hr,ae (show a<_ by omega)];rfl,
      fun q k=>by simp only[go_sem,cR,aa,gB hs (w:=[118,97,114]) rfl,gB hs (w:=[114,101,102]) rfl,hv,hr,ae (show a<_ by omega)]⟩
   cases hn:tr ts (a+1) 1 with
   |false=>
    refine⟨.er 6 (pl ts en (a+1)),hc,?_⟩;have hL:Ev fun q=>∃ l',cS q q ts en kk ((a+1:Nat):Int) ns 6 (pl ts en (a+1)) (l++[0])=some (((a+1:Nat):Int),ns,6,pl ts en (a+1),l',())∧l'.length≤2000000:=
     ct.jN (p2:=fun q k=>∃ l',cS q k ts en kk ((a+1:Nat):Int) ns 6 (pl ts en (a+1)) (l++[0])=some (((a+1:Nat):Int),ns,6,pl ts en (a+1),l',())∧l'.length≤2000000) (ct.succ (ct.of fun q k=>⟨l++[0],by simp only[go_sem,cS,Ab hc],by simp;omega⟩))
    refine ct.succ (ct.succ (hL.tZ.mono fun q k e=>?_));obtain⟨l',e,Mi⟩:=e;refine⟨?_,l',a+1,ns,?_,Mi⟩
    ·simp only[go_sem,FR,Xc,jD b1 bn,hn,reduceIte]
    ·rw[Xd]
     simp only[go_sem,dM,df b1,hn,reduceIte,cf hc,cv bk,e,fB hc];rw[cR];simp only[go_sem,aa,Nj hc]
   |true=>
    have Tv:=jE hn;obtain⟨x1,x2⟩:=RT (k:=kk) (y:=(kk,(tk ts (a+1)).2.1,0,(tk ts (a+1)).2.2.1,[])) hk1 hk2 hk4 rfl rfl hk p4;obtain⟨r,gi,gr⟩:=Vo (en:=en) (d:=d) hs hk1 hk2 hk4 pre afm _ (a+1+1) (ns++[(kk,(tk ts (a+1)).2.1,0,(tk ts (a+1)).2.2.1,[])]) (l++[(ns.length:Int)]) (ava _) ⟨by omega,p2,by simp;omega,x1⟩ x2 (by simp;omega)
    have gr:=gr.jN;cases r with
    |er c p=>
     have hc:c≠0:=gi;refine⟨.er c p,gi,ct.succ (ct.succ (gr.tZ.mono fun q k e=>?_))⟩;obtain⟨e1,l',a',eg,e2,Mi⟩:=e;refine⟨?_,l',a',eg,?_,Mi⟩
     ·simp only[go_sem,FR,Xc,jD b1 bn,hn,reduceIte,cv bp,a1a]
      rw[show cI q q ts en kk _ _ _=_ from e1];rfl
     ·rw[Xd]
      simp only[go_sem,dM,df b1,hn,reduceIte,sK Tv,fj bn,cv bk,e2,fB hc];rw[cR];simp only[go_sem,aa,Nj hc]
    |ok l' a' eg=>
     have gi':LOk ts vT (a+1+1) (ns++[(kk,(tk ts (a+1)).2.1,0,(tk ts (a+1)).2.2.1,[])]) (l++[(ns.length:Int)]).length (jz (ns++[(kk,(tk ts (a+1)).2.1,0,(tk ts (a+1)).2.2.1,[])]) (l++[(ns.length:Int)])) l' a' eg:=gi;obtain⟨g1,g2,g3,g4,g5,g6,g7,g8⟩:=gi';rw[qd,oJ,nT,zy,pz (aJa _ _) hk.v] at g8;simp only[ata,ara,aBa] at g3 g7 g8;have b4:a'≤4000000000000000000:=by omega
     cases Km:be ts a' [59] with
     |false=>
      refine⟨.er 6 (pl ts en a'),hc,ct.succ (ct.succ (gr.tZ.mono fun q k e=>?_))⟩;obtain⟨e1,e2⟩:=e;refine⟨?_,l',a',eg,?_,by omega⟩
      ·simp only[go_sem,FR,Xc,jD b1 bn,hn,reduceIte,cv bp,a1a]
       rw[show cI q q ts en kk _ _ _=_ from e1]
       simp only[go_sem,bC b4,Km,reduceIte]
      ·rw[Xd]
       simp only[go_sem,dM,df b1,hn,reduceIte,sK Tv,fj bn,cv bk];rw[show cS q q ts en kk _ _ 0 0 _=_ from e2]
       simp only[go_sem,aI hs (w:=[59]) rfl b4,Km,reduceIte];rw[cR];simp only[go_sem,aa,Nj hc]
     |true=>
      have agH:=bz Km;obtain⟨r,fi,fr⟩:=ih (a' + 1) eg l' (by omega) ⟨by omega,p2,by omega,g5⟩ g6 (by omega)
      refine⟨r,fi.from (by omega) (by omega) ((aJa _ _).trans g4) (by omega) (by omega),ct.succ ((gr.tZ.and fr).mono fun q k e=>?_)⟩
      obtain⟨⟨e1,e2⟩,e3,e4⟩:=e;refine⟨?_,?_⟩
      ·simp only[go_sem,Xc,jD b1 bn,hn,reduceIte,cv bp,a1a]
       rw[show cI q q ts en kk _ _ _=_ from e1]
       simp only[go_sem,bC b4,Km,reduceIte];exact e3
      ·rw[Xd]
       simp only[go_sem,dM,df b1,hn,reduceIte,sK Tv,fj bn,cv bk];rw[show cS q q ts en kk _ _ 0 0 _=_ from e2]
       simp only[go_sem,aI hs (w:=[59]) rfl b4,Km,reduceIte];exact e4
  ·simp only[cha,bva] at hv
   refine⟨.ok l a ns,⟨by omega,p1,by omega,aVa _,p4,hk,by omega,by omega⟩,ct.succ (ct.of fun q k=>⟨?_,?_⟩)⟩
   ·simp only[go_sem,FR,cw,aa,sj b0,hv.1,hv.2]
   ·simp only[go_sem,FT,cR,aa,gB hs (w:=[118,97,114]) rfl,gB hs (w:=[114,101,102]) rfl,hv.1,hv.2]
end
end Go.Fx.R5
namespace Go.Fx.R5
open Go Go.Fx
section
variable {ts:List zn} {en:Int} {c p:Int} {a d:Nat} {ns:List ey}
theorem PY(l:XI)(q:Nat):∀(m i k:Nat) (cE:XI),m+i=l.length→m<k→cE.length+m≤4000000→l.length≤4000000→eC q k l cE (i:Int)=some (cE++l.drop i,())
 |0,i,k+1,cE,h,_,h2,_=>by
  have:¬ i<l.length:=by omega
  have e:l.drop i=[]:=by simp;omega
  rw[e];simp[eC,this]
 |m+1,i,k+1,cE,h,hk,h2,h3=>by
  have bq:i<l.length:=by omega
  have e:l.drop i=l[i]::l.drop (i+1):=aSa bq;have e2:=PY l q m (i+1) k (cE++[l[i]]) (by omega) (by omega) (by simp;omega) h3
  simp only[go_sem,eC,Q3,bq,cX bq,aya,cv (show cE.length≤4000000 by omega),ae (show i<_ by omega),e2,e]
  simp
theorem S8(l cE:XI)(k:Nat)(hk:l.length<k)(h:cE.length+l.length≤4000000):eC k k l cE 0=some (cE++l,()):=
 PY l k l.length 0 k cE rfl hk h (by omega)
theorem agl(l cE:XI)(h:cE.length+l.length≤4000000):Ev fun k=>eC k k l cE 0=some (cE++l,()):=⟨l.length+1,fun k hk=>S8 l cE k (by omega) h⟩
theorem Wz(q:Nat):∀ k t e p n d c a b,eD q k t e p n d c a b=dZ (eu q) (lO q) (iS q) q k t e p n d c a b
 |0,_,_,_,_,_,_,_,_=>rfl
 |k+1,t,e,p,n,d,c,a,b=>by simp only[eD,dZ,Wz q k]
theorem aeQ(hc:c≠0):Ev fun k=>(∀(a:Nat) (ns:List ey) (l:XI),aq k k ts en (a:Int) ns c p l=some ((a:Int),ns,c,p,l,()))∧
  (∀(a:Nat) (ns:List ey) (d:Int) (l:XI),eD k k ts en (a:Int) ns d c p l=some ((a:Int),ns,d,c,p,l,())):=
 ct.jN (p2:=fun q k=>(∀(a:Nat) (ns:List ey) (l:XI),aq q k ts en (a:Int) ns c p l=some ((a:Int),ns,c,p,l,()))∧
  (∀(a:Nat) (ns:List ey) (d:Int) (l:XI),eD q k ts en (a:Int) ns d c p l=some ((a:Int),ns,d,c,p,l,()))) (ct.succ (ct.of fun q k=>⟨fun a ns l=>by
   simp only[go_sem,aq,aa,Q6.2 hc],fun a ns d l=>by
   simp only[go_sem,eD,aa,Q6.2 hc]⟩))
theorem Nm(hc:c≠0):Ev fun k=>(∀(a:Nat) (ns:List ey) (l:XI),aq k k ts en (a:Int) ns c p l=some ((a:Int),ns,c,p,l,())):=(aeQ hc).mono fun _ e=>e.1
theorem agi(hs:oT ts)(hp:xI ts a d ns):BS (xH ts (·==4) 1 a d ns) (fun k=>cV k ts en (a:Int) (d:Int) ns) (fun k=>dh k ts (a:Int) en ns (d:Int) 0 0):=by
 have h7:=hs.len;obtain⟨p1,p2,p3,p4⟩:=hp;have b0:a≤4000000000000000000:=by omega
 have b1:a+1≤4000000000000000000:=by omega
 have hc:(6:Int)≠0:=by decide
 cases hn:tr ts a 1 with
 |false=>
  refine BS.er (c:=6) (p:=pl ts en a) hc ((Nm (ts:=ts) (en:=en) (p:=pl ts en a) hc).mono fun k e=>⟨?_,?_⟩)
  ·simp only[go_sem,cV,cT b0,hn,reduceIte]
  ·simp only[go_sem,dh,dM,df b0,hn,reduceIte,fB hc,e,G8 hc,fv,ama,aNa]
 |true=>
 have bq:=jE hn;cases mm:be ts (a+1) [40] with
 |false=>
  refine BS.er (c:=6) (p:=pl ts en (a+1)) hc ((Nm (ts:=ts) (en:=en) (p:=pl ts en (a+1)) hc).mono fun k e=>⟨?_,?_⟩)
  ·simp only[go_sem,cV,cT b0,hn,bC b1,mm,reduceIte]
  ·simp only[go_sem,dh,dM,df b0,hn,aI hs (w:=[40]) rfl b1,mm,reduceIte,fB hc,e,G8 hc,fv,ama,aNa]
 |true=>
 have Tv:=bz mm;obtain⟨r,hi,hx,hr⟩:=Uc (en:=en) hs (a:=a+1+1) (d:=d) (ns:=ns) ⟨by omega,p2,by omega,p4⟩
 cases r with
 |er c p=>
  have hc:c≠0:=hi;refine BS.er (c:=c) (p:=p) hc (hr.mono fun k e=>?_);obtain⟨e1,l',a',eg,e2,_⟩:=e;refine⟨?_,?_⟩
  ·simp only[go_sem,cV,cT b0,hn,bC b1,mm,reduceIte]
   exact e1 _
  ·simp only[go_sem,dh,dM,df b0,hn,aI hs (w:=[40]) rfl b1,mm,reduceIte,e2,fB hc,G8 hc,fv,ama,aNa]
 |ok l1 a1 mO=>
  have mg:=hx _ _ _ rfl;have hi':LOk ts vT (a+1+1) ns 0 0 l1 a1 mO:=hi;obtain⟨g1,g2,g3,g4,g5,g6,g7,g8⟩:=hi';have Zo:=bz mg;have c1:a1≤4000000000000000000:=by omega
  have c2:a1+1≤4000000000000000000:=by omega
  cases rh:be ts (a1+1) [123] with
  |false=>
   refine BS.er (c:=6) (p:=pl ts en (a1+1)) hc (hr.mono fun k e=>?_);obtain⟨e1,e2⟩:=e;refine⟨?_,?_⟩
   ·simp only[go_sem,cV,cT b0,hn,bC b1,mm,reduceIte]
    refine(e1 _).trans ?_;simp only[go_sem,reduceIte,bw,bC c2,rh]
   ·simp only[go_sem,dh,dM,df b0,hn,aI hs (w:=[40]) rfl b1,mm,reduceIte,show aq k k ts en ((a+1+1:Nat):Int) ns 0 0 []=_ from e2,aI hs (w:=[41]) rfl c1,mg,aI hs (w:=[123]) rfl c2,rh,G8 hc,fv,ama,aNa]
  |true=>
  have ahq:=bz rh;by_cases hd:d<10
  rotate_left
  ·refine BS.er (c:=7) (p:=pl ts en (a1+1+1)) (by decide) (hr.mono fun k e=>?_)
   obtain⟨e1,e2⟩:=e;refine⟨?_,?_⟩
   ·simp only[go_sem,cV,cT b0,hn,bC b1,mm,reduceIte]
    refine(e1 _).trans ?_;simp only[go_sem,reduceIte,bw,bC c2,rh,gC p2,hd]
   ·simp only[go_sem,dh,dM,df b0,hn,aI hs (w:=[40]) rfl b1,mm,reduceIte,show aq k k ts en ((a+1+1:Nat):Int) ns 0 0 []=_ from e2,aI hs (w:=[41]) rfl c1,mg,aI hs (w:=[123]) rfl c2,rh,lJ p2,hd,fv,ama,aNa]
  obtain⟨r,gi,gr⟩:=TM (en:=en) (d:=d) hs l1 (by omega) _ (a1+1+1) mO [] (ava _) ⟨by omega,p2,by omega,g5⟩ iO.nil (by simp)
  have gr:=gr.jN;simp only[a9a] at gr;cases r with
  |er c p=>
   have hc:c≠0:=gi;obtain⟨K,gr⟩:=gr;refine BS.er (c:=c) (p:=p) hc ?_;have cpn:Ev fun k=>∀ l':XI,l'.length≤2000000→eC k k l' l1 0=some (l1++l',()):=
    ⟨2000002,fun k hk l' h=>S8 l' l1 k (by omega) (by omega)⟩
   refine((((hr.and ⟨K,gr⟩).and cpn).and (aeQ (ts:=ts) (en:=en) (p:=p) hc))).mono fun k e=>?_;obtain⟨⟨⟨⟨e1,e2⟩,e3,l',a',eg,e4,Mi⟩,e5⟩,_,e6⟩:=e;refine⟨?_,?_⟩
   ·simp only[go_sem,cV,cT b0,hn,bC b1,mm,reduceIte]
    refine(e1 _).trans ?_;simp only[go_sem,reduceIte,bw,bC c2,rh,gC p2,hd,show cw k k ts en ((a1+1+1:Nat):Int) mO l1=_ from e3]
   ·simp only[go_sem,dh,dM,df b0,hn,aI hs (w:=[40]) rfl b1,mm,reduceIte,show aq k k ts en ((a+1+1:Nat):Int) ns 0 0 []=_ from e2,aI hs (w:=[41]) rfl c1,mg,aI hs (w:=[123]) rfl c2,rh,lJ p2,hd,pA,e4,e5 l' Mi,e6,fB hc,cf hc,cv (show(l1++l').length≤4000000 by simp;omega),fv,ama,aNa]
  |ok l2 a2 pY=>
   have gi':LOk ts vT (a1+1+1) mO ([]:XI).length (jz mO []) l2 a2 pY:=gi;obtain⟨k1,k2,k3,k4,k5,k6,k7,k8⟩:=gi';rw[zy] at k8;simp only[aBa] at k7;obtain⟨r,fi,fx,fr⟩:=OA (en:=en) hs (d:=d+1) (by omega) (a0:=0) (fun a' eg h p=>aaL hs p) _ a2 pY [] (ava _) (by omega) ⟨k2,by omega,by omega,k5⟩ iO.nil (by simp)
   have fI:Ev fun k=>ZG r (d+1:Nat) (bR (dd k) (cY k) (gY k) (gk k) k k ts en (a2:Int) ((d+1:Nat):Int) pY []):=(fr.mono fun _ _ e=>e.1).jN;have fS:Ev fun k=>Pn [] r (d+1:Nat) (eD k k ts en (a2:Int) pY ((d+1:Nat):Int) 0 0 []):=(fr.mono fun _ _ e=>e.2).jN.mono fun k e=>by rw[Wz];exact e
   have hcp:Ev fun k=>eC k k l2 l1 0=some (l1++l2,()):=agl l2 l1 (by omega)
   cases r with
   |er c p=>
    have hc:c≠0:=fi;have fI2:Ev fun k=>dd k ts en (a2:Int) ((d+1:Nat):Int) pY (pl ts en (a1+1))=some (.inr (c,p,())):=Ev.succ (fI.mono fun k e=>by
     rw[I2,fE,show bR _ _ _ _ k k ts en (a2:Int) ((d+1:Nat):Int) pY []=_ from e];rfl)
    refine BS.er (c:=c) (p:=p) hc (((((hr.and gr).and fI2).and fS).and hcp).mono fun k e=>?_);obtain⟨⟨⟨⟨⟨e1,e2⟩,e3,e4⟩,e5⟩,l',a',eg,d',e6⟩,e7⟩:=e;refine⟨?_,?_⟩
    ·simp only[go_sem,cV,cT b0,hn,bC b1,mm,reduceIte]
     refine(e1 _).trans ?_;simp only[go_sem,reduceIte,bw,bC c2,rh,gC p2,hd,show cw k k ts en ((a1+1+1:Nat):Int) mO l1=_ from e3,e5]
    ·simp only[go_sem,dh,dM,df b0,hn,aI hs (w:=[40]) rfl b1,mm,reduceIte,show aq k k ts en ((a+1+1:Nat):Int) ns 0 0 []=_ from e2,aI hs (w:=[41]) rfl c1,mg,aI hs (w:=[123]) rfl c2,rh,lJ p2,hd,pA,show cR k k ts en ((a1+1+1:Nat):Int) mO 0 0 []=_ from e4,e7,e6,fB hc,cf hc,cv (show(l1++l2).length≤4000000 by simp;omega),fv,ama,aNa]
   |ok l3 a3 Mn=>
    have ae1:=fx _ _ _ rfl;have agH:=bz ae1;have fi':LOk ts Po a2 pY ([]:XI).length (jz pY []) l3 a3 Mn:=fi;obtain⟨j1,j2,j3,j4,j5,j6,j7,j8⟩:=fi';rw[zy] at j8;have c3:a3≤4000000000000000000:=by omega
    have m3:Mn.length≤4000000:=by omega
    have sR:jl (Mn++[(8,pl ts en (a1+1),0,[],l3)]):=j5.add ⟨j6.v,aaH j6,by simp,by simp at j7 ⊢;omega⟩
    have m4:(Mn++[(8,pl ts en (a1+1),0,[],l3)]:List ey).length≤4000000:=by simp;omega
    have fI2:Ev fun k=>dd k ts en (a2:Int) ((d+1:Nat):Int) pY (pl ts en (a1+1))=some (.inl ((Mn.length:Int),((a3+1:Nat):Int),(d:Int),Mn++[(8,pl ts en (a1+1),0,[],l3)],())):=Ev.succ (fI.mono fun k e=>by
     rw[I2,fE,show bR _ _ _ _ k k ts en (a2:Int) ((d+1:Nat):Int) pY []=_ from e]
     simp only[go_sem,gX m3,kn (show d≤_ by omega)])
    have kk:iO vT (Mn++[(8,pl ts en (a1+1),0,[],l3)]) (l1++l2):=by
     have q1:=g6.up (k4.trans (j4.trans (aJa Mn [(8,pl ts en (a1+1),0,[],l3)])));have q2:=k6.up (j4.trans (aJa Mn [(8,pl ts en (a1+1),0,[],l3)]));refine⟨fun j hj=>?_,fun j hj=>?_⟩
     ·rcases ala.1 hj with hj|hj
      ·exact q1.v j hj
      ·exact q2.v j hj
     ·rcases ala.1 hj with hj|hj
      ·exact q1.c j hj
      ·exact q2.c j hj
    have bk:(l1++l2).length≤4000000:=by simp;omega
    refine⟨.ok _ (a3+1) d ((Mn++[(8,pl ts en (a1+1),0,[],l3)])++[(4,(tk ts a).2.1,0,(tk ts a).2.2.1,l1++l2++[(Mn.length:Int)])]),kF (by omega) (by omega) (by simp;omega) (g4.trans (k4.trans (j4.trans (aJa _ _)))) sR ⟨?_,?_,fun _=>?_,by simp;omega⟩ rfl (by rw[qd,qd,oJ,nT,pz (k4.trans (j4.trans (aJa _ _))) g6.v,pz (j4.trans (aJa _ _)) k6.v];simp;omega),((((hr.and gr).and fI2).and fS).and hcp).mono fun k e=>?_⟩
    ·intro j hj
     rcases ala.1 hj with hj|hj
     ·exact kk.v j hj
     ·rw[Q7.1 hj];simp;omega
    ·have:(l1++l2).all (fun j=>vT (kd (Mn++[(8,pl ts en (a1+1),0,[],l3)]) j))=true:=apa.2 kk.c
     have:((l1++l2).map (kd (Mn++[(8,pl ts en (a1+1),0,[],l3)]))).all vT=true:=by rw[cKa];exact this
     rw[show List.map (kd (Mn++[(8,pl ts en (a1+1),0,[],l3)])) (l1++l2++[(Mn.length:Int)])=(l1++l2).map (kd (Mn++[(8,pl ts en (a1+1),0,[],l3)]))++[8] by simp[qD]]
     show((_:XI).dropLast.all vT&&_)=true;rw[List.dropLast_concat,this];simp
    ·rcases(QX hs bq).k with ⟨_,_,_,h⟩|⟨h,_⟩|⟨h,_⟩|⟨h,_⟩
     ·exact h
     ·rw[Kp hn] at h;cases h
     ·rw[Kp hn] at h;cases h
     ·rw[Kp hn] at h;cases h
    ·obtain⟨⟨⟨⟨e1,e2⟩,e3,e4⟩,e5⟩,e6⟩:=e.1
     have e7:=e.2;refine⟨?_,?_⟩
     ·simp only[go_sem,t6,cV,cT b0,hn,bC b1,mm,reduceIte]
      refine(e1 _).trans ?_;simp only[go_sem,reduceIte,bw,bC c2,rh,gC p2,hd,show cw k k ts en ((a1+1+1:Nat):Int) mO l1=_ from e3,e5,cv bk,gX m4]
     ·simp only[go_sem,NQ,dh,dM,df b0,hn,aI hs (w:=[40]) rfl b1,mm,reduceIte,show aq k k ts en ((a+1+1:Nat):Int) ns 0 0 []=_ from e2,aI hs (w:=[41]) rfl c1,mg,aI hs (w:=[123]) rfl c2,rh,lJ p2,hd,pA,show cR k k ts en ((a1+1+1:Nat):Int) mO 0 0 []=_ from e4,e7,show eD k k ts en (a2:Int) pY ((d+1:Nat):Int) 0 0 []=_ from e6,aI hs (w:=[125]) rfl c3,ae1,fj m3,aQa,cv bk,fj m4,sK bq,kn (show d≤_ by omega)]
end
end Go.Fx.R5
namespace Go.Fx.R5
open Go Go.Fx
section
variable {ts:List zn} {en:Int} {a d:Nat} {ns:List ey}
def LV(r:OT)(d:Int)(o:Option ((Int×Int×List ey×XI×Unit)⊕(Int×Int×Unit))):Prop:=match r with
 |.ok l a ns=>o=some (.inl ((a:Int),d,ns,l,()))
 |.er c p=>o=some (.inr (c,p,()))
theorem YU{k:Int}(hk:FQ k=true)(hs0:ce k []=true)(h4:k≠4){l:XI}{y:ey}(hy:y.1=k)(Ko:y.2.2.2.2=[])(h:iO FQ ns l)(hp:jl ns):
  jl (ns++[y])∧iO FQ (ns++[y]) (l++[(ns.length:Int)]):=by
 obtain⟨k',a',n',s',l'⟩:=y;simp only at hy Ko;subst hy;subst Ko;exact⟨hp.add (rZ hs0 h4),(h.up (aJa _ _)).add (by omega) (by simp;omega) (by rw[qD];exact hk)⟩
theorem aeN{c p:Int}(hc:c≠0):Ev fun k=>∀(a:Nat) (ns:List ey) (d:Int),fv c p (dh k ts (a:Int) en ns d c p):=
 (Nm (ts:=ts) (en:=en) (p:=p) hc).mono fun k e a ns d=>by simp only[go_sem,dh,dM,Nl hc,fB hc,e,G8 hc,fv,ama,aNa]
theorem Sh(hs:oT ts):∀ m a (ns:List ey) (l:XI),ts.length - a≤m→xI ts a 0 ns→iO FQ ns l→l.length≤a→
  ∃ r,OS ts FQ a ns l.length (jz ns l) r∧ct fun q k=>LV r 0 (aJ q k ts en (a:Int) 0 ns l)∧Pn [] r 0 (ax q k ts en (a:Int) ns 0 0 0 l):=by
 have h7:=hs.len;have hc:(6:Int)≠0:=by decide
 intro m;induction m with
 |zero=>
  intro a ns l hm hp hk hl2;have bq:¬ a<ts.length:=by omega
  exact⟨.ok l a ns,⟨by omega,hp.hi,by omega,aVa _,hp.all,hk,by omega,by omega⟩,ct.succ (ct.of fun q k=>⟨by simp only[go_sem,LV,aJ,Q3,bq],
   by simp only[go_sem,Pn,aQa,ax,aa,Q3,bq]⟩)⟩
 |succ m ih=>
  intro a ns l hm hp hk hl2;obtain⟨p1,p2,p3,p4⟩:=hp;by_cases bq:a<ts.length
  rotate_left
  ·exact⟨.ok l a ns,⟨by omega,p1,by omega,aVa _,p4,hk,by omega,by omega⟩,ct.succ (ct.of fun q k=>⟨by simp only[go_sem,LV,aJ,Q3,bq],
    by simp only[go_sem,Pn,aQa,ax,aa,Q3,bq]⟩)⟩
  have b0:a≤4000000000000000000:=by omega
  have b1:a+1≤4000000000000000000:=by omega
  have b2:a+1+1≤4000000000000000000:=by omega
  have b3:a+1+1+1≤4000000000000000000:=by omega
  have b4:a+1+1+1+1≤4000000000000000000:=by omega
  have b5:a+1+1+1+1+1≤4000000000000000000:=by omega
  have bn:ns.length≤4000000:=by omega
  have bk:l.length≤4000000:=by omega
  cases hA:be ts a [97,114,114,97,121] with
  |true=>
   cases h1:tr ts (a+1) 1 with
   |false=>
    refine⟨.er 6 (pl ts en (a+1)),hc,ct.succ (ct.succ (ct.of fun q k=>⟨?_,l++[0],a+1,ns,0,?_⟩))⟩
    ·simp only[go_sem,LV,aJ,Q3,bq,aG b0,reduceIte,cT b1,gX bn,cv bk,hA,h1]
    ·rw[ax]
     simp only[go_sem,aa,Q3,bq,af hs (w:=[97,114,114,97,121]) rfl b0,dM,df b1,reduceIte,cv bk,fB hc,Tn hc,cf hc,hA,h1];rw[ax];simp only[go_sem,aa,show((6:Int)==0)=false from rfl]
   |true=>
   cases h2:be ts (a+1+1) [91] with
   |false=>
    refine⟨.er 6 (pl ts en (a+1+1)),hc,ct.succ (ct.succ (ct.of fun q k=>⟨?_,l++[0],a+1+1,ns,0,?_⟩))⟩
    ·simp only[go_sem,LV,aJ,Q3,bq,aG b0,reduceIte,cT b1,bC b2,gX bn,cv bk,hA,h1,h2]
    ·rw[ax]
     simp only[go_sem,aa,Q3,bq,af hs (w:=[97,114,114,97,121]) rfl b0,dM,df b1,aI hs (w:=[91]) rfl b2,reduceIte,cv bk,fB hc,Tn hc,cf hc,hA,h1,h2];rw[ax];simp only[go_sem,aa,show((6:Int)==0)=false from rfl]
   |true=>
   cases h3:tr ts (a+1+1+1) 2 with
   |false=>
    refine⟨.er 6 (pl ts en (a+1+1+1)),hc,ct.succ (ct.succ (ct.of fun q k=>⟨?_,l++[0],a+1+1+1,ns,0,?_⟩))⟩
    ·simp only[go_sem,LV,aJ,Q3,bq,aG b0,reduceIte,cT b1,cT b3,bC b2,gX bn,cv bk,hA,h1,h2,h3]
    ·rw[ax]
     simp only[go_sem,aa,Q3,bq,af hs (w:=[97,114,114,97,121]) rfl b0,dM,df b1,aI hs (w:=[91]) rfl b2,EF b3,reduceIte,cv bk,fB hc,cf hc,hA,h1,h2,h3];rw[ax];simp only[go_sem,aa,show((6:Int)==0)=false from rfl]
   |true=>
   cases h4:be ts (a+1+1+1+1) [93] with
   |false=>
    refine⟨.er 6 (pl ts en (a+1+1+1+1)),hc,ct.succ (ct.succ (ct.of fun q k=>⟨?_,l++[0],a+1+1+1+1,ns,0,?_⟩))⟩
    ·simp only[go_sem,LV,aJ,Q3,bq,aG b0,reduceIte,cT b1,cT b3,bC b2,bC b4,gX bn,cv bk,hA,h1,h2,h3,h4]
    ·rw[ax]
     simp only[go_sem,aa,Q3,bq,af hs (w:=[97,114,114,97,121]) rfl b0,dM,df b1,aI hs (w:=[91]) rfl b2,EF b3,aI hs (w:=[93]) rfl b4,reduceIte,cv bk,fB hc,cf hc,hA,h1,h2,h3,h4];rw[ax];simp only[go_sem,aa,show((6:Int)==0)=false from rfl]
   |true=>
   cases h5:be ts (a+1+1+1+1+1) [59] with
   |false=>
    refine⟨.er 6 (pl ts en (a+1+1+1+1+1)),hc,ct.succ (ct.succ (ct.of fun q k=>⟨?_,l++[0],a+1+1+1+1+1,ns,0,?_⟩))⟩
    ·simp only[go_sem,LV,aJ,Q3,bq,aG b0,reduceIte,cT b1,cT b3,bC b2,bC b4,bC b5,gX bn,cv bk,hA,h1,h2,h3,h4,h5]
    ·rw[ax]
     simp only[go_sem,aa,Q3,bq,af hs (w:=[97,114,114,97,121]) rfl b0,dM,df b1,aI hs (w:=[91]) rfl b2,EF b3,aI hs (w:=[93]) rfl b4,aI hs (w:=[59]) rfl b5,reduceIte,cv bk,cf hc,hA,h1,h2,h3,h4,h5];rw[ax];simp only[go_sem,aa,show((6:Int)==0)=false from rfl]
   |true=>
   have l1:=jE h1;have l5:=bz h5;obtain⟨x1,x2⟩:=YU (k:=2) (y:=(2,(tk ts (a+1)).2.1,(tk ts (a+1+1+1)).2.2.2,(tk ts (a+1)).2.2.1,[])) rfl rfl (by decide) rfl rfl hk p4
   obtain⟨r,gi,gr⟩:=ih (a+1+1+1+1+1+1) (ns++[(2,(tk ts (a+1)).2.1,(tk ts (a+1+1+1)).2.2.2,(tk ts (a+1)).2.2.1,[])]) (l++[(ns.length:Int)]) (by omega) ⟨by omega,p2,by simp;omega,x1⟩ x2 (by simp;omega)
   refine⟨r,gi.from (by omega) (by simp;omega) (aJa _ _) (by simp;omega) (by rw[qd,oJ,nT,zy,pz (aJa _ _) hk.v];simp;omega),ct.succ (gr.mono fun q k e=>⟨?_,?_⟩)⟩
   ·simp only[go_sem,aJ,Q3,bq,aG b0,reduceIte,cT b1,cT b3,bC b2,bC b4,bC b5,gX bn,cv bk,hA,h1,h2,h3,h4,h5]
    exact e.1
   ·rw[ax]
    simp only[go_sem,aa,Q3,bq,af hs (w:=[97,114,114,97,121]) rfl b0,dM,df b1,aI hs (w:=[91]) rfl b2,EF b3,aI hs (w:=[93]) rfl b4,aI hs (w:=[59]) rfl b5,reduceIte,fj bn,cv bk,hA,h1,h2,h3,h4,h5,sK l1];exact e.2
  |false=>
  cases hV:be ts a [118,97,114] with
  |true=>
   cases h1:tr ts (a+1) 1 with
   |false=>
    refine⟨.er 6 (pl ts en (a+1)),hc,ct.succ (ct.succ (ct.of fun q k=>⟨?_,l++[0],a+1,ns,0,?_⟩))⟩
    ·simp only[go_sem,LV,aJ,Q3,bq,aG b0,reduceIte,jD b1 bn,gX bn,cv bk,hA,hV,h1]
    ·rw[ax]
     simp only[go_sem,aa,Q3,bq,af hs (w:=[97,114,114,97,121]) rfl b0,af hs (w:=[118,97,114]) rfl b0,dM,df b1,reduceIte,cv bk,fB hc,cf hc,hA,hV,h1];rw[ax];simp only[go_sem,aa,show((6:Int)==0)=false from rfl]
   |true=>
   cases h2:be ts (a+1+1) [59] with
   |false=>
    refine⟨.er 6 (pl ts en (a+1+1)),hc,ct.succ (ct.succ (ct.of fun q k=>⟨?_,l++[0],a+1+1,ns,0,?_⟩))⟩
    ·simp only[go_sem,LV,aJ,Q3,bq,aG b0,reduceIte,bC b2,jD b1 bn,gX bn,cv bk,hA,hV,h1,h2]
    ·rw[ax]
     simp only[go_sem,aa,Q3,bq,af hs (w:=[97,114,114,97,121]) rfl b0,af hs (w:=[118,97,114]) rfl b0,dM,df b1,aI hs (w:=[59]) rfl b2,reduceIte,cv bk,cf hc,hA,hV,h1,h2];rw[ax];simp only[go_sem,aa,show((6:Int)==0)=false from rfl]
   |true=>
   have l1:=jE h1;have l5:=bz h2;obtain⟨x1,x2⟩:=YU (k:=3) (y:=(3,(tk ts (a+1)).2.1,0,(tk ts (a+1)).2.2.1,[])) rfl rfl (by decide) rfl rfl hk p4
   obtain⟨r,gi,gr⟩:=ih (a+1+1+1) (ns++[(3,(tk ts (a+1)).2.1,0,(tk ts (a+1)).2.2.1,[])]) (l++[(ns.length:Int)]) (by omega) ⟨by omega,p2,by simp;omega,x1⟩ x2 (by simp;omega)
   refine⟨r,gi.from (by omega) (by simp;omega) (aJa _ _) (by simp;omega) (by rw[qd,oJ,nT,zy,pz (aJa _ _) hk.v];simp;omega),ct.succ (gr.mono fun q k e=>⟨?_,?_⟩)⟩
   ·simp only[go_sem,aJ,Q3,bq,aG b0,reduceIte,bC b2,jD b1 bn,gX bn,cv bk,hA,hV,h1,h2]
    exact e.1
   ·rw[ax]
    simp only[go_sem,aa,Q3,bq,af hs (w:=[97,114,114,97,121]) rfl b0,af hs (w:=[118,97,114]) rfl b0,dM,df b1,aI hs (w:=[59]) rfl b2,reduceIte,fj bn,cv bk,hA,hV,h1,h2,sK l1];exact e.2
  |false=>
  cases hF:be ts a [102,117,110,99] with
  |false=>
   refine⟨.er 6 (pl ts en a),hc,ct.succ (ct.succ ((aeN (ts:=ts) (en:=en) (p:=pl ts en a) hc).tZ.mono fun q k e=>?_))⟩;obtain⟨v,a',eg,d',e⟩:=fv.wh (e a ns 0);refine⟨?_,l++[v],a',eg,d',?_⟩
   ·simp only[go_sem,LV,aJ,Q3,bq,aG b0,reduceIte,gX bn,cv bk,Aj,hA,hV,hF]
   ·rw[ax]
    simp only[go_sem,aa,Q3,bq,af hs (w:=[97,114,114,97,121]) rfl b0,af hs (w:=[118,97,114]) rfl b0,aI hs (w:=[102,117,110,99]) rfl b0,dM,reduceIte,cv bk,hA,hV,hF,e];rw[ax];simp only[go_sem,aa,show((6:Int)==0)=false from rfl]
  |true=>
  obtain⟨r,hi,hr⟩:=agi (en:=en) hs (a:=a+1) (d:=0) (ns:=ns) ⟨by omega,p2,by omega,p4⟩
  cases r with
  |er c p=>
   have hc':c≠0:=hi;refine⟨.er c p,hi,ct.succ (ct.succ (hr.tZ.mono fun q k e=>?_))⟩;obtain⟨e1,v,a',eg,d',e2⟩:=e;refine⟨?_,l++[v],a',eg,d',?_⟩
   ·simp only[go_sem,LV,aJ,Q3,bq,aG b0,reduceIte,gX bn,cv bk,Aj,hA,hV,hF,show cV q ts en ((a+1:Nat):Int) 0 ns=_ from e1]
   ·rw[ax]
    simp only[go_sem,aa,Q3,bq,af hs (w:=[97,114,114,97,121]) rfl b0,af hs (w:=[118,97,114]) rfl b0,aI hs (w:=[102,117,110,99]) rfl b0,dM,reduceIte,cv bk,hA,hV,hF,show dh q ts ((a+1:Nat):Int) en ns 0 0 0=_ from e2]
    rw[ax];simp only[go_sem,aa,Q6.2 hc']
  |ok v a1 d1 mO=>
   obtain⟨q1,q2,rfl,q3,q4,q5,q6,q7,q8,q9⟩:=hi;obtain⟨r,gi,gr⟩:=ih a1 mO (l++[v]) (by omega) ⟨q2,p2,by omega,q5⟩ ((hk.up q4).add q6 q7 (by rw[bfa.1 q8];rfl)) (by simp;omega)
   refine⟨r,gi.from (by omega) (by omega) q4 (by simp;omega) (by rw[qd,oJ,pz q4 hk.v];omega),ct.succ ((hr.tZ.and gr).mono fun q k e=>?_)⟩
   obtain⟨⟨e1,e2⟩,e3,e4⟩:=e;refine⟨?_,?_⟩
   ·simp only[go_sem,aJ,Q3,bq,aG b0,reduceIte,gX bn,cv bk,Aj,hA,hV,hF,show cV q ts en ((a+1:Nat):Int) 0 ns=_ from e1]
    exact e3
   ·rw[ax]
    simp only[go_sem,aa,Q3,bq,af hs (w:=[97,114,114,97,121]) rfl b0,af hs (w:=[118,97,114]) rfl b0,aI hs (w:=[102,117,110,99]) rfl b0,dM,reduceIte,cv bk,hA,hV,hF,show dh q ts ((a+1:Nat):Int) en ns 0 0 0=_ from e2]
    exact e4
structure UW(ns:List ey):Prop where
 all:jl ns
 len:ns.length≤1401
 aht:∃(ns0:List ey) (l:XI),ns=ns0++[(1,0,0,[],l)]∧iO FQ ns0 l∧jz ns0 l≤ns0.length
theorem Vw(t:ak):(∃ ns,UW ns∧Ev fun k=>gF k t=some (ns,(0,0),())∧pe k t=some (ns,(0,0),()))∨
  ∃(c p:Int),c≠0∧Ev fun k=>gF k t=some ([],(c,p),())∧pe k t=some ([],(c,p),()):=by
 rcases ZQ t with ⟨ts,hl,h7,hok,he⟩|⟨c,p,hc,he⟩
 ·have hs:oT ts:=⟨h7,hok⟩
  obtain⟨r,hi,hr⟩:=Sh (en:=(t.length:Int)) hs _ 0 [] [] (ava _) ⟨by omega,by omega,by simp,jl.nil⟩ iO.nil (by simp)
  have hr:=hr.jN;cases r with
  |er c p=>
   have hc:c≠0:=hi;refine .inr ⟨c,p,hc,(he.and hr).mono fun k e=>?_⟩;obtain⟨⟨e1,e2⟩,e3,l',a',eg,d',e4⟩:=e;have e3:aJ k k ts (t.length:Int) 0 0 [] []=_:=e3;have e4:ax k k ts (t.length:Int) 0 [] 0 0 0 []=_:=e4;refine⟨?_,?_⟩
   ·simp only[go_sem,gF,qN,e1,e4,cf hc,aYa.2 hc]
   ·simp only[go_sem,pe,oo,e2,e3]
  |ok l a ns=>
   have hi':LOk ts FQ 0 [] 0 (jz [] []) l a ns:=hi;obtain⟨g1,g2,g3,g4,g5,g6,g7,g8⟩:=hi';rw[zy] at g8;simp only[aBa] at g3 g8;have m:ns.length≤4000000:=by omega
   refine .inl ⟨ns++[(1,0,0,[],l)],⟨g5.add ⟨g6.v,?_,by simp,by simp at g7 ⊢;omega⟩,by simp;omega,ns,l,rfl,g6,by omega⟩,(he.and hr).mono fun k e=>?_⟩
   ·have:(l.map (kd ns)).all FQ=true:=by rw[cKa];exact apa.2 g6.c
    simpa[ce] using this
   ·obtain⟨⟨e1,e2⟩,e3,e4⟩:=e
    have e3:aJ k k ts (t.length:Int) 0 0 [] []=_:=e3;have e4:ax k k ts (t.length:Int) 0 [] 0 0 0 []=_:=e4;refine⟨?_,?_⟩
    ·simp only[go_sem,gF,qN,e1,e4,fj m,aQa]
    ·simp only[go_sem,pe,oo,e2,e3,gX m]
 ·refine .inr ⟨c,p,hc,he.mono fun k e=>?_⟩
  simp only[go_sem,gF,pe,e.1,e.2,aYa.2 hc,aNa]
end
end Go.Fx.R5
namespace Go.Fx.R5
open Go Go.Fx
abbrev AS:=XA
abbrev FS:=XF
abbrev y4:=AS×XS×FS
def nC{α:Type}(p:α→Bool):List α→Int→Int
 |[],_=>-1
 |x::r,i=>bif p x then i else nC p r (i+1)
section
variable {α:Type} {p:α→Bool}
theorem qJ:∀(l:List α) (i:Int),0≤i→(nC p l i = -1∧∀ x∈l,p x=false)∨(∃ n x,nC p l i=i+(n:Nat)∧l[n]? = some x∧p x=true)
 |[],i,h=>.inl ⟨rfl,by simp⟩
 |x::r,i,h=>by
  cases hp:p x with
  |true=>exact .inr ⟨0,x,by simp[nC,hp],rfl,hp⟩
  |false=>
   rcases qJ r (i+1) (by omega) with ⟨e,f⟩|⟨n,y,e,f,g⟩
   ·exact .inl ⟨by simp[nC,hp,e],by simpa[hp] using f⟩
   ·exact .inr ⟨n+1,y,by simp[nC,hp,e];omega,by simpa using f,g⟩
theorem Jl{l:List α}(h:0≤nC p l 0):∃(n:Nat) (x:α),nC p l 0=(n:Int)∧l[n]? = some x∧p x=true:=by
 rcases qJ (p:=p) l 0 (by omega) with ⟨e,_⟩|⟨n,x,e,f,g⟩
 ·omega
 ·exact⟨n,x,by omega,f,g⟩
theorem WW{l:List α}(h:¬ 0≤nC p l 0):nC p l 0 = -1∧∀ x∈l,p x=false:=by
 rcases qJ (p:=p) l 0 (by omega) with e|⟨n,x,e,f,g⟩
 ·exact e
 ·omega
theorem Ci{l:List α}:0≤nC p l 0↔∃ x∈l,p x=true:=by
 constructor
 ·intro h
  obtain⟨n,x,_,f,g⟩:=Jl h;exact⟨x,aZa f,g⟩
 ·rintro⟨x,hx,g⟩
  apply Decidable.byContradiction;intro h;rw[(WW h).2 x hx] at g;cases g
theorem aam{l:List α}(h:0≤nC p l 0):nC p l 0<l.length:=by obtain⟨n,x,e,f,_⟩:=Jl h;have:=(aja.1 f).1;omega
end
def plX(n:Int):Unit⊕(Int×Unit):=bif decide (0≤n) then .inr (n,()) else .inl ()
def plY(k n:Int):Unit⊕(Int×Int×Unit):=bif decide (0≤n) then .inr (k,n,()) else .inl ()
theorem yN{α:Type}{p:α→Bool}{l:List α}{i:Nat}(h:i<l.length):nC p (l.drop i) (i:Int)=bif p l[i] then(i:Int) else nC p (l.drop (i+1)) ((i+1:Nat):Int):=by rw[aSa h];rfl
theorem WC(l:XF)(s:ak)(hl:l.length≤1000000):∀ m i,m+i=l.length→ct fun q k=>mU q k l s (i:Int)=some (plX (nC (fun x=>x.1==s) (l.drop i) (i:Int)))
 |0,i,h=>by
  have h2:¬ i<l.length:=by omega
  have e:l.drop i=[]:=by simp;omega
  rw[e];exact ct.succ (ct.of fun q k=>by simp only[go_sem,mU,Q3,h2];rfl)
 |m+1,i,h=>by
  have bq:i<l.length:=by omega
  refine ct.succ ((WC l s hl m (i+1) (by omega)).mono fun q k e=>?_)
  simp only[go_sem,mU,Q3,bq,cX bq,ae (show i<_ by omega),e,yN (p:=fun x:(ak×Int×XS×XS×Int)=>x.1==s) bq]
  cases (l[i].1==s) with
  |true=>simp[plX]
  |false=>simp
theorem WE(l:XS)(s:ak)(hl:l.length≤1000000):∀ m i,m+i=l.length→ct fun q k=>lS q k l s (i:Int)=some (plX (nC (fun x=>x==s) (l.drop i) (i:Int)))
 |0,i,h=>by
  have h2:¬ i<l.length:=by omega
  have e:l.drop i=[]:=by simp;omega
  rw[e];exact ct.succ (ct.of fun q k=>by simp only[go_sem,lS,Q3,h2];rfl)
 |m+1,i,h=>by
  have bq:i<l.length:=by omega
  refine ct.succ ((WE l s hl m (i+1) (by omega)).mono fun q k e=>?_)
  simp only[go_sem,lS,Q3,bq,cX bq,ae (show i<_ by omega),e,yN (p:=fun x:ak=>x==s) bq]
  cases (l[i]==s) with
  |true=>simp[plX]
  |false=>simp
theorem ZV(l:XA)(s:ak)(hl:l.length≤1000000):∀ m i,m+i=l.length→ct fun q k=>lR q k l s (i:Int)=some (plX (nC (fun x=>x.1==s) (l.drop i) (i:Int)))
 |0,i,h=>by
  have h2:¬ i<l.length:=by omega
  have e:l.drop i=[]:=by simp;omega
  rw[e];exact ct.succ (ct.of fun q k=>by simp only[go_sem,lR,Q3,h2];rfl)
 |m+1,i,h=>by
  have bq:i<l.length:=by omega
  refine ct.succ ((ZV l s hl m (i+1) (by omega)).mono fun q k e=>?_)
  simp only[go_sem,lR,Q3,bq,cX bq,ae (show i<_ by omega),e,yN (p:=fun x:(ak×Int)=>x.1==s) bq]
  cases (l[i].1==s) with
  |true=>simp[plX]
  |false=>simp
theorem WD(l:XF)(s:ak)(hl:l.length≤1000000):∀ m i,m+i=l.length→ct fun q k=>kx q k l (l.length:Int) (i:Int)=some (plX (nC (fun x=>x.1==([109,97,105,110]:ak)) (l.drop i) (i:Int)))
 |0,i,h=>by
  have h2:¬ i<l.length:=by omega
  have e:l.drop i=[]:=by simp;omega
  rw[e];exact ct.succ (ct.of fun q k=>by simp only[go_sem,kx,Q3,h2];rfl)
 |m+1,i,h=>by
  have bq:i<l.length:=by omega
  refine ct.succ ((WD l s hl m (i+1) (by omega)).mono fun q k e=>?_)
  simp only[go_sem,kx,Q3,bq,cX bq,ae (show i<_ by omega),e,yN (p:=fun x:(ak×Int×XS×XS×Int)=>x.1==([109,97,105,110]:ak)) bq]
  cases (l[i].1==([109,97,105,110]:ak)) with
  |true=>simp[plX]
  |false=>simp
theorem ZW(l:XS)(s:ak)(hl:l.length≤1000000):∀ m i,m+i=l.length→ct fun q k=>jS q k s l (l.length:Int) (i:Int)=some (plX (nC (fun x=>x==s) (l.drop i) (i:Int)))
 |0,i,h=>by
  have h2:¬ i<l.length:=by omega
  have e:l.drop i=[]:=by simp;omega
  rw[e];exact ct.succ (ct.of fun q k=>by simp only[go_sem,jS,Q3,h2];rfl)
 |m+1,i,h=>by
  have bq:i<l.length:=by omega
  refine ct.succ ((ZW l s hl m (i+1) (by omega)).mono fun q k e=>?_)
  simp only[go_sem,jS,Q3,bq,cX bq,ae (show i<_ by omega),e,yN (p:=fun x:ak=>x==s) bq]
  cases (l[i]==s) with
  |true=>simp[plX]
  |false=>simp
theorem acQ(l:XA)(s:ak)(hl:l.length≤1000000):∀ m i,m+i=l.length→ct fun q k=>js q k s l (l.length:Int) (i:Int)=some (plY 1 (nC (fun x=>x.1==s) (l.drop i) (i:Int)))
 |0,i,h=>by
  have h2:¬ i<l.length:=by omega
  have e:l.drop i=[]:=by simp;omega
  rw[e];exact ct.succ (ct.of fun q k=>by simp only[go_sem,js,Q3,h2];rfl)
 |m+1,i,h=>by
  have bq:i<l.length:=by omega
  refine ct.succ ((acQ l s hl m (i+1) (by omega)).mono fun q k e=>?_)
  simp only[go_sem,js,Q3,bq,cX bq,ae (show i<_ by omega),e,yN (p:=fun x:(ak×Int)=>x.1==s) bq]
  cases (l[i].1==s) with
  |true=>simp[plY]
  |false=>simp
theorem acR(l:XF)(s:ak)(hl:l.length≤1000000):∀ m i,m+i=l.length→ct fun q k=>jt q k s l (l.length:Int) (i:Int)=some (plY 5 (nC (fun x=>x.1==s) (l.drop i) (i:Int)))
 |0,i,h=>by
  have h2:¬ i<l.length:=by omega
  have e:l.drop i=[]:=by simp;omega
  rw[e];exact ct.succ (ct.of fun q k=>by simp only[go_sem,jt,Q3,h2];rfl)
 |m+1,i,h=>by
  have bq:i<l.length:=by omega
  refine ct.succ ((acR l s hl m (i+1) (by omega)).mono fun q k e=>?_)
  simp only[go_sem,jt,Q3,bq,cX bq,ae (show i<_ by omega),e,yN (p:=fun x:(ak×Int×XS×XS×Int)=>x.1==s) bq]
  cases (l[i].1==s) with
  |true=>simp[plY]
  |false=>simp
theorem agf{n:Int}{α:Type}{f:Int→Option α}{g:Option α}(h:-1≤n):(match plX n with | .inl _=>g | .inr o2=>f o2.1)=bif decide (0≤n) then f n else g:=by unfold plX;cases decide (0≤n)<;>rfl
theorem ag1{α:Type}{p:α→Bool}(l:List α):-1≤nC p l 0:=by rcases qJ (p:=p) l 0 (by omega) with e|⟨n,x,e,_⟩<;>omega
theorem Jq(l:XS)(s:ak)(hl:l.length≤1000000):Ev fun k=>gZ k l s=some (nC (fun x=>x==s) l 0,()):=
 (WE l s hl l.length 0 rfl).jN.mono fun k e=>by
  simp only[go_sem,gZ,show lS k k l s 0=_ from e,bEa,plX]
  rcases qJ (p:=fun x=>x==s) l 0 (by omega) with ⟨e,_⟩|⟨n,x,e,_⟩<;>(simp only[bWa,e];simp)
theorem Sl(t:y4)(s:ak)(hl:t.2.2.length≤1000000):Ev fun k=>kc k t s=some (nC (fun x=>x.1==s) t.2.2 0,()):=
 (WC t.2.2 s hl t.2.2.length 0 rfl).jN.mono fun k e=>by
  simp only[go_sem,kc,show mU k k t.2.2 s 0=_ from e,bEa,plX]
  rcases qJ (p:=fun x:ak×Int×XS×XS×Int=>x.1==s) t.2.2 0 (by omega) with ⟨e,_⟩|⟨n,x,e,_⟩<;>(simp only[bWa,e];simp)
theorem abY(t:y4)(s:ak)(hl:t.1.length≤1000000):Ev fun k=>nR k t s=some (nC (fun x=>x.1==s) t.1 0,()):=
 (ZV t.1 s hl t.1.length 0 rfl).jN.mono fun k e=>by
  simp only[go_sem,nR,show lR k k t.1 s 0=_ from e,bEa,plX]
  rcases qJ (p:=fun x:ak×Int=>x.1==s) t.1 0 (by omega) with ⟨e,_⟩|⟨n,x,e,_⟩<;>(simp only[bWa,e];simp)
theorem adQ(t:y4)(hl:t.2.2.length≤1000000):Ev fun k=>uR k t=some (nC (fun x=>x.1==([109,97,105,110]:ak)) t.2.2 0,()):=
 (WD t.2.2 [] hl t.2.2.length 0 rfl).jN.mono fun k e=>by
  simp only[go_sem,uR,show kx k k t.2.2 (t.2.2.length:Int) 0=_ from e,bEa,plX]
  rcases qJ (p:=fun x:ak×Int×XS×XS×Int=>x.1==([109,97,105,110]:ak)) t.2.2 0 (by omega) with ⟨e,_⟩|⟨n,x,e,_⟩<;>(simp only[bWa,e];simp)
theorem ZE(l:XS)(s:ak)(hl:l.length≤1000000):Ev fun k=>mK k l s=some (nC (fun x=>x==s) l 0,()):=
 (ZW l s hl l.length 0 rfl).jN.mono fun k e=>by
  simp only[go_sem,mK,show jS k k s l (l.length:Int) 0=_ from e,bEa,plX]
  rcases qJ (p:=fun x=>x==s) l 0 (by omega) with ⟨e,_⟩|⟨n,x,e,_⟩<;>(simp only[bWa,e];simp)
def Pr(t:y4)(s:ak):Int×Int:=
 bif decide (0≤nC (fun x=>x.1==s) t.1 0) then(1,nC (fun x=>x.1==s) t.1 0) else
 bif decide (0≤nC (fun x=>x==s) t.2.1 0) then(2,nC (fun x=>x==s) t.2.1 0) else
 bif decide (0≤nC (fun x=>x.1==s) t.2.2 0) then(5,nC (fun x=>x.1==s) t.2.2 0) else(0,0)
def nk(t:y4)(fn s:ak):Int×Int:=
 match t.2.2.find? (fun x=>x.1==fn) with
 |none=>Pr t s
 |some x=>bif decide (0≤nC (fun y=>y==s) x.2.2.1 0) then(3,nC (fun y=>y==s) x.2.2.1 0) else
  bif decide (0≤nC (fun y=>y==s) x.2.2.2.1 0) then(4,nC (fun y=>y==s) x.2.2.2.1 0) else Pr t s
structure iq(t:y4):Prop where
 a:t.1.length≤4
 g:t.2.1.length≤4
 f:t.2.2.length≤6
 i:∀ x∈t.2.2,x.2.2.1.length≤8∧x.2.2.2.1.length≤3∧0≤x.2.1∧x.2.1≤3
 z:∀ x∈t.1,1≤x.2∧x.2≤64
theorem aal{α:Type}{p:α→Bool}:∀(l:List α),(nC p l 0 = -1∧l.find? p=none)∨∃(n:Nat) (x:α),nC p l 0=(n:Int)∧l[n]? = some x∧l.find? p=some x:=by
 have key:∀(l:List α) (i:Int),0≤i→(nC p l i = -1∧l.find? p=none)∨∃(n:Nat) (x:α),nC p l i=i+(n:Int)∧l[n]? = some x∧l.find? p=some x:=by
  intro l;induction l with
  |nil=>intro i _;exact .inl ⟨rfl,rfl⟩
  |cons y r ih=>
   intro i hi;cases hp:p y with
   |true=>exact .inr ⟨0,y,by simp[nC,hp],rfl,by simp[hp]⟩
   |false=>
    rcases ih (i+1) (by omega) with ⟨e,f⟩|⟨n,x,e,f,g⟩
    ·exact .inl ⟨by simp[nC,hp,e],by simp[hp,f]⟩
    ·exact .inr ⟨n+1,x,by simp[nC,hp,e];omega,by simpa using f,by simp[hp,g]⟩
 intro l;rcases key l 0 (by omega) with h|⟨n,x,e,f,g⟩
 ·exact .inl h
 ·exact .inr ⟨n,x,by omega,f,g⟩
theorem ge0(n:Int):decide (n≥0)=decide (0≤n):=rfl
theorem VH{t:y4}(ht:iq t)(fn s:ak):Ev fun k=>cO k t fn s=some ((nk t fn s).1,(nk t fn s).2,()):=by
 have e1:=Sl t fn (by have:=ht.f;omega)
 have e2:=abY t s (by have:=ht.a;omega)
 have e3:=Jq t.2.1 s (by have:=ht.g;omega)
 have e4:=Sl t s (by have:=ht.f;omega)
 have tail:∀ k,nR k t s=some (nC (fun x=>x.1==s) t.1 0,())→gZ k t.2.1 s=some (nC (fun x=>x==s) t.2.1 0,())→kc k t s=some (nC (fun x=>x.1==s) t.2.2 0,())→
   ((nR k t s).bind fun r6=>
   bif decide (r6.1≥0) then
    (nR k t s).bind fun r7=>
    some ((1:Int),r7.1,())
   else
    (gZ k t.2.1 s).bind fun r8=>
    bif decide (r8.1≥0) then
     (gZ k t.2.1 s).bind fun r9=>
     some (2,r9.1,())
    else
     (kc k t s).bind fun mw=>
     bif decide (mw.1≥0) then
      (kc k t s).bind fun po=>
      some (5,po.1,())
     else
      some (0,0,()))=some ((Pr t s).1,(Pr t s).2,()):=by
  intro k a1 a2 a3;simp only[go_sem,a1,a2,a3,Pr,ge0];cases decide (0≤nC (fun x=>x.1==s) t.1 0)<;>cases decide (0≤nC (fun x=>x==s) t.2.1 0)<;>cases decide (0≤nC (fun x=>x.1==s) t.2.2 0)<;>rfl
 rcases aal (p:=fun x:ak×Int×XS×XS×Int=>x.1==fn) t.2.2 with ⟨f1,f2⟩|⟨n,x,f1,f2,f3⟩
 ·refine((e1.and e2).and (e3.and e4)).mono fun k e=>?_
  simp only[go_sem,cO,e.1.1,f1,aa,ge0,show decide ((0:Int)≤-1)=false from rfl,nk,f2]
  exact tail k e.1.2 e.2.1 e.2.2
 ·have hb:=ht.i x (aZa f2)
  have e5:=Jq x.2.2.1 s (by omega)
  have e6:=Jq x.2.2.2.1 s (by omega)
  refine(((e1.and e2).and (e3.and e4)).and (e5.and e6)).mono fun k e=>?_;simp only[go_sem,cO,e.1.1.1,f1,aa,ge0,show decide ((0:Int)≤(n:Int))=true by simp,bj f2,e.2.1,e.2.2,nk,f3]
  cases decide (0≤nC (fun y=>y==s) x.2.2.1 0) with
  |true=>rfl
  |false=>
   cases decide (0≤nC (fun y=>y==s) x.2.2.2.1 0) with
   |true=>rfl
   |false=>simp only[go_sem];exact tail k e.1.1.2 e.1.2.1 e.1.2.2
def k0X(s:ak):Option (ak×Int×XS×XS×Int)→Unit⊕(Int×Int×Unit)
 |none=>.inl ()
 |some x=>bif decide (0≤nC (fun y=>y==s) x.2.2.1 0) then .inr (3,nC (fun y=>y==s) x.2.2.1 0,()) else(bif decide (0≤nC (fun y=>y==s) x.2.2.2.1 0) then .inr (4,nC (fun y=>y==s) x.2.2.2.1 0,()) else .inl ())
theorem Wv{F:FS}(hF:∀ x∈F,x.2.2.1.length≤8∧x.2.2.2.1.length≤3)(hl:F.length≤6)(fn s:ak):∀ m i,m+i=F.length→ct fun q k=>kq q k fn s F (F.length:Int) (i:Int) =
  some (k0X s ((F.drop i).find? (fun x=>x.1==fn)))
 |0,i,h=>by
  have h2:¬ i<F.length:=by omega
  have e:F.drop i=[]:=by simp;omega
  rw[e];exact ct.succ (ct.of fun q k=>by simp only[go_sem,kq,Q3,h2];rfl)
 |m+1,i,h=>by
  have bq:i<F.length:=by omega
  have hb:=hF F[i] (aWa bq);refine ct.succ (((Wv hF hl fn s m (i+1) (by omega)).and ((ZE F[i].2.2.1 s (by omega)).and (ZE F[i].2.2.2.1 s (by omega))).tZ).mono fun q k e=>?_)
  rw[aSa bq,List.find?_cons];simp only[go_sem,kq,Q3,bq,cX bq,ae (show i<_ by omega),e.1,e.2.1,e.2.2,ge0]
  cases (F[i].1==fn) with
  |false=>rfl
  |true=>simp only[go_sem,k0X];cases decide (0≤nC (fun y=>y==s) F[i].2.2.1 0)<;>cases decide (0≤nC (fun y=>y==s) F[i].2.2.2.1 0)<;>rfl
theorem ZD{t:y4}(ht:iq t)(fn s:ak):Ev fun k=>fC k t fn s=some ((nk t fn s).1,(nk t fn s).2,()):=by
 have e1:=(Wv (fun x hx=>let h:=ht.i x hx;⟨h.1,h.2.1⟩) ht.f fn s t.2.2.length 0 rfl).jN
 have e2:=(acQ t.1 s (by have:=ht.a;omega) t.1.length 0 rfl).jN
 have e3:=ZE t.2.1 s (by have:=ht.g;omega)
 have e4:=(acR t.2.2 s (by have:=ht.f;omega) t.2.2.length 0 rfl).jN
 refine((e1.and e2).and (e3.and e4)).mono fun k e=>?_;obtain⟨⟨e1,e2⟩,e3,e4⟩:=e;have e1:kq k k fn s t.2.2 (t.2.2.length:Int) 0=_:=e1;have e2:js k k s t.1 (t.1.length:Int) 0=_:=e2;have e4:jt k k s t.2.2 (t.2.2.length:Int) 0=_:=e4;simp only[bEa,bWa] at e1 e2 e4;have tail:((js k k s t.1 (t.1.length:Int) 0).bind fun r=>match r with
  |.inl o3=>
   (mK k t.2.1 s).bind fun r1=>
   bif decide (r1.1≥0) then
    some ((2:Int),r1.1,())
   else
    (jt k k s t.2.2 (t.2.2.length:Int) 0).bind fun r=>match r with
    |.inl o5=>
     some (0,0,())
    |.inr o6=>
     some (o6.1,o6.2.1,())
  |.inr o4=>
   some (o4.1,o4.2.1,()))=some ((Pr t s).1,(Pr t s).2,()):=by
   simp only[go_sem,e2,e3,e4,Pr,ge0,plY];cases decide (0≤nC (fun x=>x.1==s) t.1 0)<;>cases decide (0≤nC (fun x=>x==s) t.2.1 0)<;>cases decide (0≤nC (fun x=>x.1==s) t.2.2 0)<;>rfl
 simp only[go_sem,fC,e1,nk];cases hf:t.2.2.find? (fun x=>x.1==fn) with
 |none=>simp only[k0X];exact tail
 |some x=>
   simp only[k0X];cases decide (0≤nC (fun y=>y==s) x.2.2.1 0) with
   |true=>rfl
   |false=>
     cases decide (0≤nC (fun y=>y==s) x.2.2.2.1 0) with
     |true=>rfl
     |false=>simp only[go_sem];exact tail
end Go.Fx.R5
namespace Go.Fx.R5
open Go Go.Fx
theorem E9(D:AS)(n s:ak)(v:Int):qg (qF D n v) s=if n=s then v else qg D s:=by
 induction D with
 |nil=>by_cases h:n=s<;>simp[qF,qg,h]
 |cons p r ih=>
  by_cases h:p.1=n
  ·subst h;by_cases h2:p.1=s<;>simp[qF,qg,h2]
  ·simp only[go_sem,qF,h,qg,ih]
   by_cases h2:p.1=s
   ·have:¬ n=s:=fun e=>h (by rw[h2,e])
    simp[h2,this]
   ·simp[h2]
def pm(t:y4)(s:ak):Prop:=(∃ x∈t.1,x.1=s)∨s∈t.2.1∨∃ x∈t.2.2,x.1=s
theorem WK(t:y4)(s:ak):(Pr t s).1≠0↔pm t s:=by
 have h1:(0≤nC (fun x:ak×Int=>x.1==s) t.1 0)↔∃ x∈t.1,x.1=s:=by rw[Ci];simp
 have h2:(0≤nC (fun x=>x==s) t.2.1 0)↔s∈t.2.1:=by rw[Ci];simp
 have h3:(0≤nC (fun x:ak×Int×XS×XS×Int=>x.1==s) t.2.2 0)↔∃ x∈t.2.2,x.1=s:=by rw[Ci];simp
 unfold pm;rw[←h1,←h2,←h3];simp only[Pr];by_cases g1:0≤nC (fun x:ak×Int=>x.1==s) t.1 0
 ·simp[g1]
 ·by_cases g2:0≤nC (fun x=>x==s) t.2.1 0
  ·simp[g1,g2]
  ·by_cases g3:0≤nC (fun x:ak×Int×XS×XS×Int=>x.1==s) t.2.2 0<;>simp[g1,g2,g3]
theorem abG{t:y4}{s:ak}(h:∀ x∈t.2.2,x.1≠[]):nk t [] s=Pr t s:=by
 have:t.2.2.find? (fun x=>x.1==([]:ak))=none:=by rw[List.find?_eq_none];intro x hx;simpa using h x hx
 simp only[nk,this]
theorem abi{F:FS}(hd:F.Pairwise fun x y=>x.1≠y.1):∀{f:Nat} {x:ak×Int×XS×XS×Int},F[f]? = some x→F.find? (fun y=>y.1==x.1)=some x:=by
 induction F with
 |nil=>intro f x h;simp at h
 |cons y r ih=>
  intro f x h;obtain⟨h1,h2⟩:=List.pairwise_cons.1 hd;cases f with
  |zero=>simp at h;subst h;simp
  |succ f=>
   have h:r[f]? = some x:=by simpa using h
   have:y.1≠x.1:=h1 x (aZa h);rw[List.find?_cons,Q6.2 this];exact ih h2 h
theorem ad4{t:y4}(hd:t.2.2.Pairwise fun x y=>x.1≠y.1){f:Nat}{x:ak×Int×XS×XS×Int}(h:t.2.2[f]? = some x)(s:ak):
  (nk t x.1 s).1≠0↔(s∈x.2.2.1∨s∈x.2.2.2.1)∨pm t s:=by
 have h2:(0≤nC (fun y=>y==s) x.2.2.1 0)↔s∈x.2.2.1:=by rw[Ci];simp
 have h3:(0≤nC (fun y=>y==s) x.2.2.2.1 0)↔s∈x.2.2.2.1:=by rw[Ci];simp
 simp only[nk,abi hd h];rw[←h2,←h3,←WK];by_cases g2:0≤nC (fun y=>y==s) x.2.2.1 0
 ·simp[g2]
 ·by_cases g3:0≤nC (fun y=>y==s) x.2.2.2.1 0<;>simp[g2,g3]
structure P1(ns:List ey)(t:y4)(D:AS):Prop where
 ia:iq t
 ne:∀ x∈t.2.2,x.1≠[]
 bd:∀ x∈t.2.2,0≤x.2.2.2.2∧x.2.2.2.2<ns.length∧kd ns x.2.2.2.2=8∧wt ns x.2.2.2.2≤ns.length
 YY:t.2.2.Pairwise fun x y=>x.1≠y.1
 dec:∀ s,0<qg D s↔pm t s
theorem OM{ns:List ey}{i:Nat}{x:ey}(h:ns[i]? = some x)(hk:∀ j∈x.2.2.2.2,0≤j∧j<(i:Int)):wt ns (i:Int)=1+jz ns x.2.2.2.2:=by
 obtain⟨hl,hx⟩:=aja.1 h;have hp:ns.take i++[x] <+: ns:=⟨ns.drop (i+1),by rw[←hx];simp⟩
 have HX:ns.take i <+: ns:=List.take_prefix _ _;have jI:(ns.take i).length=i:=by simp;omega
 rw[qZ hp (by omega) (by simp;omega)]
 have:=nT (ns:=ns.take i) (x:=x);rw[jI] at this;rw[this,pz HX (fun j hj=>by rw[jI];exact hk j hj)]
theorem aaZ{ns:List ey}{l:XI}{j:Int}(h:j∈l):wt ns j≤jz ns l:=by
 induction l with
 |nil=>cases h
 |cons a l ih=>
  have e:jz ns (a::l)=wt ns a+jz ns l:=by simp[jz]
  rcases aka.1 h with rfl|h
  ·omega
  ·have:=ih h;omega
theorem uB{ns:List ey}{j:Int}(h0:0≤j)(h1:j<ns.length):∃ x,ns[j.toNat]? = some x∧kd ns j=x.1∧bA ns j=some x:=by
 have:j.toNat<ns.length:=by omega
 refine⟨ns[j.toNat],by simp[this],by simp[kd,this],?_⟩
 have:bA ns ((j.toNat:Nat):Int)=some ns[j.toNat]:=cX this;rwa[aMa h0] at this
theorem aaG{ns:List ey}{i:Nat}{x:ey}(h:nU ns i x)(hk:x.1=4):∃ b,x.2.2.2.2.getLast? = some b∧0≤b∧b<i∧kd ns b=8∧(∀ j∈x.2.2.2.2.dropLast,0≤j∧j<i∧vT (kd ns j)=true):=by
 have hs:=h.shp;rw[hk] at hs;have hs:((x.2.2.2.2.map (kd ns)).dropLast.all vT&&((x.2.2.2.2.map (kd ns)).getLast?==some 8))=true:=hs;simp only[Q4,bfa] at hs;cases hl:x.2.2.2.2.getLast? with
 |none=>rw[List.getLast?_map,hl] at hs;simp at hs
 |some b=>
  have hb:=List.mem_of_getLast? hl;have:=h.cE b hb;refine⟨b,rfl,this.1,this.2,?_,fun j hj=>?_⟩
  ·rw[List.getLast?_map,hl] at hs;simpa using hs.2
  ·have:=h.cE j ((List.dropLast_sublist _).subset hj)
   refine⟨this.1,this.2,?_⟩;have h1:=hs.1;rw[←List.map_dropLast,cKa,apa] at h1;exact h1 j hj
theorem ZN{l:XI}{b:Int}(h:l.getLast? = some b)(hl:l.length≤1000000):bA l (cm ((l.length:Int) - 1))=some b:=by
 have gT:l≠[]:=by intro e;rw[e] at h;cases h
 have hp:=List.length_pos_iff.2 gT;rw[dT (by omega) (by omega),show(l.length:Int) - 1=((l.length - 1:Nat):Int) by omega]
 exact bj (by rw[←h,List.getLast?_eq_getElem?])
theorem HU{t:y4}{s:ak}{t':y4}(h:(∃ z,t' = (t.1++[(s,z)],t.2.1,t.2.2))∨t' = (t.1,t.2.1++[s],t.2.2)∨∃ z,t' = (t.1,t.2.1,t.2.2++[(s,z)]))(u:ak):pm t' u↔s=u∨pm t u:=by
 rcases h with ⟨z,rfl⟩|rfl|⟨z,rfl⟩
 ·simp only[pm,ala,Q7]
  constructor
  ·rintro(⟨x,hx|rfl,rfl⟩|h|h)
   ·exact .inr (.inl ⟨x,hx,rfl⟩)
   ·exact .inl rfl
   ·exact .inr (.inr (.inl h))
   ·exact .inr (.inr (.inr h))
  ·rintro(rfl|⟨x,hx,rfl⟩|h|h)
   ·exact .inl ⟨_,.inr rfl,rfl⟩
   ·exact .inl ⟨x,.inl hx,rfl⟩
   ·exact .inr (.inl h)
   ·exact .inr (.inr h)
 ·simp only[pm,ala,Q7]
  constructor
  ·rintro(h|(h|rfl)|h)
   ·exact .inr (.inl h)
   ·exact .inr (.inr (.inl h))
   ·exact .inl rfl
   ·exact .inr (.inr (.inr h))
  ·rintro(rfl|h|h|h)
   ·exact .inr (.inl (.inr rfl))
   ·exact .inl h
   ·exact .inr (.inl (.inl h))
   ·exact .inr (.inr h)
 ·simp only[pm,ala,Q7]
  constructor
  ·rintro(h|h|⟨x,hx|rfl,rfl⟩)
   ·exact .inr (.inl h)
   ·exact .inr (.inr (.inl h))
   ·exact .inr (.inr (.inr ⟨x,hx,rfl⟩))
   ·exact .inl rfl
  ·rintro(rfl|h|h|⟨x,hx,rfl⟩)
   ·exact .inr (.inr ⟨_,.inr rfl,rfl⟩)
   ·exact .inl h
   ·exact .inr (.inl h)
   ·exact .inr (.inr ⟨x,.inl hx,rfl⟩)
theorem Rz{t t':y4}{D:AS}{s:ak}(h:∀ u,0<qg D u↔pm t u)(h2:∀ u,pm t' u↔s=u∨pm t u):∀ u,0<qg (qF D s 1) u↔pm t' u:=by
 intro u;rw[E9,h2];by_cases e:s=u
 ·simp[e]
 ·simp[e,h]
theorem Xw{ns:List ey}{t:y4}{D:AS}(hp:P1 ns t D){j:Int}{x:ey}(h0:0≤j)(hx:ns[j.toNat]? = some x)(Aw:bA ns j=some x)(hn:nU ns j.toNat x)(hk:FQ x.1=true)(hl:ns.length≤100000)(hw:wt ns j≤ns.length):
  (∃ c,c≠0∧∃ A' G' F' D',Ev (fun k=>kI k t.1 t.2.1 t.2.2 x=some (t.1,t.2.1,t.2.2,c,()))∧eG t.1 t.2.1 t.2.2 ns j D=some (c,A',G',F',D',()))∨
  ∃(t':y4) (D':AS),P1 ns t' D'∧t'.2.2.length=t.2.2.length+(if x.1=4 then 1 else 0)∧((∀ f∈t.2.2,f.2.1=0∧f.2.2.1=[]∧f.2.2.2.1=[])→∀ f∈t'.2.2,f.2.1=0∧f.2.2.1=[]∧f.2.2.2.1=[])∧
   Ev (fun k=>kI k t.1 t.2.1 t.2.2 x=some (t'.1,t'.2.1,t'.2.2,0,()))∧eG t.1 t.2.1 t.2.2 ns j D=some (0,t'.1,t'.2.1,t'.2.2,D',()):=by
 obtain⟨A,G,F⟩:=t;have hj:j.toNat<ns.length:=(aja.1 hx).1;have hs:=VH hp.ia ([]:ak) x.2.2.2.1;rw[abG hp.ne] at hs;have U8:=hp.dec x.2.2.2.1;have afu:=WK (A,G,F) x.2.2.2.1;have ha:=hp.ia.a;have hg:=hp.ia.g;have hf:=hp.ia.f;simp only at ha hg hf;by_cases ht:pm (A,G,F) x.2.2.2.1
 ·have h1:0<qg D x.2.2.2.1:=U8.2 ht
  have h2:((Pr (A,G,F) x.2.2.2.1).1 != 0)=true:=aYa.2 (afu.2 ht);refine .inl ⟨9,by decide,A,G,F,D,hs.mono fun k e=>?_,?_⟩
  ·simp only[go_sem,kI,e,h2]
  ·simp only[go_sem,eG,Aw,bLa,h1]
 ·have h1:¬ 0<qg D x.2.2.2.1:=fun h=>ht (U8.1 h)
  have h2:((Pr (A,G,F) x.2.2.2.1).1 != 0)=false:=by
   cases h:((Pr (A,G,F) x.2.2.2.1).1 != 0) with
   |false=>rfl
   |true=>exact absurd (afu.1 (aYa.1 h)) ht
  have hk:x.1=2∨x.1=3∨x.1=4:=by simpa[FQ,or_assoc] using hk
  rcases hk with hk|hk|hk
  ·
   have hin:my x.2.2.1 1 64=some (decide (1≤x.2.2.1)&&decide (x.2.2.1≤64),()):=by simp only[my,aa,ge_iff_le];cases decide (1≤x.2.2.1)<;>rfl
   by_cases Kk:A.length=4∨¬ (1≤x.2.2.1∧x.2.2.1≤64)
   ·refine .inl ⟨8,by decide,A,G,F,qF D x.2.2.2.1 1,hs.mono fun k e=>?_,?_⟩
    ·by_cases h4:A.length=4
     ·simp only[go_sem,kI,e,h2,hk,aa,h4,show decide (((4:Nat):Int)≥4)=true from rfl]
     ·have hb:(decide (1≤x.2.2.1)&&decide (x.2.2.1≤64))=false:=by
       rcases Kk with h|h
       ·exact absurd h h4
       ·simpa using h
      simp only[go_sem,kI,e,h2,hk,aa,show decide ((A.length:Int)≥4)=false from bqa (by omega),hin,hb]
    ·by_cases h4:A.length=4
     ·simp only[go_sem,eG,Aw,bLa,h1,hk,aa,h4,show(((4:Nat):Int)==4)=true from rfl]
     ·have h5:((A.length:Int)==4)=false:=by simp;omega
      by_cases h6:x.2.2.1<1
      ·simp only[go_sem,eG,Aw,bLa,h1,hk,aa,h5,h6]
      ·have h7:64<x.2.2.1:=by omega
       simp only[go_sem,eG,Aw,bLa,h1,hk,aa,h5,h6,h7]
   ·simp only[cha,Decidable.not_not] at Kk
    have za:lA A [(x.2.2.2.1,x.2.2.1)]=some (A++[(x.2.2.2.1,x.2.2.1)]):=pZ (by simp;omega)
    have h5:((A.length:Int)==4)=false:=by simp;omega
    have h6:¬ x.2.2.1<1:=by omega
    have h7:¬ 64<x.2.2.1:=by omega
    refine .inr ⟨(A++[(x.2.2.2.1,x.2.2.1)],G,F),qF D x.2.2.2.1 1,⟨⟨by simp;omega,hg,hf,hp.ia.i,fun y hy=>by
     rcases ala.1 hy with hy|hy
     ·exact hp.ia.z y hy
     ·rw[Q7.1 hy];exact Kk.2⟩,hp.ne,hp.bd,hp.YY,Rz hp.dec (HU (.inl ⟨_,rfl⟩))⟩,by simp[hk],fun h=>h,hs.mono fun k e=>?_,?_⟩
    ·simp only[go_sem,kI,e,h2,hk,aa,show decide ((A.length:Int)≥4)=false from bqa (by omega),hin,Kk.2.1,Kk.2.2,bwa,za]
    ·simp only[go_sem,eG,Aw,bLa,h1,hk,aa,h5,h6,h7,za]
  ·
   have e2:((3:Int)==2)=false:=rfl;by_cases Kk:G.length=4
   ·refine .inl ⟨8,by decide,A,G,F,qF D x.2.2.2.1 1,hs.mono fun k e=>?_,?_⟩
    ·simp only[go_sem,kI,e,h2,hk,e2,Kk,show decide (((4:Nat):Int)≥4)=true from rfl]
    ·simp only[go_sem,eG,Aw,bLa,h1,hk,e2,aa,Kk,show(((4:Nat):Int)==4)=true from rfl]
   ·have za:lA G [x.2.2.2.1]=some (G++[x.2.2.2.1]):=pZ (by simp;omega)
    have h5:((G.length:Int)==4)=false:=by simp;omega
    refine .inr ⟨(A,G++[x.2.2.2.1],F),qF D x.2.2.2.1 1,⟨⟨ha,by simp;omega,hf,hp.ia.i,hp.ia.z⟩,hp.ne,hp.bd,hp.YY,Rz hp.dec (HU (.inr (.inl rfl)))⟩,by simp[hk],fun h=>h,hs.mono fun k e=>?_,?_⟩
    ·simp only[go_sem,kI,e,h2,hk,e2,show decide ((G.length:Int)≥4)=false from bqa (by omega),za]
    ·simp only[go_sem,eG,Aw,bLa,h1,hk,e2,aa,h5,za]
  ·
   obtain⟨b,hb,b0,b1,b2,_⟩:=aaG hn hk;have e2:((4:Int)==2)=false:=rfl;have e3:((4:Int)==3)=false:=rfl;have Ho:=ZN hb (by have:=hn.nm.2;omega)
   by_cases Kk:F.length=6
   ·refine .inl ⟨8,by decide,A,G,F,qF D x.2.2.2.1 1,hs.mono fun k e=>?_,?_⟩
    ·simp only[go_sem,kI,e,h2,hk,e2,e3,Kk,show decide (((6:Nat):Int)≥6)=true from rfl]
    ·simp only[go_sem,eG,Aw,bLa,h1,hk,e2,e3,aa,Kk,show(((6:Nat):Int)==6)=true from rfl]
   ·have za:lA F [(x.2.2.2.1,0,[],[],b)]=some (F++[(x.2.2.2.1,0,[],[],b)]):=pZ (by simp;omega)
    have h5:((F.length:Int)==6)=false:=by simp;omega
    refine .inr ⟨(A,G,F++[(x.2.2.2.1,0,[],[],b)]),qF D x.2.2.2.1 1,⟨⟨ha,hg,by simp;omega,?_,hp.ia.z⟩,?_,?_,?_,Rz hp.dec (HU (.inr (.inr ⟨_,rfl⟩)))⟩,by simp[hk],?_,hs.mono fun k e=>?_,?_⟩
    ·intro y hy
     rcases ala.1 hy with hy|hy
     ·exact hp.ia.i y hy
     ·rw[Q7.1 hy];simp
    ·intro y hy
     rcases ala.1 hy with hy|hy
     ·exact hp.ne y hy
     ·rw[Q7.1 hy];exact hn.nm.1 hk
    ·intro y hy
     rcases ala.1 hy with hy|hy
     ·exact hp.bd y hy
     ·rw[Q7.1 hy]
      have h1:=OM hx hn.cE;rw[aMa h0] at h1;have h2:=aaZ (ns:=ns) (List.mem_of_getLast? hb);exact⟨b0,by show b<_;omega,b2,by show wt ns b≤_;omega⟩
    ·refine List.pairwise_append.2 ⟨hp.YY,List.pairwise_singleton _ _,fun y hy z hz=>?_⟩
     rw[Q7.1 hz];exact fun e=>ht (.inr (.inr ⟨y,hy,e⟩))
    ·intro h f hf
     rcases ala.1 hf with hf|hf
     ·exact h f hf
     ·rw[Q7.1 hf];exact⟨rfl,rfl,rfl⟩
    ·simp only[go_sem,kI,e,h2,hk,e2,e3,show decide ((F.length:Int)≥6)=false from bqa (by omega),Ho,za]
    ·simp only[go_sem,eG,Aw,bLa,h1,hk,e2,e3,aa,h5,Ho,za]
end Go.Fx.R5
namespace Go.Fx.R5
open Go Go.Fx
def cnt(ns:List ey)(l:XI):Nat:=(l.filter fun j=>kd ns j==4).length
def ach(t:y4):Prop:=∀ f∈t.2.2,f.2.1=0∧f.2.2.1=[]∧f.2.2.2.1=[]
section
variable {ns:List ey} {cE:XI}
theorem Wy(fd:jl ns)(hk:iO FQ ns cE){i:Nat}(hi:i<cE.length):∃ x:ey,bA cE (i:Int)=some cE[i]∧bA ns cE[i]=some x∧ns[cE[i].toNat]? = some x∧nU ns cE[i].toNat x∧FQ x.1=true∧kd ns cE[i]=x.1∧0≤cE[i]:=by have hv:=hk.v _ (aWa hi);obtain⟨x,e1,e2,e3⟩:=uB hv.1 hv.2;exact⟨x,cX hi,e3,e1,fd _ _ e1,by rw[←e2];exact hk.c _ (aWa hi),e2,hv.1⟩
theorem P0(fd:jl ns)(hl:ns.length≤100000)(hk:iO FQ ns cE)(Ah:cE.length≤5000)(hks:jz ns cE≤ns.length):∀ m i (t:y4) (D:AS),m+i=cE.length→P1 ns t D→ach t→
  (∃(c p:Int),c≠0∧ct fun q k=>dg q k ns cE 0 0 t.1 t.2.1 t.2.2 (i:Int)=some (.inr (c,p,()))∧dH q k ns cE (cE.length:Int) t.1 t.2.1 t.2.2 0 0 D (i:Int)=some (.inr (c,p,())))∨
  ∃(t':y4) (D':AS),P1 ns t' D'∧ach t'∧t'.2.2.length=t.2.2.length+cnt ns (cE.drop i)∧ct fun q k=>dg q k ns cE 0 0 t.1 t.2.1 t.2.2 (i:Int)=some (.inl (0,0,t'.1,t'.2.1,t'.2.2,()))∧
   dH q k ns cE (cE.length:Int) t.1 t.2.1 t.2.2 0 0 D (i:Int)=some (.inl (t'.1,t'.2.1,t'.2.2,0,0,D',()))
 |0,i,t,D,h,hp,hf=>by
  have h2:¬ i<cE.length:=by omega
  refine .inr ⟨t,D,hp,hf,?_,ct.succ (ct.of fun q k=>⟨?_,?_⟩)⟩
  ·have:cE.drop i=[]:=by simp;omega
   simp[this,cnt]
  ·simp only[go_sem,dg,Q3,h2]
  ·simp only[go_sem,dH,Q3,h2]
 |m+1,i,t,D,h,hp,hf=>by
  have bq:i<cE.length:=by omega
  obtain⟨x,e1,e2,e3,e4,e5,e6,e7⟩:=Wy fd hk bq;have hwk:=aaZ (ns:=ns) (aWa bq);rcases Xw hp e7 e3 e2 e4 e5 hl (by omega) with ⟨c,hc,A',G',F',D',g1,g2⟩|⟨t',D',Ax,jI,sU,g1,g2⟩
  ·refine .inl ⟨c,x.2.1,hc,ct.succ (g1.tZ.mono fun q k e=>⟨?_,?_⟩)⟩
   ·simp only[go_sem,dg,ph,Q3,bq,e1,e2,e,aYa.2 hc]
   ·simp only[go_sem,dH,Q3,bq,e1,e2,g2,aYa.2 hc]
  ·have hdr:cnt ns (cE.drop i)=(if x.1=4 then 1 else 0)+cnt ns (cE.drop (i+1)):=by
    rw[aSa bq];simp only[cnt,cna,e6];by_cases h4:x.1=4<;>simp[h4]<;>omega
   have ac0:∀{q k r},kI q t.1 t.2.1 t.2.2 x=some (t'.1,t'.2.1,t'.2.2,0,())→dg q k ns cE 0 0 t'.1 t'.2.1 t'.2.2 ((i+1:Nat):Int)=r→dg q (k+1) ns cE 0 0 t.1 t.2.1 t.2.2 (i:Int)=r:=by intro q k r a1 a2;simp only[go_sem,dg,ph,Q3,bq,e1,e2,a1,ae (show i<_ by omega),a2]
   have ac1:∀{q k r},dH q k ns cE (cE.length:Int) t'.1 t'.2.1 t'.2.2 0 0 D' ((i+1:Nat):Int)=r→dH q (k+1) ns cE (cE.length:Int) t.1 t.2.1 t.2.2 0 0 D (i:Int)=r:=by intro q k r a2;simp only[go_sem,dH,Q3,bq,e1,g2,ae (show i<_ by omega),a2]
   rcases P0 fd hl hk Ah hks m (i+1) t' D' (by omega) Ax (sU hf) with ⟨c,p,hc,he⟩|⟨t2,D2,q1,q2,q3,he⟩
   ·exact .inl ⟨c,p,hc,ct.succ ((g1.tZ.and he).mono fun q k e=>⟨ac0 e.1 e.2.1,ac1 e.2.2⟩)⟩
   ·exact .inr ⟨t2,D2,q1,q2,by omega,ct.succ ((g1.tZ.and he).mono fun q k e=>⟨ac0 e.1 e.2.1,ac1 e.2.2⟩)⟩
end
section
variable {ns:List ey} {t:y4} {D:AS}
theorem VW{F:FS}{A:AS}{G:XS}{f:Nat}{x y:ak×Int×XS×XS×Int}(hx:F[f]? = some x)(hn:y.1=x.1)(u:ak):pm (A,G,F.set f y) u↔pm (A,G,F) u:=by
 have:(∃ z∈F.set f y,z.1=u)↔∃ z∈F,z.1=u:=by
  have h1:(F.set f y).map (·.1)=F.map (·.1):=by
   rw[List.map_set,hn];have:(F.map (·.1))[f]? = some x.1:=by simp[hx]
   apply bHa;intro n;rw[cJa];by_cases e:f=n
   ·subst e
    obtain⟨bq,hxe⟩:=aja.1 hx;simp[bq,hxe]
   ·simp[e]
  have:∀ F':FS,(∃ z∈F',z.1=u)↔u∈F'.map (·.1):=fun F'=>by simp
  rw[this,this,h1]
 simp only[pm,this]
theorem YZ{F:FS}{f:Nat}{x y:ak×Int×XS×XS×Int}(hx:F[f]? = some x)(hn:y.1=x.1)(h:F.Pairwise fun x y=>x.1≠y.1):(F.set f y).Pairwise fun x y=>x.1≠y.1:=by
 have h1:(F.set f y).map (·.1)=F.map (·.1):=by
  rw[List.map_set,hn];apply bHa;intro n;rw[cJa];by_cases e:f=n
  ·subst e
   obtain⟨bq,hxe⟩:=aja.1 hx;simp[bq,hxe]
  ·simp[e]
 have h2:∀ F':FS,F'.Pairwise (fun x y=>x.1≠y.1)↔(F'.map (·.1)).Pairwise (·≠·):=fun F'=>by rw[List.pairwise_map]
 rw[h2,h1,←h2];exact h
theorem P1.set(hp:P1 ns t D){f:Nat}{x y:ak×Int×XS×XS×Int}(hx:t.2.2[f]? = some x)(hn:y.1=x.1)(hb:y.2.2.2.2=x.2.2.2.2)(hi:y.2.2.1.length≤8∧y.2.2.2.1.length≤3∧0≤y.2.1∧y.2.1≤3):P1 ns (t.1,t.2.1,t.2.2.set f y) D:=by
 have hm:∀ z∈t.2.2.set f y,z∈t.2.2∨z=y:=fun z hz=>List.mem_or_eq_of_mem_set hz;have hxm:=aZa hx;refine⟨⟨hp.ia.a,hp.ia.g,by simpa using hp.ia.f,fun z hz=>?_,hp.ia.z⟩,fun z hz=>?_,fun z hz=>?_,YZ hx hn hp.YY,fun s=>?_⟩
 ·rcases hm z hz with h|rfl
  ·exact hp.ia.i z h
  ·exact hi
 ·rcases hm z hz with h|rfl
  ·exact hp.ne z h
  ·rw[hn];exact hp.ne x hxm
 ·rcases hm z hz with h|rfl
  ·exact hp.bd z h
  ·rw[hb];exact hp.bd x hxm
 ·rw[hp.dec];exact(VW hx hn s).symm
theorem acS(is rs:XS)(n s:ak):(s∈is++[n]∨s∈rs)↔n=s∨(s∈is∨s∈rs):=by
 rw[ala,Q7];constructor
 ·rintro((h|rfl)|h)
  ·exact .inr (.inl h)
  ·exact .inl rfl
  ·exact .inr (.inr h)
 ·rintro(rfl|h|h)
  ·exact .inl (.inr rfl)
  ·exact .inl (.inl h)
  ·exact .inr h
theorem afF(is rs:XS)(n s:ak):(s∈is∨s∈rs++[n])↔n=s∨(s∈is∨s∈rs):=by
 rw[ala,Q7];constructor
 ·rintro(h|h|rfl)
  ·exact .inr (.inl h)
  ·exact .inr (.inr h)
  ·exact .inl rfl
 ·rintro(rfl|h|h)
  ·exact .inr (.inr rfl)
  ·exact .inl h
  ·exact .inr (.inl h)
def UR(ns:List ey)(D:AS)(K:XI)(f:Nat)(nm:ak)(body:Int)(t:y4)(ps:Int)(is rs:XS)(pd:AS)(i:Nat):Prop:=
 (∃(c p:Int),c≠0∧ct fun q k=>(∃ A G F,dD q k K ns (f:Int) t.1 t.2.1 t.2.2 0 0 (i:Int)=some (.inr (c,p,A,G,F,())))∧
  ∃ HY FP FV,bS q k D ns K.dropLast (K.dropLast.length:Int) 0 0 ps is rs pd (i:Int)=some (.inr (c,p,HY,FP,FV,())))∨
 ∃(HY:Int) (FP FV:XS),P1 ns (t.1,t.2.1,t.2.2.set f (nm,HY,FP,FV,body)) D∧ct fun q k=>dD q k K ns (f:Int) t.1 t.2.1 t.2.2 0 0 (i:Int)=some (.inl (t.1,t.2.1,t.2.2.set f (nm,HY,FP,FV,body),0,0,()))∧
  bS q k D ns K.dropLast (K.dropLast.length:Int) 0 0 ps is rs pd (i:Int)=some (.inl (0,0,HY,FP,FV,()))
theorem aah(fd:jl ns){K:XI}{f:Nat}(hK:∀ j∈K.dropLast,0≤j∧j<(ns.length:Int)∧vT (kd ns j)=true)(hKl:K.length≤5000){nm:ak}{body:Int}:∀ m i (t:y4) (ps:Int) (is rs:XS) (pd:AS),m+i=K.dropLast.length→P1 ns t D→t.2.2[f]? = some (nm,ps,is,rs,body)→(∀ s,0<qg pd s↔(s∈is∨s∈rs))→
  UR ns D K f nm body t ps is rs pd i:=by
 intro m;have mA:K.dropLast.length=K.length - 1:=List.length_dropLast;induction m with
 |zero=>
  intro i t ps is rs pd h hp hx ho;have h1:¬ (i+1:Nat)<K.length:=by omega
  have h2:¬ i<K.dropLast.length:=by omega
  have Kn:t.2.2.set f (nm,ps,is,rs,body)=t.2.2:=by obtain⟨hl,he⟩:=aja.1 hx;rw[←he];simp
  refine .inr ⟨ps,is,rs,by rw[Kn];exact hp,ct.succ (ct.of fun q k=>⟨?_,?_⟩)⟩
  ·simp only[go_sem,dD,ae (show i<_ by omega),Q3,h1,Kn]
  ·simp only[go_sem,bS,Q3,h2]
 |succ m ih=>
  intro i t ps is rs pd h hp hx ho;obtain⟨A,G,F⟩:=t;have hx:F[f]? = some (nm,ps,is,rs,body):=hx;have bq:i<K.dropLast.length:=by omega
  have h1:(i+1:Nat)<K.length:=by omega
  have Hr:i<K.length:=by omega
  have hj:K.dropLast[i]=K[i]:=by simp
  have hv:=hK _ (aWa bq);rw[hj] at hv;obtain⟨x,e1,e2,e3⟩:=uB hv.1 hv.2.1;rw[e2] at hv;have hbb:=hp.ia.i _ (aZa hx);simp only at hbb;have hnk:=VH hp.ia nm x.2.2.2.1;have jr:=ad4 hp.YY (t:=(A,G,F)) (f:=f) hx x.2.2.2.1;have U8:=hp.dec x.2.2.2.1;simp only at jr;have i1:bA K (i:Int)=some K[i]:=cX Hr;have i2:bA K.dropLast (i:Int)=some K[i]:=by rw[cX bq,hj]
  have i3:bA F (f:Int)=some (nm,ps,is,rs,body):=bj hx;have ft:((f:Int)).toNat=f:=aya f;by_cases htw:(x.2.2.2.1∈is∨x.2.2.2.1∈rs)∨pm (A,G,F) x.2.2.2.1
  ·have hz:((nk (A,G,F) nm x.2.2.2.1).1 != 0)=true:=aYa.2 (jr.2 htw)
   refine .inl ⟨9,x.2.1,by decide,ct.succ (hnk.tZ.mono fun q k e=>⟨⟨A,G,F,?_⟩,ps,is,rs,?_⟩)⟩
   ·simp only[go_sem,dD,ae (show i<_ by omega),Q3,h1,i1,e3,ft,i3,e,hz]
   ·have:((decide (qg D x.2.2.2.1 > 0)) ||(decide (qg pd x.2.2.2.1 > 0)))=true:=by
     simp only[a3a,bKa,bLa,U8,ho];exact htw.elim .inr .inl
    simp only[go_sem,bS,Q3,bq,i2,e3,zO,this]
  ·have hz:((nk (A,G,F) nm x.2.2.2.1).1 != 0)=false:=by
    cases hh:((nk (A,G,F) nm x.2.2.2.1).1 != 0) with
    |false=>rfl
    |true=>exact absurd (jr.1 (aYa.1 hh)) htw
   have hor:((decide (qg D x.2.2.2.1 > 0)) ||(decide (qg pd x.2.2.2.1 > 0)))=false:=by simp only[aEa,cka,bLa,U8,ho];exact⟨fun h=>htw (.inr h),fun h=>htw (.inl h)⟩
   have ho':∀{FP FV:XS},((∀ s,(s∈FP∨s∈FV)↔x.2.2.2.1=s∨(s∈is∨s∈rs)))→∀ s,0<qg (qF pd x.2.2.2.1 1) s↔(s∈FP∨s∈FV):=fun hh s=>by
    rw[E9,hh];by_cases e:x.2.2.2.1=s
    ·simp[e]
    ·simp[e,ho]
   have sw:∀(HY:Int) (FP FV:XS),FP.length≤8∧FV.length≤3∧0≤HY∧HY≤3→(∀ s,(s∈FP∨s∈FV)↔x.2.2.2.1=s∨(s∈is∨s∈rs))→
     (∀ q k r,cO q (A,G,F) nm x.2.2.2.1=some ((nk (A,G,F) nm x.2.2.2.1).1,(nk (A,G,F) nm x.2.2.2.1).2,())→dD q k K ns (f:Int) A G (F.set f (nm,HY,FP,FV,body)) 0 0 ((i+1:Nat):Int)=r→dD q (k+1) K ns (f:Int) A G F 0 0 (i:Int)=r)→
     (∀ q k r,bS q k D ns K.dropLast (K.dropLast.length:Int) 0 0 HY FP FV (qF pd x.2.2.2.1 1) ((i+1:Nat):Int)=r→bS q (k+1) D ns K.dropLast (K.dropLast.length:Int) 0 0 ps is rs pd (i:Int)=r)→
     UR ns D K f nm body (A,G,F) ps is rs pd i:=fun HY FP FV hb hh s1 s2=>by
    have Kn:P1 ns (A,G,F.set f (nm,HY,FP,FV,body)) D:=hp.set (t:=(A,G,F)) hx rfl rfl hb;have NE:(F.set f (nm,HY,FP,FV,body))[f]? = some (nm,HY,FP,FV,body):=by have:=(aja.1 hx).1;simp[this]
    rcases ih (i+1) (A,G,F.set f (nm,HY,FP,FV,body)) HY FP FV (qF pd x.2.2.2.1 1) (by omega) Kn NE (ho' hh) with ⟨c,p,hc,he⟩|⟨ps2,is2,rs2,HX,he⟩
    ·exact .inl ⟨c,p,hc,ct.succ ((hnk.tZ.and he).mono fun q k e=>⟨by obtain⟨A',G',F',e2⟩:=e.2.1;exact⟨A',G',F',s1 q k _ e.1 e2⟩,by obtain⟨p',i',r',e2⟩:=e.2.2;exact⟨p',i',r',s2 q k _ e2⟩⟩)⟩
    ·refine .inr ⟨ps2,is2,rs2,?_,ct.succ ((hnk.tZ.and he).mono fun q k e=>⟨?_,s2 q k _ e.2.2⟩)⟩
     ·simpa only[List.set_set] using HX
     ·have:=s1 q k _ e.1 e.2.1
      simpa only[List.set_set] using this
   have lim:∀(ahh:∀ q k,cO q (A,G,F) nm x.2.2.2.1=some ((nk (A,G,F) nm x.2.2.2.1).1,(nk (A,G,F) nm x.2.2.2.1).2,())→dD q (k+1) K ns (f:Int) A G F 0 0 (i:Int)=some (.inr (8,x.2.1,A,G,F,())))
     (agB:∀ q k,∃ HY FP FV,bS q (k+1) D ns K.dropLast (K.dropLast.length:Int) 0 0 ps is rs pd (i:Int)=some (.inr (8,x.2.1,HY,FP,FV,()))),UR ns D K f nm body (A,G,F) ps is rs pd i:=
    fun hf1 hf2=>Or.inl ⟨8,x.2.1,by decide,ct.succ (hnk.tZ.mono fun q k e=>⟨⟨A,G,F,hf1 q k e⟩,hf2 q k⟩)⟩
   have hkk:x.1=5∨x.1=6∨x.1=7:=by simpa[vT,or_assoc] using hv.2.2
   rcases hkk with hkk|hkk|hkk
   ·
    have n1:((5:Int)==7)=false:=rfl;have n2:((5:Int) != 7)=true:=rfl;have hai:lA is [x.2.2.2.1]=some (is++[x.2.2.2.1]):=pZ (by simp;omega)
    by_cases hl:is.length=8∨ps=3
    ·refine lim (fun q k e=>?_) (fun q k=>⟨cm (ps+1),is++[x.2.2.2.1],rs,?_⟩)
     ·by_cases h8:is.length=8
      ·simp only[go_sem,dD,aa,ae (show i<_ by omega),Q3,h1,i1,e3,ft,i3,e,hz,hkk,n1,n2,h8,show decide (((8:Nat):Int)≥8)=true from rfl]
      ·have h3:ps=3:=hl.resolve_left h8
       simp only[go_sem,dD,aa,ae (show i<_ by omega),Q3,h1,i1,e3,ft,i3,e,hz,hkk,n1,n2,show decide ((is.length:Int)≥8)=false from bqa (by omega),h3,show decide ((3:Int)≥3)=true from rfl]
     ·have hb:(((is.length:Int)==8) ||(ps==3))=true:=by
       rcases hl with h|h
       ·simp[h]
       ·simp[h]
      simp only[go_sem,bS,Q3,bq,i2,e3,zO,hor,hkk,n1,hb,hai];simp only[go_sem,aa]
    ·simp only[cha] at hl
     have hw:cm (ps+1)=ps+1:=dT (by omega) (by omega)
     refine sw (ps+1) (is++[x.2.2.2.1]) rs ⟨by simp;omega,by omega,by omega,by omega⟩ (acS is rs _) (fun q k r e er=>?_) (fun q k r er=>?_)
     ·simp only[go_sem,dD,aa,ae (show i<_ by omega),Q3,h1,i1,e3,ft,i3,e,hz,hkk,n1,n2,show decide ((is.length:Int)≥8)=false from bqa (by omega),show decide (ps≥3)=false from bqa (by omega),hai,hw,b7a,bwa,er]
     ·have hb:(((is.length:Int)==8) ||(ps==3))=false:=by
       simp only[aEa,Q6];exact⟨by omega,hl.2⟩
      simp only[go_sem,bS,Q3,bq,i2,e3,zO,hor,hkk,n1,hb,hai,hw];simp only[go_sem,aa,ae (show i<_ by omega),er]
   ·
    have n1:((6:Int)==7)=false:=rfl;have n2:((6:Int) != 7)=true:=rfl;have n3:((6:Int)==5)=false:=rfl;have hai:lA is [x.2.2.2.1]=some (is++[x.2.2.2.1]):=pZ (by simp;omega)
    by_cases hl:is.length=8
    ·refine lim (fun q k e=>?_) (fun q k=>⟨ps,is++[x.2.2.2.1],rs,?_⟩)
     ·simp only[go_sem,dD,aa,ae (show i<_ by omega),Q3,h1,i1,e3,ft,i3,e,hz,hkk,n1,n2,hl,show decide (((8:Nat):Int)≥8)=true from rfl]
     ·simp only[go_sem,bS,Q3,bq,i2,e3,zO,hor,hkk,n1,n3,hl,hai]
      simp only[go_sem,aa,show(((8:Nat):Int)==8)=true from rfl]
    ·refine sw ps (is++[x.2.2.2.1]) rs ⟨by simp;omega,by omega,by omega,by omega⟩ (acS is rs _) (fun q k r e er=>?_) (fun q k r er=>?_)
     ·simp only[go_sem,dD,aa,ae (show i<_ by omega),Q3,h1,i1,e3,ft,i3,e,hz,hkk,n1,n2,n3,show decide ((is.length:Int)≥8)=false from bqa (by omega),hai,b7a,bwa,er]
     ·have hb:((is.length:Int)==8)=false:=by simp;omega
      simp only[go_sem,bS,Q3,bq,i2,e3,zO,hor,hkk,n1,n3,hb,hai];simp only[go_sem,aa,ae (show i<_ by omega),er]
   ·
    have n2:((7:Int) != 7)=false:=rfl;have n3:((7:Int)==5)=false:=rfl;have hai:lA rs [x.2.2.2.1]=some (rs++[x.2.2.2.1]):=pZ (by simp;omega)
    by_cases hl:rs.length=3
    ·refine lim (fun q k e=>?_) (fun q k=>⟨ps,is,rs++[x.2.2.2.1],?_⟩)
     ·simp only[go_sem,dD,aa,ae (show i<_ by omega),Q3,h1,i1,e3,ft,i3,e,hz,hkk,hl,show decide (((3:Nat):Int)≥3)=true from rfl]
     ·simp only[go_sem,bS,Q3,bq,i2,e3,zO,hor,hkk,hl,hai]
      simp only[go_sem,aa,show(((3:Nat):Int)==3)=true from rfl]
    ·refine sw ps is (rs++[x.2.2.2.1]) ⟨by omega,by simp;omega,by omega,by omega⟩ (afF is rs _) (fun q k r e er=>?_) (fun q k r er=>?_)
     ·simp only[go_sem,dD,aa,ae (show i<_ by omega),Q3,h1,i1,e3,ft,i3,e,hz,hkk,n2,n3,show decide ((rs.length:Int)≥3)=false from bqa (by omega),hai,b7a,bwa,er]
     ·have hb:((rs.length:Int)==3)=false:=by simp;omega
      simp only[go_sem,bS,Q3,bq,i2,e3,zO,hor,hkk,hb,hai];simp only[go_sem,aa,ae (show i<_ by omega),er]
end
end Go.Fx.R5
namespace Go.Fx.R5
open Go Go.Fx
section
variable {ns:List ey} {cE:XI} {D:AS}
theorem aaO{K:XI}(h:K≠[])(hl:K.length≤5000):sub K 0 (cm ((K.length:Int) - 1))=some K.dropLast:=by
 have hp:=List.length_pos_iff.2 h;have:=HT (l:=K) (m:=0) (n:=K.length - 1) (by omega) (by omega)
 rw[dT (by omega) (by omega),show(K.length:Int) - 1=((K.length - 1:Nat):Int) by omega]
 rw[show(0:Int)=((0:Nat):Int) from rfl,this,bEa,List.dropLast_eq_take]
theorem Vk(fd:jl ns)(hl:ns.length≤100000)(hk:iO FQ ns cE)(Ah:cE.length≤5000):∀ m i f (t:y4),m+i=cE.length→P1 ns t D→t.2.2.length=f+cnt ns (cE.drop i)→(∀ n x,f≤n→t.2.2[n]? = some x→x.2.1=0∧x.2.2.1=[]∧x.2.2.2.1=[])→
  (∃(c p:Int),c≠0∧ct fun q k=>cU q k ns cE 0 0 t.1 t.2.1 t.2.2 (f:Int) (i:Int)=some (.inr (c,p,()))∧dm q k ns cE (cE.length:Int) t.2.2 0 0 D (f:Int) (i:Int)=some (.inr (c,p,())))∨
  ∃(F':FS),P1 ns (t.1,t.2.1,F') D∧ct fun q k=>cU q k ns cE 0 0 t.1 t.2.1 t.2.2 (f:Int) (i:Int)=some (.inl (0,0,t.1,t.2.1,F',()))∧
   dm q k ns cE (cE.length:Int) t.2.2 0 0 D (f:Int) (i:Int)=some (.inl (F',0,0,())):=by
 intro m;induction m with
 |zero=>
  intro i f t h hp hc hf;have h2:¬ i<cE.length:=by omega
  refine .inr ⟨t.2.2,hp,ct.succ (ct.of fun q k=>⟨?_,?_⟩)⟩
  ·simp only[go_sem,cU,Q3,h2]
  ·simp only[go_sem,dm,Q3,h2]
 |succ m ih=>
  intro i f t h hp hc hf;have bq:i<cE.length:=by omega
  obtain⟨x,e1,e2,e3,e4,e5,e6,e7⟩:=Wy fd hk bq;have hdr:cnt ns (cE.drop i)=(if x.1=4 then 1 else 0)+cnt ns (cE.drop (i+1)):=by rw[aSa bq];simp only[cnt,cna,e6];by_cases h4:x.1=4<;>simp[h4]<;>omega
  by_cases h4:x.1=4
  rotate_left
  ·have b1:(x.1==4)=false:=Q6.2 h4
   have b2:(x.1 != 4)=true:=aYa.2 h4;rw[aza h4] at hdr;rcases ih (i+1) f t (by omega) hp (by omega) hf with ⟨c,p,g,he⟩|⟨F',g,he⟩
   ·refine .inl ⟨c,p,g,ct.succ (he.mono fun q k e=>⟨?_,?_⟩)⟩
    ·simp only[go_sem,cU,aa,Q3,bq,e1,e2,b1,ae (show i<_ by omega),e.1]
    ·simp only[go_sem,dm,aa,Q3,bq,e1,e2,b2,ae (show i<_ by omega),e.2]
   ·refine .inr ⟨F',g,ct.succ (he.mono fun q k e=>⟨?_,?_⟩)⟩
    ·simp only[go_sem,cU,aa,Q3,bq,e1,e2,b1,ae (show i<_ by omega),e.1]
    ·simp only[go_sem,dm,aa,Q3,bq,e1,e2,b2,ae (show i<_ by omega),e.2]
  ·rw[a4a h4] at hdr
   have b1:(x.1==4)=true:=bfa.2 h4;have b2:(x.1 != 4)=false:=by rw[h4];rfl
   obtain⟨b,hb,_,_,_,hlc⟩:=aaG e4 h4;have gT:x.2.2.2.2≠[]:=by intro e;rw[e] at hb;cases hb
   have afb:=e4.nm.2;have agz:f<t.2.2.length:=by omega
   obtain⟨nm,ps,is,rs,body,NE⟩:∃ nm ps is rs body,t.2.2[f]? = some (nm,ps,is,rs,body):=⟨_,_,_,_,_,by rw[bga agz]⟩
   obtain⟨z1,z2,z3⟩:=hf f _ (ava _) NE;simp only at z1 z2 z3;subst z1;subst z2;subst z3;have afa:bA t.2.2 (f:Int)=some (nm,0,[],[],body):=bj NE;have Zo:=(aja.1 e3).1;have how:=aah fd (K:=x.2.2.2.2) (f:=f) (fun j hj=>⟨(hlc j hj).1,by have:=(hlc j hj).2.1;omega,(hlc j hj).2.2⟩) afb (nm:=nm) (body:=body) x.2.2.2.2.dropLast.length 0 t 0 [] [] [] (by omega) hp NE (fun s=>by simp[qg])
   have p9:=aaO gT afb;have ft:((f:Int)).toNat=f:=aya f;have hf6:=hp.ia.f;rcases how with ⟨c,p,hc0,he⟩|⟨HY,FP,FV,HX,he⟩
   ·have he:Ev fun k=>(∃ A G F,dD k k x.2.2.2.2 ns (f:Int) t.1 t.2.1 t.2.2 0 0 0=some (.inr (c,p,A,G,F,())))∧
      ∃ HY FP FV,bS k k D ns x.2.2.2.2.dropLast (x.2.2.2.2.dropLast.length:Int) 0 0 0 [] [] [] 0=some (.inr (c,p,HY,FP,FV,())):=he.jN
    refine .inl ⟨c,p,hc0,ct.succ (he.tZ.mono fun q k e=>?_)⟩;obtain⟨⟨A',G',F',e8⟩,HY,FP,FV,e9⟩:=e;refine⟨?_,?_⟩
    ·simp only[go_sem,cU,pi,Cu,aa,Q3,bq,e1,e2,b1,e8,aYa.2 hc0]
    ·simp only[go_sem,dm,pS,rY,aa,Q3,bq,e1,e2,b2,afa,ft,p9,e9,aYa.2 hc0]
   ·have he:Ev fun k=>dD k k x.2.2.2.2 ns (f:Int) t.1 t.2.1 t.2.2 0 0 0=some (.inl (t.1,t.2.1,t.2.2.set f (nm,HY,FP,FV,body),0,0,()))∧
      bS k k D ns x.2.2.2.2.dropLast (x.2.2.2.2.dropLast.length:Int) 0 0 0 [] [] [] 0=some (.inl (0,0,HY,FP,FV,())):=he.jN
    have s1:∀{q k r},dD q q x.2.2.2.2 ns (f:Int) t.1 t.2.1 t.2.2 0 0 0=some (.inl (t.1,t.2.1,t.2.2.set f (nm,HY,FP,FV,body),0,0,()))→cU q k ns cE 0 0 t.1 t.2.1 (t.2.2.set f (nm,HY,FP,FV,body)) ((f+1:Nat):Int) ((i+1:Nat):Int)=r→
      cU q (k+1) ns cE 0 0 t.1 t.2.1 t.2.2 (f:Int) (i:Int)=r:=fun a1 a2=>by
     simp only[go_sem,cU,pi,Cu,aa,Q3,bq,e1,e2,b1,a1,ae (show i<_ by omega),ae (show f<_ by omega),a2]
    have s2:∀{q k r},bS q q D ns x.2.2.2.2.dropLast (x.2.2.2.2.dropLast.length:Int) 0 0 0 [] [] [] 0=some (.inl (0,0,HY,FP,FV,()))→dm q k ns cE (cE.length:Int) (t.2.2.set f (nm,HY,FP,FV,body)) 0 0 D ((f+1:Nat):Int) ((i+1:Nat):Int)=r→
      dm q (k+1) ns cE (cE.length:Int) t.2.2 0 0 D (f:Int) (i:Int)=r:=fun a1 a2=>by
     simp only[go_sem,dm,pS,rY,aa,Q3,bq,e1,e2,b2,afa,ft,p9,a1,ae (show i<_ by omega),ae (show f<_ by omega),a2]
    rcases ih (i+1) (f+1) (t.1,t.2.1,t.2.2.set f (nm,HY,FP,FV,body)) (by omega) HX (by simp;omega) (fun n y hn hy=>hf n y (by omega) (by
      have:(t.2.2.set f (nm,HY,FP,FV,body))[n]? = some y:=hy;rwa[List.getElem?_set_ne (by omega)] at this)) with ⟨c,p,g,hh⟩|⟨F',g,hh⟩
    ·exact .inl ⟨c,p,g,ct.succ ((he.tZ.and hh).mono fun q k e=>⟨s1 e.1.1 e.2.1,s2 e.1.2 e.2.2⟩)⟩
    ·exact .inr ⟨F',g,ct.succ ((he.tZ.and hh).mono fun q k e=>⟨s1 e.1.1 e.2.1,s2 e.1.2 e.2.2⟩)⟩
end
end Go.Fx.R5
namespace Go.Fx.R5
open Go Go.Fx
def W(t:y4)(fn s:ak)(a b:Int):Int:=if(nk t fn s).1=0 then 10 else if(nk t fn s).1=a∨(nk t fn s).1=b then 0 else 11
def Lo(l:XS)(D:AS):Prop:=∀ s,0<qg D s↔s∈l
def Il(t:y4)(fn:ak)(l:XS)(s:ak)(a b:Int):Int:=if W t fn s a b≠0 then W t fn s a b else if s∈l then 11 else 0
def Me(c a:Int):Int:=if c=0 then 0 else a
section
variable {t:y4} {fn s:ak} {ns:List ey} {l:XS} {D:AS}
theorem EG(ht:iq t)(s:ak)(lB a b:Int):Ev fun k=>gM k t.1 t.2.1 t.2.2 fn 0 0 s lB a b=some (W t fn s a b,Me (W t fn s a b) lB,()):=
 (VH ht fn s).mono fun k e=>by
  simp only[go_sem,gM,show cO k (t.1,t.2.1,t.2.2) fn s=_ from e,ck,aa,W,Me]
  by_cases h0:(nk t fn s).1=0
  ·simp[h0]
  ·by_cases ha:(nk t fn s).1=a
   ·have h0':¬ a=0:=fun h=>h0 (ha.trans h)
    simp[ha,h0',Q6.2 h0']
   ·by_cases hb:(nk t fn s).1=b
    ·have h0':¬ b=0:=fun h=>h0 (hb.trans h)
     have ha':(b != a)=true:=aYa.2 fun h=>ha (hb.trans h);simp[hb,h0',Q6.2 h0',ha']
    ·simp[h0,ha,hb,Q6.2 h0,bne,Q6.2 ha,Q6.2 hb]
theorem W9{c p:Int}(hc:c≠0)(ht:iq t)(s:ak)(lB a b:Int):Ev fun k=>gM k t.1 t.2.1 t.2.2 fn c p s lB a b=some (c,p,()):=
 (VH ht fn s).mono fun k e=>by
  simp only[go_sem,gM,show cO k (t.1,t.2.1,t.2.2) fn s=_ from e,ck,Q6.2 hc,aa]
  cases ((nk t fn s).1==0)<;>cases ((nk t fn s).1 != a)<;>cases ((nk t fn s).1 != b)<;>rfl
theorem px(l:XS)(s:ak):decide (0≤nC (fun x=>x==s) l 0)=decide (s∈l):=b_a.2 (by rw[Ci];simp)
theorem acX(ht:iq t)(hl:l.length≤1000000)(s:ak)(lB:Int):Ev fun k=>tV k t.1 t.2.1 t.2.2 fn l 0 0 s lB = some (l,Il t fn l s 3 2,Me (Il t fn l s 3 2) lB,()):=
 ((EG (fn:=fn) ht s lB 3 2).and (Jq l s hl)).mono fun k e=>by
  simp only[go_sem,tV,e.1,e.2,ge0,px,ck,Il,Me];by_cases hw:W t fn s 3 2=0
  ·by_cases hm:s∈l<;>simp[hw,hm]
  ·by_cases hm:s∈l<;>simp[hw,hm,Q6.2 hw]
theorem Vm(q:Nat)(n a:Int)(k:Nat):ee q (k+2) n [a] 1 0=some (bif a==n then .inr (0,()) else .inl ()):=by
 rw[ee];simp only[go_sem,show decide ((0:Int)<1)=true from rfl,show bA [a] 0=some a from rfl,show cm (0+1)=1 from rfl]
 rw[ee];simp only[go_sem,show decide ((1:Int)<1)=false from rfl]
 cases (a==n)<;>rfl
theorem Vn(q:Nat)(n a b:Int)(k:Nat):ee q (k+3) n [a,b] 2 0=some (bif a==n then .inr (0,()) else bif b==n then .inr (0,()) else .inl ()):=by
 rw[ee];simp only[go_sem,show decide ((0:Int)<2)=true from rfl,show bA [a,b] 0=some a from rfl,show cm (0+1)=1 from rfl]
 rw[ee];simp only[go_sem,show decide ((1:Int)<2)=true from rfl,show bA [a,b] 1=some b from rfl,show cm (1+1)=2 from rfl]
 rw[ee];simp only[go_sem,show decide ((2:Int)<2)=false from rfl]
 cases (a==n)<;>cases (b==n)<;>rfl
theorem E5(ht:iq t)(s:ak)(a:Int):Ev fun k=>dI k t.1 t.2.1 t.2.2 fn s [a]=some (W t fn s a a,()):=
 ((ZD ht fn s).and ⟨2,fun k hk=>hk⟩).mono fun k e=>by
  obtain⟨j,rfl⟩:∃ j,k=j+2:=⟨k - 2,by omega⟩
  simp only[go_sem,dI,gy,show fC (j+2) (t.1,t.2.1,t.2.2) fn s=_ from e.1,show((([a]:XI).length:Int))=1 from rfl,Vm,W,bia]
  by_cases h0:(nk t fn s).1=0
  ·simp[h0]
  ·by_cases ha:(nk t fn s).1=a
   ·have:¬ a=0:=fun h=>h0 (ha.trans h)
    simp[ha,this,Q6.2 this]
   ·have:(a==(nk t fn s).1)=false:=Q6.2 (bxa ha)
    simp[h0,ha,this,Q6.2 h0]
theorem abv(ht:iq t)(s:ak)(a b:Int):Ev fun k=>dI k t.1 t.2.1 t.2.2 fn s [a,b]=some (W t fn s a b,()):=
 ((ZD ht fn s).and ⟨3,fun k hk=>hk⟩).mono fun k e=>by
  obtain⟨j,rfl⟩:∃ j,k=j+3:=⟨k - 3,by omega⟩
  simp only[go_sem,dI,gy,show fC (j+3) (t.1,t.2.1,t.2.2) fn s=_ from e.1,show((([a,b]:XI).length:Int))=2 from rfl,Vn,W]
  by_cases h0:(nk t fn s).1=0
  ·simp[h0]
  ·by_cases ha:(nk t fn s).1=a
   ·have:¬ a=0:=fun h=>h0 (ha.trans h)
    simp[ha,this,Q6.2 this]
   ·have h1:(a==(nk t fn s).1)=false:=Q6.2 (bxa ha)
    by_cases hb:(nk t fn s).1=b
    ·have h0':¬ b=0:=fun h=>h0 (hb.trans h)
     have h1':(a==b)=false:=Q6.2 fun h=>ha (hb.trans h.symm);simp[hb,h0',Q6.2 h0',h1']
    ·have h2:(b==(nk t fn s).1)=false:=Q6.2 (bxa hb)
     simp[h0,ha,hb,h1,h2,Q6.2 h0]
theorem Wm{k:Nat}{c:Int}{ks:XI}{a b:Int}(hr:Lo l D)(e:dI k t.1 t.2.1 t.2.2 fn s ks=some (W t fn s a b,())):mL k t.1 t.2.1 t.2.2 fn D s ks=some (Il t fn l s a b,()):=by
 simp only[go_sem,mL,e,Il];by_cases hw:W t fn s a b=0
 ·have:=hr s
  by_cases hm:s∈l
  ·have h:qg D s > 0:=this.2 hm
   simp[hw,hm,h]
  ·have h:¬ qg D s > 0:=fun h=>hm (this.1 h)
   simp[hw,hm,h]
 ·simp[hw,aYa.2 hw]
def oE(t:y4)(fn:ak)(l:XS)(x:ey):Int:=
 if x.1=25 then W t fn x.2.2.2.1 3 2 else if x.1=26∨x.1=10 then W t fn x.2.2.2.1 1 1 else
 if x.1=27∨x.1=11∨x.1=13∨x.1=34∨x.1=12 then W t fn x.2.2.2.1 4 4 else
 if x.1=17∨x.1=22 then Il t fn l x.2.2.2.1 3 2 else if x.1=16 then Il t fn l x.2.2.2.1 3 3 else 0
theorem W7(ht:iq t)(hl:l.length≤1000000){i:Nat}{x:ey}(hx:ns[i]? = some x):Ev fun k=>gz k t.1 t.2.1 t.2.2 ns fn l 0 0 (i:Int)=some (l,oE t fn l x,Me (oE t fn l x) x.2.1,()):=by
 obtain⟨kk,lB,nu,nm,ks⟩:=x;refine((((EG (fn:=fn) ht nm lB 3 2).and (EG (fn:=fn) ht nm lB 1 1)).and ((EG (fn:=fn) ht nm lB 4 4).and (acX (fn:=fn) ht hl nm lB))).and ((EG (fn:=fn) ht nm lB 3 3).and (Jq l nm hl))).mono fun k e=>?_;obtain⟨⟨⟨e1,e2⟩,e3,e4⟩,e5,e6⟩:=e;by_cases h25:kk=25
 ·subst h25
  simp only[go_sem,gz,bj hx,aa,show((25:Int)==25)=true from rfl,show((25:Int)==26)=false from rfl,show((25:Int)==10)=false from rfl,show((25:Int)==27)=false from rfl,show((25:Int)==11)=false from rfl,show((25:Int)==13)=false from rfl,show((25:Int)==34)=false from rfl,show((25:Int)==12)=false from rfl,show((25:Int)==17)=false from rfl,show((25:Int)==22)=false from rfl,show((25:Int)==16)=false from rfl,e1,e2,e3,e4,e5,e6,ge0,px,ck,oE,Int.reduceEq,reduceIte,bia]
 by_cases h26:kk=26
 ·subst h26
  simp only[go_sem,gz,bj hx,aa,show((26:Int)==25)=false from rfl,show((26:Int)==26)=true from rfl,show((26:Int)==10)=false from rfl,show((26:Int)==27)=false from rfl,show((26:Int)==11)=false from rfl,show((26:Int)==13)=false from rfl,show((26:Int)==34)=false from rfl,show((26:Int)==12)=false from rfl,show((26:Int)==17)=false from rfl,show((26:Int)==22)=false from rfl,show((26:Int)==16)=false from rfl,e1,e2,e3,e4,e5,e6,ge0,px,ck,oE,Int.reduceEq,reduceIte,bya,bia]
 by_cases h10:kk=10
 ·subst h10
  simp only[go_sem,gz,bj hx,aa,show((10:Int)==25)=false from rfl,show((10:Int)==26)=false from rfl,show((10:Int)==10)=true from rfl,show((10:Int)==27)=false from rfl,show((10:Int)==11)=false from rfl,show((10:Int)==13)=false from rfl,show((10:Int)==34)=false from rfl,show((10:Int)==12)=false from rfl,show((10:Int)==17)=false from rfl,show((10:Int)==22)=false from rfl,show((10:Int)==16)=false from rfl,e1,e2,e3,e4,e5,e6,ge0,px,ck,oE,Int.reduceEq,reduceIte,bZa,bia]
 by_cases h27:kk=27
 ·subst h27
  simp only[go_sem,gz,bj hx,aa,show((27:Int)==25)=false from rfl,show((27:Int)==26)=false from rfl,show((27:Int)==10)=false from rfl,show((27:Int)==27)=true from rfl,show((27:Int)==11)=false from rfl,show((27:Int)==13)=false from rfl,show((27:Int)==34)=false from rfl,show((27:Int)==12)=false from rfl,show((27:Int)==17)=false from rfl,show((27:Int)==22)=false from rfl,show((27:Int)==16)=false from rfl,e1,e2,e3,e4,e5,e6,ge0,px,ck,oE,Int.reduceEq,reduceIte,bya,bia]
 by_cases h11:kk=11
 ·subst h11
  simp only[go_sem,gz,bj hx,aa,show((11:Int)==25)=false from rfl,show((11:Int)==26)=false from rfl,show((11:Int)==10)=false from rfl,show((11:Int)==27)=false from rfl,show((11:Int)==11)=true from rfl,show((11:Int)==13)=false from rfl,show((11:Int)==34)=false from rfl,show((11:Int)==12)=false from rfl,show((11:Int)==17)=false from rfl,show((11:Int)==22)=false from rfl,show((11:Int)==16)=false from rfl,e1,e2,e3,e4,e5,e6,ge0,px,ck,oE,Int.reduceEq,reduceIte,bZa,bya,bia]
 by_cases h13:kk=13
 ·subst h13
  simp only[go_sem,gz,bj hx,aa,show((13:Int)==25)=false from rfl,show((13:Int)==26)=false from rfl,show((13:Int)==10)=false from rfl,show((13:Int)==27)=false from rfl,show((13:Int)==11)=false from rfl,show((13:Int)==13)=true from rfl,show((13:Int)==34)=false from rfl,show((13:Int)==12)=false from rfl,show((13:Int)==17)=false from rfl,show((13:Int)==22)=false from rfl,show((13:Int)==16)=false from rfl,e1,e2,e3,e4,e5,e6,ge0,px,ck,oE,Int.reduceEq,reduceIte,bZa,bya,bia]
 by_cases h34:kk=34
 ·subst h34
  simp only[go_sem,gz,bj hx,aa,show((34:Int)==25)=false from rfl,show((34:Int)==26)=false from rfl,show((34:Int)==10)=false from rfl,show((34:Int)==27)=false from rfl,show((34:Int)==11)=false from rfl,show((34:Int)==13)=false from rfl,show((34:Int)==34)=true from rfl,show((34:Int)==12)=false from rfl,show((34:Int)==17)=false from rfl,show((34:Int)==22)=false from rfl,show((34:Int)==16)=false from rfl,e1,e2,e3,e4,e5,e6,ge0,px,ck,oE,Int.reduceEq,reduceIte,bZa,bya,bia]
 by_cases KY:kk=12
 ·subst KY
  simp only[go_sem,gz,bj hx,aa,show((12:Int)==25)=false from rfl,show((12:Int)==26)=false from rfl,show((12:Int)==10)=false from rfl,show((12:Int)==27)=false from rfl,show((12:Int)==11)=false from rfl,show((12:Int)==13)=false from rfl,show((12:Int)==34)=false from rfl,show((12:Int)==12)=true from rfl,show((12:Int)==17)=false from rfl,show((12:Int)==22)=false from rfl,show((12:Int)==16)=false from rfl,e1,e2,e3,e4,e5,e6,ge0,px,ck,oE,Int.reduceEq,reduceIte,bZa,bia]
 by_cases h17:kk=17
 ·subst h17
  simp only[go_sem,gz,bj hx,aa,show((17:Int)==25)=false from rfl,show((17:Int)==26)=false from rfl,show((17:Int)==10)=false from rfl,show((17:Int)==27)=false from rfl,show((17:Int)==11)=false from rfl,show((17:Int)==13)=false from rfl,show((17:Int)==34)=false from rfl,show((17:Int)==12)=false from rfl,show((17:Int)==17)=true from rfl,show((17:Int)==22)=false from rfl,show((17:Int)==16)=false from rfl,e1,e2,e3,e4,e5,e6,ge0,px,ck,oE,Int.reduceEq,reduceIte,bya,bia]
 by_cases D0:kk=22
 ·subst D0
  simp only[go_sem,gz,bj hx,aa,show((22:Int)==25)=false from rfl,show((22:Int)==26)=false from rfl,show((22:Int)==10)=false from rfl,show((22:Int)==27)=false from rfl,show((22:Int)==11)=false from rfl,show((22:Int)==13)=false from rfl,show((22:Int)==34)=false from rfl,show((22:Int)==12)=false from rfl,show((22:Int)==17)=false from rfl,show((22:Int)==22)=true from rfl,show((22:Int)==16)=false from rfl,e1,e2,e3,e4,e5,e6,ge0,px,ck,oE,Int.reduceEq,reduceIte,bZa,bia]
 by_cases F9:kk=16
 ·subst F9
  simp only[go_sem,gz,bj hx,aa,show((16:Int)==25)=false from rfl,show((16:Int)==26)=false from rfl,show((16:Int)==10)=false from rfl,show((16:Int)==27)=false from rfl,show((16:Int)==11)=false from rfl,show((16:Int)==13)=false from rfl,show((16:Int)==34)=false from rfl,show((16:Int)==12)=false from rfl,show((16:Int)==17)=false from rfl,show((16:Int)==22)=false from rfl,show((16:Int)==16)=true from rfl,e1,e2,e3,e4,e5,e6,ge0,px,ck,oE,Int.reduceEq,reduceIte,bia]
  simp only[Il,Me];by_cases hw:W t fn nm 3 3=0
  ·by_cases hm:nm∈l<;>simp[hw,hm]
  ·by_cases hm:nm∈l<;>simp[hw,hm,Q6.2 hw]
 simp only[go_sem,gz,bj hx,aa,Q6.2 h25,h25,Q6.2 h26,h26,Q6.2 h10,h10,Q6.2 h27,h27,Q6.2 h11,h11,Q6.2 h13,h13,Q6.2 h34,h34,Q6.2 KY,KY,Q6.2 h17,h17,Q6.2 D0,D0,Q6.2 F9,F9,oE,bia,reduceIte];rfl
theorem Hs(ht:iq t)(l:XS)(x:ey):Ev fun k=>∀ D,Lo l D→cK k t.1 t.2.1 t.2.2 fn D x=some (if x.1=9 then Il t fn l x.2.2.2.1 3 2 else oE t fn l x,()):=by
 obtain⟨kk,lB,nu,nm,ks⟩:=x;refine(((abv (fn:=fn) ht nm 3 2).and (E5 (fn:=fn) ht nm 1)).and ((E5 (fn:=fn) ht nm 4).and (E5 (fn:=fn) ht nm 3))).mono fun k e=>?_;obtain⟨⟨e1,e2⟩,e3,e4⟩:=e;intro D hr;have e5:=Wm (c:=0) hr e1;have e6:=Wm (c:=0) hr e4;by_cases h25:kk=25
 ·subst h25
  simp only[go_sem,cK,aa,show((25:Int)==25)=true from rfl,show((25:Int)==26)=false from rfl,show((25:Int)==10)=false from rfl,show((25:Int)==27)=false from rfl,show((25:Int)==11)=false from rfl,show((25:Int)==13)=false from rfl,show((25:Int)==34)=false from rfl,show((25:Int)==12)=false from rfl,show((25:Int)==17)=false from rfl,show((25:Int)==22)=false from rfl,show((25:Int)==9)=false from rfl,show((25:Int)==16)=false from rfl,e1,e2,e3,e5,e6,oE,Int.reduceEq,reduceIte,bia]
 by_cases h26:kk=26
 ·subst h26
  simp only[go_sem,cK,aa,show((26:Int)==25)=false from rfl,show((26:Int)==26)=true from rfl,show((26:Int)==10)=false from rfl,show((26:Int)==27)=false from rfl,show((26:Int)==11)=false from rfl,show((26:Int)==13)=false from rfl,show((26:Int)==34)=false from rfl,show((26:Int)==12)=false from rfl,show((26:Int)==17)=false from rfl,show((26:Int)==22)=false from rfl,show((26:Int)==9)=false from rfl,show((26:Int)==16)=false from rfl,e1,e2,e3,e5,e6,oE,Int.reduceEq,reduceIte,bya,bia]
 by_cases h10:kk=10
 ·subst h10
  simp only[go_sem,cK,aa,show((10:Int)==25)=false from rfl,show((10:Int)==26)=false from rfl,show((10:Int)==10)=true from rfl,show((10:Int)==27)=false from rfl,show((10:Int)==11)=false from rfl,show((10:Int)==13)=false from rfl,show((10:Int)==34)=false from rfl,show((10:Int)==12)=false from rfl,show((10:Int)==17)=false from rfl,show((10:Int)==22)=false from rfl,show((10:Int)==9)=false from rfl,show((10:Int)==16)=false from rfl,e1,e2,e3,e5,e6,oE,Int.reduceEq,reduceIte,bZa,bia]
 by_cases h27:kk=27
 ·subst h27
  simp only[go_sem,cK,aa,show((27:Int)==25)=false from rfl,show((27:Int)==26)=false from rfl,show((27:Int)==10)=false from rfl,show((27:Int)==27)=true from rfl,show((27:Int)==11)=false from rfl,show((27:Int)==13)=false from rfl,show((27:Int)==34)=false from rfl,show((27:Int)==12)=false from rfl,show((27:Int)==17)=false from rfl,show((27:Int)==22)=false from rfl,show((27:Int)==9)=false from rfl,show((27:Int)==16)=false from rfl,e1,e2,e3,e5,e6,oE,Int.reduceEq,reduceIte,bya,bia]
 by_cases h11:kk=11
 ·subst h11
  simp only[go_sem,cK,aa,show((11:Int)==25)=false from rfl,show((11:Int)==26)=false from rfl,show((11:Int)==10)=false from rfl,show((11:Int)==27)=false from rfl,show((11:Int)==11)=true from rfl,show((11:Int)==13)=false from rfl,show((11:Int)==34)=false from rfl,show((11:Int)==12)=false from rfl,show((11:Int)==17)=false from rfl,show((11:Int)==22)=false from rfl,show((11:Int)==9)=false from rfl,show((11:Int)==16)=false from rfl,e1,e2,e3,e5,e6,oE,Int.reduceEq,reduceIte,bZa,bya,bia]
 by_cases h13:kk=13
 ·subst h13
  simp only[go_sem,cK,aa,show((13:Int)==25)=false from rfl,show((13:Int)==26)=false from rfl,show((13:Int)==10)=false from rfl,show((13:Int)==27)=false from rfl,show((13:Int)==11)=false from rfl,show((13:Int)==13)=true from rfl,show((13:Int)==34)=false from rfl,show((13:Int)==12)=false from rfl,show((13:Int)==17)=false from rfl,show((13:Int)==22)=false from rfl,show((13:Int)==9)=false from rfl,show((13:Int)==16)=false from rfl,e1,e2,e3,e5,e6,oE,Int.reduceEq,reduceIte,bZa,bya,bia]
 by_cases h34:kk=34
 ·subst h34
  simp only[go_sem,cK,aa,show((34:Int)==25)=false from rfl,show((34:Int)==26)=false from rfl,show((34:Int)==10)=false from rfl,show((34:Int)==27)=false from rfl,show((34:Int)==11)=false from rfl,show((34:Int)==13)=false from rfl,show((34:Int)==34)=true from rfl,show((34:Int)==12)=false from rfl,show((34:Int)==17)=false from rfl,show((34:Int)==22)=false from rfl,show((34:Int)==9)=false from rfl,show((34:Int)==16)=false from rfl,e1,e2,e3,e5,e6,oE,Int.reduceEq,reduceIte,bZa,bya,bia]
 by_cases KY:kk=12
 ·subst KY
  simp only[go_sem,cK,aa,show((12:Int)==25)=false from rfl,show((12:Int)==26)=false from rfl,show((12:Int)==10)=false from rfl,show((12:Int)==27)=false from rfl,show((12:Int)==11)=false from rfl,show((12:Int)==13)=false from rfl,show((12:Int)==34)=false from rfl,show((12:Int)==12)=true from rfl,show((12:Int)==17)=false from rfl,show((12:Int)==22)=false from rfl,show((12:Int)==9)=false from rfl,show((12:Int)==16)=false from rfl,e1,e2,e3,e5,e6,oE,Int.reduceEq,reduceIte,bZa,bia]
 by_cases h17:kk=17
 ·subst h17
  simp only[go_sem,cK,aa,show((17:Int)==25)=false from rfl,show((17:Int)==26)=false from rfl,show((17:Int)==10)=false from rfl,show((17:Int)==27)=false from rfl,show((17:Int)==11)=false from rfl,show((17:Int)==13)=false from rfl,show((17:Int)==34)=false from rfl,show((17:Int)==12)=false from rfl,show((17:Int)==17)=true from rfl,show((17:Int)==22)=false from rfl,show((17:Int)==9)=false from rfl,show((17:Int)==16)=false from rfl,e1,e2,e3,e5,e6,oE,Int.reduceEq,reduceIte,bya,bia]
 by_cases D0:kk=22
 ·subst D0
  simp only[go_sem,cK,aa,show((22:Int)==25)=false from rfl,show((22:Int)==26)=false from rfl,show((22:Int)==10)=false from rfl,show((22:Int)==27)=false from rfl,show((22:Int)==11)=false from rfl,show((22:Int)==13)=false from rfl,show((22:Int)==34)=false from rfl,show((22:Int)==12)=false from rfl,show((22:Int)==17)=false from rfl,show((22:Int)==22)=true from rfl,show((22:Int)==9)=false from rfl,show((22:Int)==16)=false from rfl,e1,e2,e3,e5,e6,oE,Int.reduceEq,reduceIte,bZa,bia]
 by_cases h9:kk=9
 ·subst h9
  simp only[go_sem,cK,aa,show((9:Int)==25)=false from rfl,show((9:Int)==26)=false from rfl,show((9:Int)==10)=false from rfl,show((9:Int)==27)=false from rfl,show((9:Int)==11)=false from rfl,show((9:Int)==13)=false from rfl,show((9:Int)==34)=false from rfl,show((9:Int)==12)=false from rfl,show((9:Int)==17)=false from rfl,show((9:Int)==22)=false from rfl,show((9:Int)==9)=true from rfl,show((9:Int)==16)=false from rfl,e1,e2,e3,e5,e6,oE,Int.reduceEq,reduceIte,bia]
 by_cases F9:kk=16
 ·subst F9
  simp only[go_sem,cK,aa,show((16:Int)==25)=false from rfl,show((16:Int)==26)=false from rfl,show((16:Int)==10)=false from rfl,show((16:Int)==27)=false from rfl,show((16:Int)==11)=false from rfl,show((16:Int)==13)=false from rfl,show((16:Int)==34)=false from rfl,show((16:Int)==12)=false from rfl,show((16:Int)==17)=false from rfl,show((16:Int)==22)=false from rfl,show((16:Int)==9)=false from rfl,show((16:Int)==16)=true from rfl,e1,e2,e3,e5,e6,oE,Int.reduceEq,reduceIte,bia]
 simp only[go_sem,cK,aa,Q6.2 h25,h25,Q6.2 h26,h26,Q6.2 h10,h10,Q6.2 h27,h27,Q6.2 h11,h11,Q6.2 h13,h13,Q6.2 h34,h34,Q6.2 KY,KY,Q6.2 h17,h17,Q6.2 D0,D0,Q6.2 h9,h9,Q6.2 F9,F9,oE,bia,reduceIte]
end
end Go.Fx.R5
namespace Go.Fx.R5
open Go Go.Fx
def Em(ns:List ey)(j:Int):ak:=match ns[j.toNat]? with|some y=>y.2.2.2.1|none=>[]
inductive Ie(ns:List ey)(t:y4)(fn:ak):Nat→Prop
 |mk (i:Nat) (x:ey) (hx:ns[i]? = some x) (hk:∀ j∈x.2.2.2.2,Ie ns t fn j.toNat) (hc:x.1=22→∀ u,x.2.2.2.2.head? = some u→(nk t fn (Em ns u)).1=5)
  (ha:x.1=12→∀ u,x.2.2.2.2.head? = some u→(nk t fn (Em ns u)).1=1):Ie ns t fn i
def UV(l:XS)(B:Nat)(c p:Int)(o:Option (XS×Int×Int×Unit)):Prop:=∃ bl,o=some (bl,c,p,())∧bl.length≤l.length+B∧(c=0→bl=l)
def aa2(l:XS)(c p:Int)(o:Option ((Int×Int)×AS×Unit)):Prop:=∃ bm,o=some ((c,p),bm,())∧(c=0→Lo l bm)
def SL(l:XS)(c p:Int)(o:Option ((Int×Int×AS×Unit)⊕(Int×Int×AS×Unit))):Prop:=∃ bm,o=some (if c=0 then .inl (0,0,bm,()) else .inr (c,p,bm,()))∧(c=0→Lo l bm)
theorem nP(k:Nat):dE (k+1)=cJ (dE k) (dz k) (eE k) k:=rfl
theorem Ff(k:Nat):dz (k+1)=hG (dE k) (dz k) (eE k) k:=rfl
theorem Mv(k:Nat):eE (k+1)=lT (dE k) (dz k) (eE k) k:=rfl
theorem Wr(k:Nat):bI (k+1)=kj (bI k) (co k) (bT k) k:=rfl
theorem kh(k:Nat):co (k+1)=aV (bI k) (co k) (bT k) k:=rfl
theorem NL(k:Nat):bT (k+1)=gI (bI k) (co k) (bT k) k:=rfl
theorem AZ{rn ra rc}(q:Nat)(Kd:Int)(hK:(Kd==16)=false)(nm:ak):∀ k K A G F ns fn b c p i,ix rn ra rc q k K A G F ns fn b c p i=bL rn ra rc q k Kd nm K A G F ns fn b c p i
 |0,_,_,_,_,_,_,_,_,_,_=>rfl
 |k+1,K,A,G,F,ns,fn,b,c,p,i=>by simp only[go_sem,ix,bL,aa,hK,AZ q Kd hK nm k]
theorem YR{rn ra rc}(q:Nat):∀ k ns A G F fn P I R B K n w w2 b i,cG rn ra rc q k ns A G F fn P I R B K n w w2 b i=aM rn ra rc q k ns A G F fn P I R B K n w w2 b i
 |0,_,_,_,_,_,_,_,_,_,_,_,_,_,_,_=>rfl
 |k+1,ns,A,G,F,fn,P,I,R,B,K,n,w,w2,b,i=>by simp only[cG,aM,YR q k]
section
variable {t:y4} {fn:ak} {ns:List ey} {P:Int} {Is Rs:XS} {B:Int}
theorem IK{c p:Int}(hc:c≠0){i:Nat}{x:ey}(hx:ns[i]? = some x)(k:Nat)(b:XS):dE (k+1) t.1 t.2.1 t.2.2 ns fn b c p (i:Int)=some (b,c,p,()):=by rw[nP];simp only[go_sem,cJ,bj hx,aYa.2 hc]
theorem KX{c p:Int}(hc:c≠0){Kd:Int}(hK:(Kd==16)=false){nm:ak}{K:XI}(hv:∀ j∈K,0≤j∧j<(ns.length:Int))(hl:K.length≤1000000)(q:Nat):∀(m s k:Nat) (b:XS),m+s=K.length→m<k→
  bL (dE (q+1)) (dz (q+1)) (eE (q+1)) (q+1) k Kd nm K t.1 t.2.1 t.2.2 ns fn b c p (s:Int)=some (b,c,p,())
 |0,s,k+1,b,h,_=>by
  have:¬ s<K.length:=by omega
  simp only[go_sem,bL,Q3,this]
 |m+1,s,k+1,b,h,hk=>by
  have bq:s<K.length:=by omega
  have hj:=hv _ (aWa bq);obtain⟨x,e1,_,_⟩:=uB hj.1 hj.2;have en:=IK (t:=t) (fn:=fn) (p:=p) hc e1 q b;rw[aMa hj.1] at en;simp only[go_sem,bL,aa,Q3,bq,hK,cX bq,en,ae (show s<_ by omega),KX hc hK hv hl q m (s+1) k b (by omega) (by omega)]
def NB(t:y4)(fn:ak)(ns:List ey)(P:Int)(Is Rs:XS)(B:Int)(i:Nat):Prop:=∀ l:XS,l.length+i≤4000→∃ c p,(c=0→p=0∧Ie ns t fn i)∧
 Ev fun k=>UV l (i+1) c p (dE k t.1 t.2.1 t.2.2 ns fn l 0 0 (i:Int))∧∀ D,Lo l D→aa2 l c p (co k ns t.1 t.2.1 t.2.2 fn P Is Rs B D (i:Int))
theorem Bh{Kd:Int}(hK:(Kd==16)=false){nm:ak}{K:XI}(hv:∀ j∈K,0≤j∧j<(ns.length:Int))(hl:K.length≤1000000){l:XS}{i:Nat}(hli:l.length+i≤4000):∀ m s,m+s=K.length→(∀ j∈K.drop s,j<(i:Int)∧NB t fn ns P Is Rs B j.toNat)→
  ∃ c p,(c=0→p=0∧∀ j∈K.drop s,Ie ns t fn j.toNat)∧ct fun q k=>
   UV l i c p (bL (dE q) (dz q) (eE q) q k Kd nm K t.1 t.2.1 t.2.2 ns fn l 0 0 (s:Int))∧
   ∀ D,Lo l D→SL l c p (aM (bI q) (co q) (bT q) q k ns t.1 t.2.1 t.2.2 fn P Is Rs B K (K.length:Int) 0 0 D (s:Int))
 |0,s,h,_=>by
  have h2:¬ s<K.length:=by omega
  have e:K.drop s=[]:=by simp;omega
  refine⟨0,0,fun _=>⟨rfl,by rw[e];simp⟩,ct.succ (ct.of fun q k=>⟨⟨l,?_,by omega,fun _=>rfl⟩,fun D hr=>⟨D,?_,fun _=>hr⟩⟩)⟩
  ·simp only[go_sem,bL,Q3,h2]
  ·simp only[go_sem,aM,Q3,h2,reduceIte]
 |m+1,s,h,hn=>by
  have bq:s<K.length:=by omega
  have hd:K.drop s=K[s]::K.drop (s+1):=aSa bq;have hj:=hv _ (aWa bq);have hnj:=hn K[s] (by rw[hd];exact aqa)
  have hjn:((K[s].toNat:Nat):Int)=K[s]:=aMa hj.1;obtain⟨c,p,hc,he⟩:=hnj.2 l (by omega)
  rw[hjn] at he;by_cases h0:c=0
  ·subst h0
   obtain⟨rfl,Hm⟩:=hc rfl;obtain⟨c2,p2,xp,he2⟩:=Bh hK hv hl hli m (s+1) (by omega) (fun j hj=>hn j (by rw[hd];exact Q8 _ hj))
   refine⟨c2,p2,fun hz=>⟨(xp hz).1,fun j hj=>?_⟩,ct.succ ((he.tZ.and he2).mono fun q k e=>?_)⟩
   ·rw[hd] at hj
    rcases aka.1 hj with rfl|hj
    ·exact Hm
    ·exact(xp hz).2 j hj
   ·obtain⟨⟨⟨bl,e1,_,e2⟩,e3⟩,e4,e5⟩:=e
    obtain rfl:=e2 rfl;refine⟨?_,fun D hr=>?_⟩
    ·simp only[go_sem,bL,aa,Q3,bq,hK,cX bq,e1,ae (show s<_ by omega)]
     exact e4
    ·obtain⟨bm,e6,e7⟩:=e3 D hr
     simp only[go_sem,aM,Q3,bq,cX bq,e6,ae (show s<_ by omega)]
     exact e5 bm (e7 rfl)
  ·refine⟨c,p,fun hz=>absurd hz h0,ct.succ ((he.tZ.and (Ev.tZ (p:=fun q=>1≤q) ⟨1,fun k hk=>hk⟩ |>.and (Ev.ahb (p:=fun k=>m<k) ⟨m+1,fun k hk=>by omega⟩))).mono fun q k e=>?_)⟩
   obtain⟨⟨⟨bl,e1,eb,_⟩,e3⟩,hq,hk⟩:=e;obtain⟨q,rfl⟩:∃ j,q=j+1:=⟨q - 1,by omega⟩
   refine⟨⟨bl,?_,by have:=hnj.1;omega,fun hz=>absurd hz h0⟩,fun D hr=>?_⟩
   ·simp only[go_sem,bL,aa,Q3,bq,hK,cX bq,e1,ae (show s<_ by omega)]
    exact KX h0 hK hv hl q m (s+1) k bl (by omega) hk
   ·obtain⟨bm,e6,e7⟩:=e3 D hr
    refine⟨bm,?_,fun hz=>absurd hz h0⟩;simp only[go_sem,aM,Q3,bq,cX bq,e6,aYa.2 h0,aza h0]
theorem QZ(ht:iq t){i:Nat}{x:ey}(hx:ns[i]? = some x)(h23:x.1=23)(hk:x.2.2.2.2=[])(l:XS):Ev fun k=>∀ D,Lo l D→co k ns t.1 t.2.1 t.2.2 fn P Is Rs B D (i:Int)=some ((0,0),D,()):=by
 have hb:Ev fun k=>∀ D:AS,bI k ns t.1 t.2.1 t.2.2 fn P Is Rs B D (i:Int)=some ((0,0),D,()):=Ev.succ (Ev.succ (Ev.of fun k D=>by
  rw[Wr (k+1)];simp only[go_sem,kj,bj hx,hk];simp only[go_sem,aM,aBa,show decide ((0:Int)<((0:Nat):Int))=false from rfl]))
 refine Ev.succ ((hb.and (Hs (fn:=fn) ht l x)).mono fun k e D hr=>?_);have kX:=e.2 D hr;simp only[h23,show ¬ (23:Int)=9 by decide,aca,oE,Int.reduceEq,bia] at kX
 rw[kh];simp only[go_sem,aV,bj hx,aa,h23,show((23:Int)==9)=false from rfl,show((23:Int)==12)=false from rfl,show((23:Int)==22)=false from rfl,show((23:Int)==16)=false from rfl,kX,e.1]
theorem nk5{s:ak}(h:(nk t fn s).1=5):∃(n:Nat) (f:ak×Int×XS×XS×Int),(nk t fn s).2=(n:Int)∧t.2.2[n]? = some f∧f.1=s:=by
 have key:(Pr t s).1=5→∃(n:Nat) (f:ak×Int×XS×XS×Int),(Pr t s).2=(n:Int)∧t.2.2[n]? = some f∧f.1=s:=fun h=>by
  unfold Pr at h ⊢;by_cases g1:0≤nC (fun x:ak×Int=>x.1==s) t.1 0
  ·simp[g1] at h
  ·by_cases g2:0≤nC (fun x=>x==s) t.2.1 0
   ·simp[g1,g2] at h
   ·by_cases g3:0≤nC (fun x:ak×Int×XS×XS×Int=>x.1==s) t.2.2 0
    ·obtain⟨n,f,e1,e2,e3⟩:=Jl g3
     exact⟨n,f,by simp[g1,g2,e1],e2,bfa.1 e3⟩
    ·simp[g1,g2,g3] at h
 unfold nk at h ⊢;cases hf:t.2.2.find? (fun x=>x.1==fn) with
 |none=>simp only[hf] at h ⊢;exact key h
 |some x=>
  simp only[hf] at h ⊢;by_cases g1:0≤nC (fun y=>y==s) x.2.2.1 0
  ·simp[g1] at h
  ·by_cases g2:0≤nC (fun y=>y==s) x.2.2.2.1 0
   ·simp[g1,g2] at h
   ·simp only[go_sem,g1,g2] at h ⊢;exact key h
theorem YG{s:ak}{a b:Int}(h:W t fn s a b=0):(nk t fn s).1=a∨(nk t fn s).1=b:=by
 unfold W at h;by_cases h0:(nk t fn s).1=0
 ·simp[h0] at h
 ·by_cases h1:(nk t fn s).1=a∨(nk t fn s).1=b
  ·exact h1
  ·simp[h0,h1] at h
end
end Go.Fx.R5
namespace Go.Fx.R5
open Go Go.Fx
section
variable {t:y4} {fn:ak} {ns:List ey} {P:Int} {Is Rs:XS} {B:Int}
structure JN(t:y4)(fn:ak)(ns:List ey)(P:Int)(Is Rs:XS)(B:Int)(i:Nat)(K:XI):Prop where
 v:∀ j∈K,0≤j∧j<(ns.length:Int)
 l:K.length≤5000
 n:∀ j∈K,j<(i:Int)∧NB t fn ns P Is Rs B j.toNat
theorem Iu{i:Nat}{x:ey}(hx:ns[i]? = some x){l:XS}{c p:Int}(hp:c=0→p=0)
  (he:Ev fun k=>∀ D,Lo l D→SL l c p (aM (bI k) (co k) (bT k) k k ns t.1 t.2.1 t.2.2 fn P Is Rs B x.2.2.2.2 (x.2.2.2.2.length:Int) 0 0 D 0)):
  Ev fun k=>∀ D,Lo l D→aa2 l c p (bI k ns t.1 t.2.1 t.2.2 fn P Is Rs B D (i:Int)):=
 Ev.succ (he.mono fun k e D hr=>by
  obtain⟨bm,e1,e2⟩:=e D hr;refine⟨bm,?_,e2⟩;rw[Wr];simp only[go_sem,kj,bj hx,e1];by_cases h0:c=0
  ·simp only[a4a h0];rw[h0,hp h0]
  ·simp only[aza h0])
theorem Hd{c a:Int}(h:c≠0):Me c a=a:=aza h
theorem Z2(ht:iq t){i:Nat}{x:ey}(hx:ns[i]? = some x)(h9:x.1≠9)(D0:x.1≠22)(KY:x.1≠12)(F9:x.1≠16)(IH:JN t fn ns P Is Rs B i x.2.2.2.2):NB t fn ns P Is Rs B i:=by
 intro l hli;have jr:=W7 (fn:=fn) ht (l:=l) (by omega) hx
 have kX:=Hs (fn:=fn) ht l x;simp only[aza h9] at kX;have g9:=Q6.2 h9;have g22:=Q6.2 D0;have g12:=Q6.2 KY;have g16:=Q6.2 F9;by_cases h0:oE t fn l x=0
 ·obtain⟨c,p,hc,he⟩:=Bh (nm:=x.2.2.2.1) g16 IH.v (by have:=IH.l;omega) hli x.2.2.2.2.length 0 rfl (fun j hj=>IH.n j (by simpa using hj))
  refine⟨c,p,fun hz=>⟨(hc hz).1,Ie.mk i x hx (by simpa using (hc hz).2) (fun h=>absurd h D0) (fun h=>absurd h KY)⟩,?_⟩
  have heS:=(he.mono fun _ _ e=>e.1).jN;have heI:=Iu hx (fun hz=>(hc hz).1) (he.mono fun _ _ e=>e.2).jN;refine Ev.succ ((jr.and (kX.and (heS.and heI))).mono fun k e=>?_);obtain⟨e1,e2,⟨bl,e3,e4,e5⟩,e6⟩:=e;refine⟨⟨bl,?_,by omega,e5⟩,fun D hr=>?_⟩
  ·rw[nP]
   rw[h0] at e1;simp only[go_sem,cJ,bj hx,g9,g22,g12,g16,e1,aa,show Me 0 x.2.1=0 from rfl,show bL _ _ _ k k x.1 x.2.2.2.1 x.2.2.2.2 t.1 t.2.1 t.2.2 ns fn l 0 0 0=_ from e3]
  ·obtain⟨bm,e7,e8⟩:=e6 D hr
   refine⟨bm,?_,e8⟩;have e2:=e2 D hr;rw[h0] at e2;rw[kh];simp only[go_sem,aV,bj hx,aa,g9,g22,g12,g16,e2,e7]
 ·refine⟨oE t fn l x,x.2.1,fun hz=>absurd hz h0,Ev.succ ((jr.and (kX.and (⟨5002,fun k hk=>hk⟩:Ev fun k=>5002≤k))).mono fun k e=>?_)⟩
  obtain⟨e1,e2,hk⟩:=e;have Ah:=IH.l;obtain⟨j,rfl⟩:∃ j,k=j+1:=⟨k - 1,by omega⟩
  refine⟨⟨l,?_,by omega,fun _=>rfl⟩,fun D hr=>⟨D,?_,fun _=>hr⟩⟩
  ·rw[nP (j+1)]
   rw[Hd h0] at e1;have ef:=KX (t:=t) (fn:=fn) (ns:=ns) (p:=x.2.1) h0 g16 (nm:=x.2.2.2.1) IH.v (by omega) j x.2.2.2.2.length 0 (j+1) l rfl (by omega)
   simp only[go_sem,cJ,bj hx,g9,g22,g12,g16,e1,aa];rw[show bL _ _ _ (j+1) (j+1) x.1 x.2.2.2.1 x.2.2.2.2 t.1 t.2.1 t.2.2 ns fn l (oE t fn l x) x.2.1 0=_ from ef]
   simp only[go_sem]
  ·have e2:=e2 D hr
   rw[kh (j+1)];simp only[go_sem,aV,bj hx,aa,g9,e2,aYa.2 h0]
theorem Hx{K:XI}{n:Nat}{j:Int}(hv:∀ j∈K,0≤j∧j<(ns.length:Int))(h:K[n]? = some j):∃ y,bA K (n:Int)=some j∧bA ns j=some y∧ns[j.toNat]? = some y∧kd ns j=y.1∧((j.toNat:Nat):Int)=j:=by have hj:=hv j (aZa h);obtain⟨y,e1,e2,e3⟩:=uB hj.1 hj.2;exact⟨y,bj h,e3,e1,e2,aMa hj.1⟩
theorem aeP(ht:iq t){c p:Int}(hc:c≠0){x:ey}{K:XI}(hxK:x.2.2.2.2=K){u:Int}(hu:K[0]? = some u)(hv:∀ j∈K,0≤j∧j<(ns.length:Int))(hl:K.length≤5000)(l:XS):
  Ev fun k=>eE k t.1 t.2.1 t.2.2 ns fn l c p x=some (l,c,p,()):=by
 subst hxK;obtain⟨y,e1,e2,e3,e4,e5⟩:=Hx hv hu;have e1:bA x.2.2.2.2 0=some u:=e1;refine Ev.succ (((W9 (fn:=fn) hc ht y.2.2.2.1 y.2.1 5 5 (p:=p)).and ((VH ht fn y.2.2.2.1).and (⟨5002,fun k hk=>hk⟩:Ev fun k=>5002≤k))).mono fun k e=>?_);obtain⟨w1,w2,hk⟩:=e;obtain⟨j,rfl⟩:∃ j,k=j+1:=⟨k - 1,by omega⟩
 have vQ:0<x.2.2.2.2.length:=(aja.1 hu).1;have ef:=KX (t:=t) (fn:=fn) (ns:=ns) (p:=p) hc (Kd:=0) rfl (nm:=[]) hv (by omega) j (x.2.2.2.2.length - 1) 1 (j+1) l (by omega) (by omega)
 rw[←AZ (j+1) 0 rfl []] at ef;have ef:ix (dE (j+1)) (dz (j+1)) (eE (j+1)) (j+1) (j+1) x.2.2.2.2 t.1 t.2.1 t.2.2 ns fn l c p 1=_:=ef;rw[Mv (j+1)];simp only[go_sem,lT,e1,e2,w1,show cO (j+1) (t.1,t.2.1,t.2.2) fn y.2.2.2.1=_ from w2,aa,ck,Q6.2 hc,ef]
 by_cases h5:(nk t fn y.2.2.2.1).1=5
 ·obtain⟨n,f,n1,n2,_⟩:=nk5 h5
  rw[n1];simp only[go_sem,h5,bj n2];cases (f.2.1 != cm ((x.2.2.2.2.length:Int) - 1))<;>rfl
 ·simp only[go_sem,Q6.2 h5]
theorem abE(ht:iq t){i:Nat}{x:ey}(hx:ns[i]? = some x)(hn:nU ns i x)(fd:jl ns)(D0:x.1=22)(IH:JN t fn ns P Is Rs B i x.2.2.2.2):NB t fn ns P Is Rs B i:=by
 intro l hli;have jr:=W7 (fn:=fn) ht (l:=l) (by omega) hx
 have kX:=Hs (fn:=fn) ht l x;have dq:=hn.shp;rw[D0] at dq;obtain⟨u,r,hK⟩:∃ u r,x.2.2.2.2=u::r:=by
  cases h:x.2.2.2.2 with
  |nil=>rw[h] at dq;simp[ce] at dq
  |cons u r=>exact⟨u,r,rfl⟩
 have hu:x.2.2.2.2[0]? = some u:=by rw[hK];rfl
 have LU:kd ns u=23:=by rw[hK] at dq;simp[ce] at dq;exact dq.1
 obtain⟨y,e1,e2,e3,e4,e5⟩:=Hx IH.v hu;have e1:bA x.2.2.2.2 0=some u:=e1;rw[e4] at LU;have hyk:y.2.2.2.2=[]:=by have:=(fd _ _ e3).shp;rw[LU] at this;simpa[ce] using this
 have hoc:oE t fn l x=Il t fn l x.2.2.2.1 3 2:=by simp only[oE,D0,Int.reduceEq,reduceIte,bZa,bia]
 rw[hoc] at jr;simp only[D0,show ¬ (22:Int)=9 by decide,aca,hoc] at kX
 generalize Il t fn l x.2.2.2.1 3 2=c0 at jr kX;have Ah:=IH.l;have ahp:l.length≤4000:=by omega
 by_cases h0:c0=0
 rotate_left
 ·refine⟨c0,x.2.1,fun hz=>absurd hz h0,Ev.succ ((jr.and (kX.and (aeP (fn:=fn) ht (p:=x.2.1) h0 rfl hu IH.v IH.l l))).mono fun k e=>?_)⟩
  obtain⟨w1,w2,w3⟩:=e;rw[Hd h0] at w1;refine⟨⟨l,?_,by omega,fun _=>rfl⟩,fun D hr=>⟨D,?_,fun _=>hr⟩⟩
  ·rw[nP];simp only[go_sem,cJ,bj hx,D0,show((22:Int)==9)=false from rfl,show((22:Int)==12)=false from rfl,show((22:Int)==22)=true from rfl,show((22:Int)==16)=false from rfl,w1,w3]
  ·rw[kh];simp only[go_sem,aV,bj hx,aa,D0,show((22:Int)==9)=false from rfl,show((22:Int)==12)=false from rfl,show((22:Int)==22)=true from rfl,show((22:Int)==16)=false from rfl,w2 D hr,aYa.2 h0]
 subst h0;have hW:=EG (fn:=fn) ht y.2.2.2.1 y.2.1 5 5;have hM:=E5 (fn:=fn) ht y.2.2.2.1 5;have hN:=VH ht fn y.2.2.2.1;have hNi:=ZD ht fn y.2.2.2.1;have vQ:0<x.2.2.2.2.length:=by rw[hK];simp
 by_cases hw:W t fn y.2.2.2.1 5 5=0
 rotate_left
 ·have hn5:¬ (nk t fn y.2.2.2.1).1=5:=fun h=>hw (by simp[W,h])
  have hE:Ev fun k=>eE k t.1 t.2.1 t.2.2 ns fn l 0 0 x=some (l,W t fn y.2.2.2.1 5 5,y.2.1,()):=Ev.succ ((hW.and (hN.and (⟨5002,fun k hk=>hk⟩:Ev fun k=>5002≤k))).mono fun k e=>by
   obtain⟨w1,w2,hk⟩:=e;obtain⟨j,rfl⟩:∃ j,k=j+1:=⟨k - 1,by omega⟩
   have ef:=KX (t:=t) (fn:=fn) (ns:=ns) (p:=y.2.1) hw (Kd:=0) rfl (nm:=[]) IH.v (by omega) j (x.2.2.2.2.length - 1) 1 (j+1) l (by omega) (by omega)
   rw[←AZ (j+1) 0 rfl []] at ef;have ef:ix (dE (j+1)) (dz (j+1)) (eE (j+1)) (j+1) (j+1) x.2.2.2.2 t.1 t.2.1 t.2.2 ns fn l (W t fn y.2.2.2.1 5 5) y.2.1 1=_:=ef;rw[Hd hw] at w1;rw[Mv (j+1)];simp only[go_sem,lT,e1,e2,w1,show cO (j+1) (t.1,t.2.1,t.2.2) fn y.2.2.2.1=_ from w2,aa,Q6.2 hn5,ef])
  refine⟨W t fn y.2.2.2.1 5 5,y.2.1,fun hz=>absurd hz hw,Ev.succ ((jr.and (kX.and (hE.and hM))).mono fun k e=>?_)⟩;obtain⟨w1,w2,w3,w4⟩:=e;refine⟨⟨l,?_,by omega,fun _=>rfl⟩,fun D hr=>⟨D,?_,fun _=>hr⟩⟩
  ·rw[nP];simp only[go_sem,cJ,bj hx,D0,show((22:Int)==9)=false from rfl,show((22:Int)==12)=false from rfl,show((22:Int)==22)=true from rfl,show((22:Int)==16)=false from rfl,w1,show Me 0 x.2.1=0 from rfl,w3]
  ·rw[kh];simp only[go_sem,aV,kZ,bj hx,aa,D0,show((22:Int)==9)=false from rfl,show((22:Int)==12)=false from rfl,show((22:Int)==22)=true from rfl,show((22:Int)==16)=false from rfl,w2 D hr,e1,e2,w4,aYa.2 hw]
 have h5:(nk t fn y.2.2.2.1).1=5:=(YG hw).elim id id;obtain⟨n,f,n1,n2,n3⟩:=nk5 h5;by_cases abp:f.2.1=cm ((x.2.2.2.2.length:Int) - 1)
 rotate_left
 ·have Dq:(f.2.1 != cm ((x.2.2.2.2.length:Int) - 1))=true:=aYa.2 abp
  have Nx:(cm ((x.2.2.2.2.length:Int) - 1) != f.2.1)=true:=aYa.2 (bxa abp);have hE:Ev fun k=>eE k t.1 t.2.1 t.2.2 ns fn l 0 0 x=some (l,12,y.2.1,()):=Ev.succ ((hW.and (hN.and (⟨5002,fun k hk=>hk⟩:Ev fun k=>5002≤k))).mono fun k e=>by
   obtain⟨w1,w2,hk⟩:=e;obtain⟨j,rfl⟩:∃ j,k=j+1:=⟨k - 1,by omega⟩
   have ef:=KX (t:=t) (fn:=fn) (ns:=ns) (c:=12) (p:=y.2.1) (by decide) (Kd:=0) rfl (nm:=[]) IH.v (by omega) j (x.2.2.2.2.length - 1) 1 (j+1) l (by omega) (by omega)
   rw[←AZ (j+1) 0 rfl []] at ef;have ef:ix (dE (j+1)) (dz (j+1)) (eE (j+1)) (j+1) (j+1) x.2.2.2.2 t.1 t.2.1 t.2.2 ns fn l 12 y.2.1 1=_:=ef;rw[hw] at w1;rw[Mv (j+1)];simp only[go_sem,lT,e1,e2,w1,show Me 0 y.2.1=0 from rfl,show cO (j+1) (t.1,t.2.1,t.2.2) fn y.2.2.2.1=_ from w2,aa,h5,n1,bj n2,Dq,ck,ef])
  refine⟨12,y.2.1,fun hz=>absurd hz (by decide),Ev.succ ((jr.and (kX.and (hE.and (hM.and hNi)))).mono fun k e=>?_)⟩
  obtain⟨w1,w2,w3,w4,w5⟩:=e;rw[hw] at w4;refine⟨⟨l,?_,by omega,fun _=>rfl⟩,fun D hr=>⟨D,?_,fun _=>hr⟩⟩
  ·rw[nP];simp only[go_sem,cJ,bj hx,D0,show((22:Int)==9)=false from rfl,show((22:Int)==12)=false from rfl,show((22:Int)==22)=true from rfl,show((22:Int)==16)=false from rfl,w1,show Me 0 x.2.1=0 from rfl,w3]
  ·rw[kh];simp only[go_sem,aV,kZ,bj hx,aa,D0,show((22:Int)==9)=false from rfl,show((22:Int)==12)=false from rfl,show((22:Int)==22)=true from rfl,show((22:Int)==16)=false from rfl,w2 D hr,e1,e2,w4,show fC k (t.1,t.2.1,t.2.2) fn y.2.2.2.1=_ from w5,n1,bj n2,Nx,show((12:Int) != 0)=true from rfl]
 have Dq:(f.2.1 != cm ((x.2.2.2.2.length:Int) - 1))=false:=by rw[abp];simp
 have Nx:(cm ((x.2.2.2.2.length:Int) - 1) != f.2.1)=false:=by rw[abp];simp
 obtain⟨c,p,hc,he⟩:=Bh (Kd:=0) rfl (nm:=[]) IH.v (by omega) hli (x.2.2.2.2.length - 1) 1 (by omega) (fun j hj=>IH.n j (List.mem_of_mem_drop hj))
 have hus:=QZ (P:=P) (Is:=Is) (Rs:=Rs) (B:=B) (fn:=fn) ht e3 LU hyk l;rw[e5] at hus;have heS:Ev fun k=>UV l i c p (ix (dE k) (dz k) (eE k) k k x.2.2.2.2 t.1 t.2.1 t.2.2 ns fn l 0 0 1):=(he.mono fun _ _ e=>e.1).jN.mono fun k e=>by rw[AZ k 0 rfl []];exact e
 have heL:Ev fun k=>∀ D,Lo l D→SL l c p (aM (bI k) (co k) (bT k) k k ns t.1 t.2.1 t.2.2 fn P Is Rs B x.2.2.2.2 (x.2.2.2.2.length:Int) 0 0 D 0):=
  ct.jN (p2:=fun q k=>∀ D,Lo l D→SL l c p (aM (bI q) (co q) (bT q) q k ns t.1 t.2.1 t.2.2 fn P Is Rs B x.2.2.2.2 (x.2.2.2.2.length:Int) 0 0 D 0)) (ct.succ ((hus.tZ.and (he.mono fun _ _ e=>e.2)).mono fun q k e D hr=>by
   have:=e.2 D hr;simp only[go_sem,aM,show decide ((0:Int)<(x.2.2.2.2.length:Int))=true from decide_eq_true (by omega),e1,e.1 D hr,show cm (0+1)=1 from rfl]
   exact this))
 have heI:=Iu (i:=i) hx (fun hz=>(hc hz).1) heL;have hE:Ev fun k=>UV l i c p (eE k t.1 t.2.1 t.2.2 ns fn l 0 0 x):=Ev.succ ((hW.and (hN.and heS)).mono fun k e=>by
  obtain⟨w1,w2,bl,w3,w4,w5⟩:=e;rw[hw] at w1;refine⟨bl,?_,w4,w5⟩;rw[Mv];simp only[go_sem,lT,e1,e2,w1,show Me 0 y.2.1=0 from rfl,show cO k (t.1,t.2.1,t.2.2) fn y.2.2.2.1=_ from w2,aa,h5,n1,bj n2,Dq,w3])
 refine⟨c,p,fun hz=>⟨(hc hz).1,Ie.mk i x hx (fun j hj=>?_) (fun _ v hv=>?_) (fun h=>absurd (D0.symm.trans h) (by decide))⟩,Ev.succ ((jr.and (kX.and (hE.and (hM.and (hNi.and heI))))).mono fun k e=>?_)⟩
 ·rw[hK] at hj
  rcases aka.1 hj with rfl|hj
  ·exact Ie.mk _ y e3 (by rw[hyk];simp) (fun h=>absurd (LU.symm.trans h) (by decide)) (fun h=>absurd (LU.symm.trans h) (by decide))
  ·exact(hc hz).2 j (by rw[hK];exact hj)
 ·rw[hK] at hv
  simp only[List.head?_cons,OF] at hv;subst hv;simp only[Em,e3];exact h5
 ·obtain⟨w1,w2,⟨bl,w3,w3',ahd⟩,w4,w5,w6⟩:=e
  rw[hw] at w4;refine⟨⟨bl,?_,by omega,ahd⟩,fun D hr=>?_⟩
  ·rw[nP];simp only[go_sem,cJ,bj hx,D0,show((22:Int)==9)=false from rfl,show((22:Int)==12)=false from rfl,show((22:Int)==22)=true from rfl,show((22:Int)==16)=false from rfl,w1,show Me 0 x.2.1=0 from rfl,w3]
  ·obtain⟨bm,w7,w8⟩:=w6 D hr
   refine⟨bm,?_,w8⟩;rw[kh];simp only[go_sem,aV,kZ,bj hx,aa,D0,show((22:Int)==9)=false from rfl,show((22:Int)==12)=false from rfl,show((22:Int)==22)=true from rfl,show((22:Int)==16)=false from rfl,w2 D hr,e1,e2,w4,show fC k (t.1,t.2.1,t.2.2) fn y.2.2.2.1=_ from w5,n1,bj n2,Nx,w7]
end
end Go.Fx.R5
namespace Go.Fx.R5
open Go Go.Fx
section
variable {t:y4} {fn:ak} {ns:List ey} {P:Int} {Is Rs:XS} {B:Int}
theorem abD(ht:iq t){i:Nat}{x:ey}(hx:ns[i]? = some x)(hn:nU ns i x)(fd:jl ns)(KY:x.1=12)(IH:JN t fn ns P Is Rs B i x.2.2.2.2):NB t fn ns P Is Rs B i:=by
 intro l hli;have jr:=W7 (fn:=fn) ht (l:=l) (by omega) hx
 have kX:=Hs (fn:=fn) ht l x;have dq:=hn.shp;rw[KY] at dq;obtain⟨u,r,hK⟩:∃ u r,x.2.2.2.2=u::r:=by
  cases h:x.2.2.2.2 with
  |nil=>rw[h] at dq;simp[ce] at dq
  |cons u r=>exact⟨u,r,rfl⟩
 have hu:x.2.2.2.2[0]? = some u:=by rw[hK];rfl
 have LU:kd ns u=23:=by
  rw[hK] at dq;cases r with
  |nil=>simp[ce] at dq
  |cons v r=>cases r with
   |nil=>simp[ce] at dq;exact dq.1
   |cons w r=>simp[ce] at dq
 obtain⟨y,e1,e2,e3,e4,e5⟩:=Hx IH.v hu;have e1:bA x.2.2.2.2 0=some u:=e1;rw[e4] at LU;have hyk:y.2.2.2.2=[]:=by have:=(fd _ _ e3).shp;rw[LU] at this;simpa[ce] using this
 simp only[KY,show ¬ (12:Int)=9 by decide,aca] at kX
 generalize oE t fn l x=c0 at jr kX;have Ah:=IH.l;have vQ:0<x.2.2.2.2.length:=by rw[hK];simp
 have hM:=E5 (fn:=fn) ht y.2.2.2.1 1;have g16:((12:Int)==16)=false:=rfl;by_cases h0:c0=0
 rotate_left
 ·refine⟨c0,x.2.1,fun hz=>absurd hz h0,Ev.succ ((jr.and (kX.and ((W9 (fn:=fn) h0 ht y.2.2.2.1 y.2.1 1 1 (p:=x.2.1)).and (⟨5002,fun k hk=>hk⟩:Ev fun k=>5002≤k)))).mono fun k e=>?_)⟩
  obtain⟨w1,w2,w3,hk⟩:=e;rw[Hd h0] at w1;obtain⟨j,rfl⟩:∃ j,k=j+1:=⟨k - 1,by omega⟩
  have ef:=KX (t:=t) (fn:=fn) (ns:=ns) (p:=x.2.1) h0 g16 (nm:=x.2.2.2.1) IH.v (by omega) j (x.2.2.2.2.length - 1) 1 (j+1) l (by omega) (by omega)
  refine⟨⟨l,?_,by omega,fun _=>rfl⟩,fun D hr=>⟨D,?_,fun _=>hr⟩⟩
  ·rw[nP (j+1)];simp only[go_sem,cJ,bj hx,KY,show((12:Int)==9)=false from rfl,show((12:Int)==12)=true from rfl,show((12:Int)==22)=false from rfl,show((12:Int)==16)=false from rfl,w1,aa,e1,e2,w3]
   rw[show bL _ _ _ (j+1) (j+1) 12 x.2.2.2.1 x.2.2.2.2 t.1 t.2.1 t.2.2 ns fn l c0 x.2.1 1=_ from ef]
   simp only[go_sem]
  ·rw[kh (j+1)];simp only[go_sem,aV,bj hx,aa,KY,show((12:Int)==9)=false from rfl,show((12:Int)==12)=true from rfl,show((12:Int)==22)=false from rfl,show((12:Int)==16)=false from rfl,w2 D hr,aYa.2 h0]
 subst h0;have hW:=EG (fn:=fn) ht y.2.2.2.1 y.2.1 1 1;by_cases hw:W t fn y.2.2.2.1 1 1=0
 rotate_left
 ·refine⟨W t fn y.2.2.2.1 1 1,y.2.1,fun hz=>absurd hz hw,Ev.succ ((jr.and (kX.and (hW.and (hM.and (⟨5002,fun k hk=>hk⟩:Ev fun k=>5002≤k))))).mono fun k e=>?_)⟩
  obtain⟨w1,w2,w3,w4,hk⟩:=e;rw[Hd hw] at w3;obtain⟨j,rfl⟩:∃ j,k=j+1:=⟨k - 1,by omega⟩
  have ef:=KX (t:=t) (fn:=fn) (ns:=ns) (p:=y.2.1) hw g16 (nm:=x.2.2.2.1) IH.v (by omega) j (x.2.2.2.2.length - 1) 1 (j+1) l (by omega) (by omega)
  refine⟨⟨l,?_,by omega,fun _=>rfl⟩,fun D hr=>⟨D,?_,fun _=>hr⟩⟩
  ·rw[nP (j+1)];simp only[go_sem,cJ,bj hx,KY,show((12:Int)==9)=false from rfl,show((12:Int)==12)=true from rfl,show((12:Int)==22)=false from rfl,show((12:Int)==16)=false from rfl,w1,show Me 0 x.2.1=0 from rfl,aa,e1,e2,w3]
   rw[show bL _ _ _ (j+1) (j+1) 12 x.2.2.2.1 x.2.2.2.2 t.1 t.2.1 t.2.2 ns fn l (W t fn y.2.2.2.1 1 1) y.2.1 1=_ from ef]
   simp only[go_sem]
  ·rw[kh (j+1)];simp only[go_sem,aV,bj hx,aa,KY,show((12:Int)==9)=false from rfl,show((12:Int)==12)=true from rfl,show((12:Int)==22)=false from rfl,show((12:Int)==16)=false from rfl,w2 D hr,e1,e2,w4,aYa.2 hw]
 obtain⟨c,p,hc,he⟩:=Bh (Kd:=12) rfl (nm:=x.2.2.2.1) IH.v (by omega) hli (x.2.2.2.2.length - 1) 1 (by omega) (fun j hj=>IH.n j (List.mem_of_mem_drop hj))
 have hus:=QZ (P:=P) (Is:=Is) (Rs:=Rs) (B:=B) (fn:=fn) ht e3 LU hyk l;rw[e5] at hus;have heS:=(he.mono fun _ _ e=>e.1).jN;have heL:Ev fun k=>∀ D,Lo l D→SL l c p (aM (bI k) (co k) (bT k) k k ns t.1 t.2.1 t.2.2 fn P Is Rs B x.2.2.2.2 (x.2.2.2.2.length:Int) 0 0 D 0):=
  ct.jN (p2:=fun q k=>∀ D,Lo l D→SL l c p (aM (bI q) (co q) (bT q) q k ns t.1 t.2.1 t.2.2 fn P Is Rs B x.2.2.2.2 (x.2.2.2.2.length:Int) 0 0 D 0)) (ct.succ ((hus.tZ.and (he.mono fun _ _ e=>e.2)).mono fun q k e D hr=>by
   have:=e.2 D hr;simp only[go_sem,aM,show decide ((0:Int)<(x.2.2.2.2.length:Int))=true from decide_eq_true (by omega),e1,e.1 D hr,show cm (0+1)=1 from rfl]
   exact this))
 have heI:=Iu (i:=i) hx (fun hz=>(hc hz).1) heL;refine⟨c,p,fun hz=>⟨(hc hz).1,Ie.mk i x hx (fun j hj=>?_) (fun h=>absurd (KY.symm.trans h) (by decide)) (fun _ v hv=>?_)⟩,Ev.succ ((jr.and (kX.and (hW.and (hM.and (heS.and heI))))).mono fun k e=>?_)⟩
 ·rw[hK] at hj
  rcases aka.1 hj with rfl|hj
  ·exact Ie.mk _ y e3 (by rw[hyk];simp) (fun h=>absurd (LU.symm.trans h) (by decide)) (fun h=>absurd (LU.symm.trans h) (by decide))
  ·exact(hc hz).2 j (by rw[hK];exact hj)
 ·rw[hK] at hv
  simp only[List.head?_cons,OF] at hv;subst hv;simp only[Em,e3];exact(YG hw).elim id id
 ·obtain⟨w1,w2,w3,w4,⟨bl,w5,w5',ahe⟩,w6⟩:=e
  rw[hw] at w4;rw[hw] at w3;refine⟨⟨bl,?_,by omega,ahe⟩,fun D hr=>?_⟩
  ·rw[nP];simp only[go_sem,cJ,bj hx,KY,show((12:Int)==9)=false from rfl,show((12:Int)==12)=true from rfl,show((12:Int)==22)=false from rfl,show((12:Int)==16)=false from rfl,w1,show Me 0 x.2.1=0 from rfl,show Me 0 y.2.1=0 from rfl,aa,e1,e2,w3]
   rw[show bL _ _ _ k k 12 x.2.2.2.1 x.2.2.2.2 t.1 t.2.1 t.2.2 ns fn l 0 0 1=_ from w5]
   simp only[go_sem]
  ·obtain⟨bm,w7,w8⟩:=w6 D hr
   refine⟨bm,?_,w8⟩;rw[kh];simp only[go_sem,aV,bj hx,aa,KY,show((12:Int)==9)=false from rfl,show((12:Int)==12)=true from rfl,show((12:Int)==22)=false from rfl,show((12:Int)==16)=false from rfl,w2 D hr,e1,e2,w4,w7]
theorem ad2(ht:iq t){i:Nat}{x:ey}(hx:ns[i]? = some x)(hn:nU ns i x)(fd:jl ns)(h9:x.1=9)(IH:JN t fn ns P Is Rs B i x.2.2.2.2):NB t fn ns P Is Rs B i:=by
 intro l hli;have dq:=hn.shp;rw[h9] at dq;obtain⟨u,hK⟩:∃ u,x.2.2.2.2=[u]:=by
  rcases h:x.2.2.2.2 with _|⟨u,_|⟨v,r⟩⟩
  ·rw[h] at dq;simp[ce] at dq
  ·exact⟨u,rfl⟩
  ·rw[h] at dq;simp[ce] at dq
 have hu:x.2.2.2.2[0]? = some u:=by rw[hK];rfl
 obtain⟨y,e1,e2,e3,e4,e5⟩:=Hx IH.v hu;have e1:bA x.2.2.2.2 0=some u:=e1;have hni:=IH.n u (by rw[hK];simp)
 have hN:=VH ht fn x.2.2.2.1;have hNi:=ZD ht fn x.2.2.2.1;by_cases h4:(nk t fn x.2.2.2.1).1=4
 ·
  have bN:y.1=25∨y.1=29→Ie ns t fn u.toNat:=fun h=>by
   have hy:=(fd _ _ e3).shp;have hyk:y.2.2.2.2=[]:=by rcases h with h|h<;>(rw[h] at hy;simpa[ce] using hy)
   exact Ie.mk _ y e3 (by rw[hyk];simp) (fun h'=>by rcases h with h|h<;>exact absurd (h.symm.trans h') (by decide)) (fun h'=>by rcases h with h|h<;>exact absurd (h.symm.trans h') (by decide))
  have chk:y.1=25∨y.1=29→Ie ns t fn i:=fun h=>Ie.mk i x hx (fun j hj=>by rw[hK] at hj;rw[Q7.1 hj];exact bN h) (fun h'=>absurd (h9.symm.trans h') (by decide)) (fun h'=>absurd (h9.symm.trans h') (by decide))
  have hW:=EG (fn:=fn) ht y.2.2.2.1 y.2.1 4 4;have hM:=E5 (fn:=fn) ht y.2.2.2.1 4;have adm:∀ c p:Int,(c=0→p=0∧Ie ns t fn i)→(Ev fun k=>dz k t.1 t.2.1 t.2.2 ns fn l 0 0 x=some (l,c,p,()))→(Ev fun k=>jy k ns t.1 t.2.1 t.2.2 fn x=some ((c,p),()))→
    ∃ c p,(c=0→p=0∧Ie ns t fn i)∧Ev fun k=>UV l (i+1) c p (dE k t.1 t.2.1 t.2.2 ns fn l 0 0 (i:Int))∧∀ D,Lo l D→aa2 l c p (co k ns t.1 t.2.1 t.2.2 fn P Is Rs B D (i:Int)):=fun c p hc hS hI=>by
   refine⟨c,p,hc,Ev.succ ((hS.and (hI.and hNi)).mono fun k e=>?_)⟩;obtain⟨w1,w2,w3⟩:=e;refine⟨⟨l,?_,by omega,fun _=>rfl⟩,fun D hr=>⟨D,?_,fun _=>hr⟩⟩
   ·rw[nP];simp only[go_sem,cJ,bj hx,h9,w1]
   ·rw[kh];simp only[go_sem,aV,gy,bj hx,aa,h9,show fC k (t.1,t.2.1,t.2.2) fn x.2.2.2.1=_ from w3,h4,w2]
  by_cases y29:y.1=29
  ·refine adm 0 0 (fun _=>⟨rfl,chk (.inr y29)⟩) (Ev.succ (hN.mono fun k e=>?_)) (Ev.of fun k=>?_)
   ·rw[Ff];simp only[go_sem,hG,show cO k (t.1,t.2.1,t.2.2) fn x.2.2.2.1=_ from e,e1,e2,h4,aa,y29,show((29:Int)==25)=false from rfl,show((29:Int) != 29)=false from rfl]
   ·simp only[go_sem,jy,e1,e2,y29]
  ·by_cases y25:y.1=25
   ·refine adm (W t fn y.2.2.2.1 4 4) (Me (W t fn y.2.2.2.1 4 4) y.2.1) (fun hz=>⟨by simp[Me,hz],chk (.inl y25)⟩) (Ev.succ ((hN.and hW).mono fun k e=>?_)) (hM.mono fun k e=>?_)
    ·rw[Ff];simp only[go_sem,hG,show cO k (t.1,t.2.1,t.2.2) fn x.2.2.2.1=_ from e.1,e1,e2,h4,aa,y25,e.2]
    ·simp only[go_sem,jy,e1,e2,y25,show((25:Int)==29)=false from rfl,e]
     by_cases hw:W t fn y.2.2.2.1 4 4=0
     ·simp[hw,Me]
     ·simp[hw,Me,aYa.2 hw]
   ·refine adm 11 x.2.1 (fun hz=>absurd hz (by decide)) (Ev.succ (hN.mono fun k e=>?_)) (Ev.of fun k=>?_)
    ·rw[Ff];simp only[go_sem,hG,show cO k (t.1,t.2.1,t.2.2) fn x.2.2.2.1=_ from e,e1,e2,h4,aa,Q6.2 y25,aYa.2 y29,ck]
    ·simp only[go_sem,jy,e1,e2,Q6.2 y29,Q6.2 y25]
 ·
  have g4:((nk t fn x.2.2.2.1).1==4)=false:=Q6.2 h4;have Kn:=acX (fn:=fn) ht (l:=l) (by omega) x.2.2.2.1 x.2.1
  have kX:=Hs (fn:=fn) ht l x;simp only[h9,aua] at kX;generalize Il t fn l x.2.2.2.1 3 2=c0 at Kn kX;have g9:((9:Int)==9)=true:=rfl;by_cases h0:c0=0
  rotate_left
  ·have hS:Ev fun k=>dz k t.1 t.2.1 t.2.2 ns fn l 0 0 x=some (l,c0,x.2.1,()):=Ev.succ ((hN.and (Kn.and (⟨1,fun k hk=>hk⟩:Ev fun k=>1≤k))).mono fun k e=>by
    obtain⟨w1,w2,hk⟩:=e;rw[Hd h0] at w2;obtain⟨j,rfl⟩:∃ j,k=j+1:=⟨k - 1,by omega⟩
    have en:=IK (t:=t) (fn:=fn) (p:=x.2.1) h0 e3 j l;rw[e5] at en;rw[Ff (j+1)];simp only[go_sem,hG,show cO (j+1) (t.1,t.2.1,t.2.2) fn x.2.2.2.1=_ from w1,e1,e2,g4,w2,aa,ck,Q6.2 h0,en]
    cases (y.1==29)<;>rfl)
   refine⟨c0,x.2.1,fun hz=>absurd hz h0,Ev.succ ((hS.and (kX.and hNi)).mono fun k e=>?_)⟩;obtain⟨w1,w2,w3⟩:=e;refine⟨⟨l,?_,by omega,fun _=>rfl⟩,fun D hr=>⟨D,?_,fun _=>hr⟩⟩
   ·rw[nP];simp only[go_sem,cJ,bj hx,h9,g9,w1]
   ·rw[kh];simp only[go_sem,aV,gy,bj hx,aa,h9,g9,show fC k (t.1,t.2.1,t.2.2) fn x.2.2.2.1=_ from w3,g4,w2 D hr,aYa.2 h0]
  subst h0;by_cases y29:y.1=29
  ·have hS:Ev fun k=>dz k t.1 t.2.1 t.2.2 ns fn l 0 0 x=some (l,11,y.2.1,()):=Ev.succ ((hN.and (Kn.and (⟨1,fun k hk=>hk⟩:Ev fun k=>1≤k))).mono fun k e=>by
    obtain⟨w1,w2,hk⟩:=e;obtain⟨j,rfl⟩:∃ j,k=j+1:=⟨k - 1,by omega⟩
    have en:=IK (t:=t) (fn:=fn) (c:=11) (p:=y.2.1) (by decide) e3 j l
    rw[e5] at en;rw[Ff (j+1)];simp only[go_sem,hG,show cO (j+1) (t.1,t.2.1,t.2.2) fn x.2.2.2.1=_ from w1,e1,e2,g4,w2,show Me 0 x.2.1=0 from rfl,aa,ck,y29,en])
   refine⟨11,y.2.1,fun hz=>absurd hz (by decide),Ev.succ ((hS.and (kX.and hNi)).mono fun k e=>?_)⟩
   obtain⟨w1,w2,w3⟩:=e;refine⟨⟨l,?_,by omega,fun _=>rfl⟩,fun D hr=>⟨D,?_,fun _=>hr⟩⟩
   ·rw[nP];simp only[go_sem,cJ,bj hx,h9,g9,w1]
   ·rw[kh];simp only[go_sem,aV,gy,bj hx,aa,h9,g9,show fC k (t.1,t.2.1,t.2.2) fn x.2.2.2.1=_ from w3,g4,w2 D hr,e1,e2,y29]
  have g29:=Q6.2 y29;have Ah:=IH.l;obtain⟨c,p,hc,he⟩:=hni.2 l (by omega)
  rw[e5] at he;have hS:Ev fun k=>UV l (u.toNat+1) c p (dz k t.1 t.2.1 t.2.2 ns fn l 0 0 x):=Ev.succ ((hN.and (Kn.and he)).mono fun k e=>by
   obtain⟨w1,w2,⟨bl,w3,w4,w5⟩,_⟩:=e;refine⟨bl,?_,w4,w5⟩;rw[Ff];simp only[go_sem,hG,show cO k (t.1,t.2.1,t.2.2) fn x.2.2.2.1=_ from w1,e1,e2,g4,w2,show Me 0 x.2.1=0 from rfl,aa,g29,w3])
  obtain⟨c2,p2,xp,he2⟩:=Bh (Kd:=0) rfl (nm:=[]) IH.v (by omega) hli x.2.2.2.2.length 0 rfl (fun j hj=>IH.n j (by simpa using hj))
  have heL:Ev fun k=>∀ D,Lo l D→SL l c p (aM (bI k) (co k) (bT k) k k ns t.1 t.2.1 t.2.2 fn P Is Rs B x.2.2.2.2 (x.2.2.2.2.length:Int) 0 0 D 0):=
   ct.jN (p2:=fun q k=>∀ D,Lo l D→SL l c p (aM (bI q) (co q) (bT q) q k ns t.1 t.2.1 t.2.2 fn P Is Rs B x.2.2.2.2 (x.2.2.2.2.length:Int) 0 0 D 0)) (ct.succ (ct.succ (he.tZ.mono fun q k e D hr=>by
    obtain⟨bm,w1,w2⟩:=e.2 D hr;refine⟨bm,?_,w2⟩;rw[hK,aM];simp only[go_sem,b6a,show decide ((0:Int)<((1:Nat):Int))=true from rfl,show bA [u] 0=some u from rfl,w1]
    by_cases hz:c=0
    ·rw[aM]
     simp only[go_sem,hz,show cm (0+1)=1 from rfl,show decide ((1:Int)<((1:Nat):Int))=false from rfl,aua]
    ·simp only[go_sem,aYa.2 hz,aza hz])))
  have heI:=Iu (i:=i) hx (fun hz=>(hc hz).1) heL;refine⟨c,p,fun hz=>⟨(hc hz).1,Ie.mk i x hx (fun j hj=>by rw[hK] at hj;rw[Q7.1 hj];exact(hc hz).2) (fun h'=>absurd (h9.symm.trans h') (by decide)) (fun h'=>absurd (h9.symm.trans h') (by decide))⟩,Ev.succ ((hS.and (kX.and (hNi.and heI))).mono fun k e=>?_)⟩
  obtain⟨⟨bl,w1,w1',ahc⟩,w2,w3,w4⟩:=e;have bq:=hni.1;refine⟨⟨bl,?_,by omega,ahc⟩,fun D hr=>?_⟩
  ·rw[nP];simp only[go_sem,cJ,bj hx,h9,g9,w1]
  ·obtain⟨bm,w5,w6⟩:=w4 D hr
   refine⟨bm,?_,w6⟩;rw[kh];simp only[go_sem,aV,gy,bj hx,aa,h9,g9,show fC k (t.1,t.2.1,t.2.2) fn x.2.2.2.1=_ from w3,g4,w2 D hr,e1,e2,g29,w5]
end
end Go.Fx.R5
