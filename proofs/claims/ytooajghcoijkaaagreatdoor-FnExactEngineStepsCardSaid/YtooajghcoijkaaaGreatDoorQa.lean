/- Proved here: laws.FnExactEngineSteps returns true at every input (the tied card), no condition beyond the card. -/
import Derived.Test.YtooajghcoijkaaaGreatDoorC
set_option linter.unusedVariables false
set_option linter.unusedSimpArgs false
set_option linter.unusedSectionVars false
set_option maxRecDepth 100000
namespace Go.Fx.R5
open Go Go.Fx
attribute [go_sem] Option.bind_some cond_true cond_false Bool.false_eq_true Bool.not_true Bool.not_false beq_self_eq_true bne_self_eq_false decide_true decide_false
def Ev(p:Nat→Prop):Prop:=∃ K,∀ k,K≤k→p k
def cm(p:Nat→Nat→Prop):Prop:=∃ K,∀ q k,K≤q→K≤k→p q k
section
variable {p r:Nat→Prop} {p2 r2:Nat→Nat→Prop}
theorem Ev.of(h:∀ k,p k):Ev p:=⟨0,fun k _=>h k⟩
theorem Ev.mono(h:Ev p)(g:∀ k,p k→r k):Ev r:=h.imp fun _ h k hk=>g k (h k hk)
theorem Ev.and(h:Ev p)(g:Ev r):Ev fun k=>p k∧r k:=
 let⟨K,h⟩:=h;let⟨L,g⟩:=g;⟨K + L,fun k hk=>⟨h k (by omega),g k (by omega)⟩⟩
theorem Ev.succ(h:Ev fun k=>p (k + 1)):Ev p:=
 let⟨K,h⟩:=h;⟨K + 1,fun k hk=>by obtain⟨j,rfl⟩:∃ j,k=j + 1:=⟨k - 1,by omega⟩;exact h j (by omega)⟩
theorem Ev.Ze(h:Ev p):Ev fun k=>p (k + 1):=let⟨K,h⟩:=h;⟨K,fun k hk=>h (k + 1) (by omega)⟩
theorem Ev.tw(h:Ev p):cm fun q _=>p q:=let⟨K,h⟩:=h;⟨K,fun q _ hq _=>h q hq⟩
theorem Ev.aev(h:Ev p):cm fun _ k=>p k:=let⟨K,h⟩:=h;⟨K,fun _ k _ hk=>h k hk⟩
theorem cm.of(h:∀ q k,p2 q k):cm p2:=⟨0,fun q k _ _=>h q k⟩
theorem cm.mono(h:cm p2)(g:∀ q k,p2 q k→r2 q k):cm r2:=h.imp fun _ h q k hq hk=>g q k (h q k hq hk)
theorem cm.and(h:cm p2)(g:cm r2):cm fun q k=>p2 q k∧r2 q k:=
 let⟨K,h⟩:=h;let⟨L,g⟩:=g;⟨K + L,fun q k hq hk=>⟨h q k (by omega) (by omega),g q k (by omega) (by omega)⟩⟩
theorem cm.succ(h:cm fun q k=>p2 q (k + 1)):cm p2:=
 let⟨K,h⟩:=h;⟨K + 1,fun q k hq hk=>by obtain⟨j,rfl⟩:∃ j,k=j + 1:=⟨k - 1,by omega⟩;exact h q j (by omega) (by omega)⟩
theorem cm.jI(h:cm p2):Ev fun k=>p2 k k:=let⟨K,h⟩:=h;⟨K,fun k hk=>h k k hk hk⟩
theorem Ev.vE(h:Ev p):∃ k,p k:=let⟨K,h⟩:=h;⟨K,h K (Nat.le_refl _)⟩
end
theorem eK{x:Int}(h1:-4611686018427387904≤x)(h2:x≤4611686018427387904):dP x=x:=by unfold dP IntKind.wrap;simp [IntKind.bits,IntKind.signed];omega
theorem adB{n:Nat}(h:n≤4611686018427387904):dP (n:Int)=n:=eK (by omega) (by omega)
theorem ag{n:Nat}(h:n < 4611686018427387904):dP ((n:Int) + 1)=((n + 1:Nat):Int):=by rw [eK (by omega) (by omega)];rfl
section
variable {α:Type}
theorem bh{l:List α}{n:Nat}{x:α}(h:l[n]? = some x):bK l (n:Int)=some x:=by simp [bK,h]
theorem cV{l:List α}{n:Nat}(h:n < l.length):bK l (n:Int)=some l[n]:=bh (by simp [h])
theorem FN{l:List α}{m n:Nat}(h:m≤n)(hn:n≤l.length):sub l (m:Int) (n:Int)=some ((l.take n).drop m):=by simp [sub,h,hn]
theorem qJ{l m:List α}(h:l.length + m.length≤4294967296):lM l m=some (l ++ m):=by simp [lM,h]
end
end Go.Fx.R5
namespace Go.Fx.R5
open Go Go.Fx
theorem V8(b:UInt8)(n:Nat):((b.toNat:Int) == (n:Int))=(b.toNat == n):=by
 by_cases h:b.toNat=n
 ·simp [h]
 ·have:¬ (b.toNat:Int)=(n:Int):=by omega
  rw [beq_eq_false_iff_ne.2 h,beq_eq_false_iff_ne.2 this]
theorem T0(q:Nat):∀ k t a,pk q k t a=jS q k t a
 |0,_,_=>rfl
 |k + 1,t,a=>by simp only [pk,jS,T0 q k]
theorem L1(q:Nat):∀ k t a,oj q k t a=kG q k t a
 |0,_,_=>rfl
 |k + 1,t,a=>by simp only [oj,kG,L1 q k];rfl
theorem KO(q:Nat):∀ k t a,ol q k t a=iv q k t a
 |0,_,_=>rfl
 |k + 1,t,a=>by simp only [ol,iv,KO q k];rfl
variable {t:ao}
theorem UE(hl:t.length≤3000):∀ m lj,m + lj = t.length→∃ r:Nat,lj≤r∧r≤t.length∧(∀ b,t[lj]? = some b→b.toNat≠10→lj < r)∧
  cm fun q k=>jS q k t (lj:Int)=some ((r:Int),())
 |0,lj,h=>by
  refine⟨lj,by omega,by omega,fun b hb=>?_,cm.succ (cm.of fun q k=>?_)⟩
  ·have:=(List.getElem?_eq_some_iff.1 hb).1;omega
  ·have:¬ lj < t.length:=by omega
   simp [jS,aa,this]
 |m + 1,lj,h=>by
  have bq:lj < t.length:=by omega
  by_cases hb:t[lj].toNat=10
  ·refine⟨lj,by omega,by omega,fun b hb'=>?_,cm.succ (cm.of fun q k=>?_)⟩
   ·rw [List.getElem?_eq_getElem bq] at hb';cases hb';exact fun h=>absurd hb h
   ·simp [jS,aa,bq,cV bq,hb]
  ·obtain⟨r,h1,h2,_,h3⟩:=UE hl m (lj + 1) (by omega)
   refine⟨r,by omega,h2,fun _ _ _=>by omega,cm.succ (h3.mono fun q k e=>?_)⟩
   have hb':((t[lj].toNat:Int) == 10)=false:=by rw [show(10:Int)=((10:Nat):Int) from rfl,V8];simp [hb]
   simp only [go_sem,jS,aa,Int.ofNat_lt,bq,cV bq,bne,hb',ag (show lj < _ by omega),e]
theorem Yc(hl:t.length≤3000):∀ m lj,t.length - lj≤m→lj≤t.length→∃ r:Nat,∃ x,lj≤r∧r≤t.length∧(x = .inl ((r:Int),())∨x = .inr ((r:Int),()))∧
  cm fun q k=>iN q k t (lj:Int)=some x∧ip q k t (lj:Int)=some x:=by
 intro m;induction m with
 |zero=>
  intro lj hm h;have:¬ lj < t.length:=by omega
  exact⟨lj,.inl ((lj:Int),()),by omega,h,.inl rfl,cm.succ (cm.of fun q k=>by simp [iN,ip,this])⟩
 |succ m ih=>
  intro lj hm h;by_cases bq:lj < t.length
  ·have e32:((t[lj].toNat:Int) == 32)=(t[lj].toNat == 32):=V8 _ 32
   have e10:((t[lj].toNat:Int) == 10)=(t[lj].toNat == 10):=V8 _ 10;have e35:((t[lj].toNat:Int) == 35)=(t[lj].toNat == 35):=V8 _ 35;by_cases h1:t[lj].toNat=32∨t[lj].toNat=10
   ·obtain⟨r,x,a1,a2,a3,a4⟩:=ih (lj + 1) (by omega) (by omega)
    refine⟨r,x,by omega,a2,a3,cm.succ (a4.mono fun q k e=>?_)⟩
    simp only [go_sem,iN,ip,aa,Int.ofNat_lt,bq,cV bq,e32,e10,e35,ag (show lj < _ by omega),e.1,e.2]
    rcases h1 with h1 | h1<;>simp [h1]
   ·have g1:(t[lj].toNat == 32)=false:=by simp;omega
    have g2:(t[lj].toNat == 10)=false:=by simp;omega
    by_cases h2:t[lj].toNat=35
    ·obtain⟨r1,b1,b2,b3,b4⟩:=UE hl (t.length - lj) lj (by omega)
     have b5:lj < r1:=b3 t[lj] (by simp [bq]) (by omega)
     obtain⟨r,x,a1,a2,a3,a4⟩:=ih r1 (by omega) (by omega)
     obtain⟨K,b4⟩:=b4;refine⟨r,x,by omega,a2,a3,cm.succ ((a4.and (Ev.tw ⟨K,fun q hq=>b4 q q hq hq⟩)).mono fun q k e=>?_)⟩
     simp only [go_sem,iN,ip,aa,Int.ofNat_lt,bq,cV bq,e32,e10,e35,g1,g2,show(t[lj].toNat == 35)=true by simp [h2],T0,e.1.1,e.1.2,e.2,bne,and_self]
    ·have g3:(t[lj].toNat == 35)=false:=by simp;omega
     refine⟨lj,.inr ((lj:Int),()),by omega,by omega,.inr rfl,cm.succ (cm.of fun q k=>?_)⟩
     simp only [go_sem,iN,ip,aa,Int.ofNat_lt,bq,cV bq,e32,e10,e35,g1,g2,g3,bne,and_self]
  ·exact⟨lj,.inl ((lj:Int),()),by omega,h,.inl rfl,cm.succ (cm.of fun q k=>by simp [iN,ip,bq])⟩
theorem Oe(hl:t.length≤3000)(a:Nat)(h:a≤t.length):∃ r:Nat,a≤r∧r≤t.length∧Ev fun k=>oD k t (a:Int)=some ((r:Int),())∧ny k t (a:Int)=some ((r:Int),()):=by obtain⟨r,x,h1,h2,h3,h4⟩:=Yc hl _ a (Nat.le_refl _) h;refine⟨r,h1,h2,h4.jI.mono fun k e=>?_⟩;simp only [go_sem,oD,ny,e.1,e.2];rcases h3 with h3 | h3<;>simp [h3]
def MK(b:UInt8):Bool:=decide (97≤b.toNat) && decide (b.toNat≤122)
def DW(b:UInt8):Bool:=decide (48≤b.toNat) && decide (b.toNat≤57)
theorem GN(b:UInt8):ru (b.toNat:Int)=some (MK b,()):=by
 simp only [ru,aa,MK,show decide ((b.toNat:Int)≥97)=decide (97≤b.toNat) from decide_eq_decide.2 (by omega),show decide ((b.toNat:Int)≤122)=decide (b.toNat≤122) from decide_eq_decide.2 (by omega)]
 cases decide (97≤b.toNat)<;>simp
theorem Gp(b:UInt8):qC (b.toNat:Int)=some (DW b,()):=by
 simp only [qC,aa,DW,show decide ((b.toNat:Int)≥48)=decide (48≤b.toNat) from decide_eq_decide.2 (by omega),show decide ((b.toNat:Int)≤57)=decide (b.toNat≤57) from decide_eq_decide.2 (by omega)]
 cases decide (48≤b.toNat)<;>simp
theorem NK(b:UInt8):sV (b.toNat:Int)=some (MK b,()):=GN b
theorem TO(b:UInt8):qX (b.toNat:Int)=some (DW b,()):=Gp b
theorem X5(hl:t.length≤3000):∀ m lj,m + lj = t.length→∃ r:Nat,lj≤r∧r≤t.length∧(∀ b,t[lj]? = some b→MK b=true→lj < r)∧cm fun q k=>kG q k t (lj:Int)=some ((r:Int),())
 |0,lj,h=>by
  refine⟨lj,by omega,by omega,fun b hb=>?_,cm.succ (cm.of fun q k=>?_)⟩
  ·have:=(List.getElem?_eq_some_iff.1 hb).1;omega
  ·have:¬ lj < t.length:=by omega
   simp [kG,aa,this]
 |m + 1,lj,h=>by
  have bq:lj < t.length:=by omega
  by_cases hb:MK t[lj]=true∨DW t[lj]=true
  ·obtain⟨r,h1,h2,_,h3⟩:=X5 hl m (lj + 1) (by omega)
   refine⟨r,by omega,h2,fun _ _ _=>by omega,cm.succ (h3.mono fun q k e=>?_)⟩
   simp only [go_sem,kG,aa,Int.ofNat_lt,bq,cV bq,GN,Gp,ag (show lj < _ by omega),e]
   rcases hb with hb | hb
   ·simp [hb]
   ·cases MK t[lj]<;>simp [hb]
  ·refine⟨lj,by omega,by omega,fun b hb'=>?_,cm.succ (cm.of fun q k=>?_)⟩
   ·rw [List.getElem?_eq_getElem bq] at hb';cases hb';exact fun h=>absurd (.inl h) hb
   ·simp only [not_or,Bool.not_eq_true] at hb
    simp [kG,aa,bq,cV bq,GN,Gp,hb.1,hb.2]
theorem TP(hl:t.length≤3000):∀ m lj,m + lj = t.length→∃ r:Nat,lj≤r∧r≤t.length∧(∀ b,t[lj]? = some b→DW b=true→lj < r)∧((t.take r).drop lj).all DW=true∧cm fun q k=>iv q k t (lj:Int)=some ((r:Int),())
 |0,lj,h=>by
  refine⟨lj,by omega,by omega,fun b hb=>?_,?_,cm.succ (cm.of fun q k=>?_)⟩
  ·have:=(List.getElem?_eq_some_iff.1 hb).1;omega
  ·simp
  ·have:¬ lj < t.length:=by omega
   simp [iv,aa,this]
 |m + 1,lj,h=>by
  have bq:lj < t.length:=by omega
  by_cases hb:DW t[lj]=true
  ·obtain⟨r,h1,h2,_,h4,h3⟩:=TP hl m (lj + 1) (by omega)
   refine⟨r,by omega,h2,fun _ _ _=>by omega,?_,cm.succ (h3.mono fun q k e=>?_)⟩
   ·have:(t.take r).drop lj = t[lj] :: (t.take r).drop (lj + 1):=by
     rw [List.drop_eq_getElem_cons (by simp;omega)];simp
    rw [this];simp only [List.all_cons,hb,h4,Bool.and_self]
   ·simp only [go_sem,iv,aa,Int.ofNat_lt,bq,cV bq,Gp,ag (show lj < _ by omega),e,hb]
  ·refine⟨lj,by omega,by omega,fun b hb'=>?_,by simp,cm.succ (cm.of fun q k=>?_)⟩
   ·rw [List.getElem?_eq_getElem bq] at hb';cases hb';exact fun h=>absurd h hb
   ·simp only [Bool.not_eq_true] at hb
    simp [iv,aa,bq,cV bq,Gp,hb]
end Go.Fx.R5
namespace Go.Fx.R5
open Go Go.Fx
theorem u8w{x:Int}(h1:0≤x)(h2:x < 256):IntKind.u8.wrap x=x:=by unfold IntKind.wrap;simp [IntKind.bits,IntKind.signed];omega
def Hn(n:Int)(b:UInt8):Int:=n * 10 + ((b.toNat:Int) - 48)
theorem U0{b:UInt8}(h:DW b=true):48≤b.toNat∧b.toNat≤57:=by simpa [DW] using h
theorem Sg{s:ao}(hs:s.all DW=true)(hl:s.length≤10):∀ m i (v:Int),m + i=s.length→0≤v→v < 10 ^ i→
  0≤(s.drop i).foldl Hn v∧cm fun q k=>lw q k s v (i:Int)=some ((s.drop i).foldl Hn v,())
 |0,i,v,h,h0,h1=>by
  have:¬ i < s.length:=by omega
  have e:s.drop i = []:=by simp;omega
  rw [e];exact⟨h0,cm.succ (cm.of fun q k=>by simp [lw,this])⟩
 |m + 1,i,v,h,h0,h1=>by
  have bq:i < s.length:=by omega
  have hd:=U0 (List.all_eq_true.1 hs s[i] (List.getElem_mem bq));have e:s.drop i=s[i] :: s.drop (i + 1):=List.drop_eq_getElem_cons bq;have hp:(10:Int) ^ (i + 1)≤10 ^ 10:=by
   have:(10:Nat) ^ (i + 1)≤10 ^ 10:=Nat.pow_le_pow_right (by omega) (by omega)
   exact_mod_cast this
  have hq:(10:Int) ^ (i + 1)=10 ^ i * 10:=Int.pow_succ ..;have b1:0≤Hn v s[i]:=by unfold Hn;omega
  have b2:Hn v s[i] < 10 ^ (i + 1):=by unfold Hn;omega
  obtain⟨c1,c2⟩:=Sg hs hl m (i + 1) (Hn v s[i]) (by omega) b1 b2
  rw [e];refine⟨c1,cm.succ (c2.mono fun q k e=>?_)⟩;have w:dP (dP (v * 10) + dP (IntKind.u8.wrap ((s[i].toNat:Int) - 48)))=Hn v s[i]:=by
   rw [u8w (by omega) (by omega),eK (x:=v * 10) (by omega) (by omega),eK (x:=(s[i].toNat:Int) - 48) (by omega) (by omega),eK (by omega) (by omega)]
   rfl
  simp only [go_sem,lw,Int.ofNat_lt,bq,cV bq,w,ag (show i < _ by omega),e,List.foldl_cons]
theorem Xt{s:ao}(hs:s.all DW=true)(h0:0 < s.length):∃(v:Int) (ok:Bool),oV s=some (v,ok,())∧(ok=true→0≤v∧v≤2147483647)∧
  Ev fun k=>o9 k s=some (if ok=true then v else -1,()):=by
 have hz:s≠[]:=by intro e;rw [e] at h0;simp at h0
 have hd:QG s=true:=hs;have e0:((s.length:Int) > 10)=(10 < s.length):=by simp only [gt_iff_lt,eq_iff_iff];omega
 have e1:((s.length:Int) > 1)=(1 < s.length):=by simp only [gt_iff_lt,eq_iff_iff];omega
 have hi:s.isEmpty=false:=by simp [hz]
 have hx:bK s 0=some s[0]:=cV (n:=0) h0;have hh:s.headD 0=s[0]:=by cases s with | nil=>exact absurd rfl hz | cons a b=>rfl
 have e48:((s[0].toNat:Int) == 48)=(s[0] == 48):=by
  rw [show(48:Int)=((48:Nat):Int) from rfl,V8]
  by_cases h:s[0]=48
  ·simp [h]
  ·rw [beq_eq_false_iff_ne.2 h];simp;exact fun h'=>h (UInt8.toNat_inj.1 h')
 by_cases hl:10 < s.length
 ·exact⟨0,false,by simp [oV,hd,hi,hl],by simp,Ev.of fun k=>by simp only [go_sem,o9,aa,e0,hl];rfl⟩
 ·by_cases h48:1 < s.length∧s[0]=48
  ·exact⟨0,false,by simp only [oV,hd,hi,hh,h48.1,h48.2];rfl,by simp,Ev.of fun k=>by simp only [go_sem,o9,aa,e0,e1,hl,h48.1,hx,h48.2];rfl⟩
  ·obtain⟨c1,c2⟩:=Sg hs (by omega) s.length 0 0 (by omega) (by omega) (by simp)
   have hb:(decide (1 < s.length) && (s[0] == 48))=false:=by
    simp only [Bool.and_eq_false_iff,decide_eq_false_iff_not,beq_eq_false_iff_ne];by_cases h:1 < s.length
    ·exact .inr fun h'=>h48 ⟨h,h'⟩
    ·exact .inl h
   have hv:(s.drop 0).foldl Hn 0=Me s:=rfl;rw [hv] at c1 c2;have sp:∀ k r,(lw k k s 0 0=some (r,()))→o9 k s=some (if decide (r > 2147483647) then -1 else r,()):=fun k r e=>by
    simp only [go_sem,o9,aa,e0,e1,hl,hx,e48,e];cases h:decide (1 < s.length) with
    |false=>simp only [go_sem];cases decide (r > 2147483647)<;>rfl
    |true=>
     have:(s[0] == 48)=false:=by simpa [h] using hb
     rw [this];simp only [go_sem];cases decide (r > 2147483647)<;>rfl
   by_cases hm:2147483647 < Me s
   ·refine⟨0,false,?_,by simp,c2.jI.mono fun k e=>?_⟩
    ·simp only [oV,hd,hi,hh,hb];simp [hl,hm]
    ·rw [sp k _ e];simp [hm]
   ·refine⟨Me s,true,?_,fun _=>⟨c1,by omega⟩,c2.jI.mono fun k e=>?_⟩
    ·simp only [oV,hd,hi,hh,hb];simp [hl,hm]
    ·rw [sp k _ e];simp [hm]
def NH:XS:=[[97,114,114,97,121],[118,97,114],[114,101,102],[102,117,110,99],[105,102],[101,108,115,101],[119,104,105,108,101],[102,111,114],[114,101,97,100],[112,114,105,110,116],[97,115,115,101,114,116],[115,116,111,112],[114,101,116,117,114,110],[97,110,100],[111,114],[110,111,116],[110,117,108,108]]
theorem yI{α:Type}{f:Bool→Option α}{b c:Bool}:(aa f fun jx=>bif b then jx true else jx c)=f (b || c):=by cases b<;>rfl
theorem Za{α:Type}{j:Bool→Option α}{b c:Bool}:(bif b then j b else j c)=j (b || c):=by cases b<;>rfl
theorem Yr(t:ao):yN t=some (NH.contains t,()):=by simp only [yN,yI,NH,List.contains_cons,Bool.or_assoc];simp
theorem abS(t:ao):yw t=some (NH.contains t,()):=by
 simp only [yw,Za,NH,List.contains_cons];rw [show ∀ b:Bool,(aa (fun v:Bool=>bif v then some (true,()) else some (false,())) fun jx=>jx b)=some (b,()) from fun b=>by cases b<;>rfl]
 simp
def vu(t:ao):ao:=(wq.find? (·.isPrefixOf t)).getD []
def L2(o:Option ao):Unit⊕(ao×Unit):=match o with | none=>.inl () | some s=>.inr (s,())
theorem XO(s r:ao):(decide (s.length≤r.length) && (r.take s.length == s))=s.isPrefixOf r:=by
 have:s.isPrefixOf r=true↔s <+: r:=List.isPrefixOf_iff_prefix;rw [Bool.eq_iff_iff,this,List.prefix_iff_eq_take];simp only [Bool.and_eq_true,decide_eq_true_eq,beq_iff_eq];constructor
 ·rintro⟨_,h⟩;exact h.symm
 ·intro h;refine⟨?_,h.symm⟩
  have:=congrArg List.length h;simp at this;omega
theorem Od{t:ao}(hl:t.length≤3000){a:Nat}(ha:a≤t.length):∀ m i:Nat,m + i=30→
  cm fun q k=>mI q k t (a:Int) wq (i:Int)=some (L2 ((wq.drop i).find? (·.isPrefixOf (t.drop a))))∧mz q k t (a:Int) wq (i:Int)=some (L2 ((wq.drop i).find? (·.isPrefixOf (t.drop a))))
 |0,i,h=>by
  have e:wq.drop i = []:=by rw [show i=30 by omega];rfl
  have h1:¬ i < wq.length:=by rw [show i=30 by omega];decide
  have h2:¬ (i:Int) < 30:=by omega
  rw [e];exact cm.succ (cm.of fun q k=>by simp [mI,mz,h1,h2,L2])
 |m + 1,i,h=>by
  have bq:i < wq.length:=by show i < 30;omega
  have h2:(i:Int) < 30:=by omega
  have e:wq.drop i=wq[i] :: wq.drop (i + 1):=List.drop_eq_getElem_cons bq;have ih:=Od hl ha m (i + 1) (by omega)
  have es:sub t (a:Int) (t.length:Int)=some (t.drop a):=by rw [FN ha (Nat.le_refl _),List.take_length]
  have ew:dP ((t.length:Int) - a)=((t.drop a).length:Int):=by rw [eK (by omega) (by omega)];simp;omega
  rw [e,List.find?_cons];have hp:=XO wq[i] (t.drop a);refine cm.succ (ih.mono fun q k e=>?_);simp only [go_sem,mI,mz,aa,Int.ofNat_lt,bq,h2,cV bq,es,Fk,ew,ag (show i < _ by omega),e.1,e.2,Int.ofNat_le]
  by_cases hc:wq[i].length≤(t.drop a).length
  ·have hc':a + wq[i].length≤t.length:=by simp at hc;omega
   have e3:sub t (a:Int) (dP ((a:Int) + (wq[i].length:Int)))=some ((t.drop a).take wq[i].length):=by
    rw [eK (by omega) (by omega),show(a:Int) + (wq[i].length:Int)=((a + wq[i].length:Nat):Int) from rfl,FN (by omega) hc']
    rw [List.drop_take];congr 2;omega
   simp only [go_sem,hc,e3];rw [show(List.take wq[i].length (List.drop a t) == wq[i])=wq[i].isPrefixOf (t.drop a) by rw [←hp,decide_eq_true hc,Bool.true_and]]
   cases wq[i].isPrefixOf (t.drop a)<;>simp [L2]
  ·have:wq[i].isPrefixOf (t.drop a)=false:=by rw [←hp];simp;intro h;simp at hc;omega
   simp only [go_sem,hc,this,and_self]
theorem VA{t:ao}(hl:t.length≤3000){a:Nat}(ha:a < t.length):
  Ev fun k=>yM k t (a:Int)=some (vu (t.drop a),())∧yv k t (a:Int)=some (vu (t.drop a),()):=by
 refine(Od hl (Nat.le_of_lt ha) 30 0 rfl).jI.mono fun k e=>?_;have h0:¬ (a:Int) < 0:=by omega
 have h1:¬ (a:Int)≥t.length:=by omega
 have e1:mI k k t (a:Int) wq 0=some (L2 (wq.find? (·.isPrefixOf (t.drop a)))):=e.1
 have e2:mz k k t (a:Int) wq 0=some (L2 (wq.find? (·.isPrefixOf (t.drop a)))):=e.2
 have e3:A0=some (wq,()):=rfl;simp only [go_sem,yM,yv,aa,h0,h1,e3,e1,e2,vu];cases wq.find? (·.isPrefixOf (t.drop a))<;>simp [L2]
theorem Yb{t:ao}(h:vu t≠[]):vu t∈wq∧vu t <+: t:=by
 unfold vu at h ⊢;cases hf:wq.find? (·.isPrefixOf t) with
 |none=>simp [hf] at h
 |some s=>have h2:s.isPrefixOf t=true:=List.find?_some (p:=fun x:ao=>x.isPrefixOf t) hf;exact⟨List.mem_of_find?_eq_some hf,List.isPrefixOf_iff_prefix.1 h2⟩
end Go.Fx.R5
namespace Go.Fx.R5
open Go Go.Fx
abbrev yn:=Int×Int×ao×Int
structure Kv(x:yn):Prop where
 k:(x.1=1∧NH.contains x.2.2.1=false∧wq.contains x.2.2.1=false∧x.2.2.1≠[])∨(x.1=2∧NH.contains x.2.2.1=false∧wq.contains x.2.2.1=false)∨
  (x.1=3∧NH.contains x.2.2.1=true∧wq.contains x.2.2.1=false)∨(x.1=4∧wq.contains x.2.2.1=true∧NH.contains x.2.2.1=false)
 num:0≤x.2.2.2∧x.2.2.2≤2147483647
 lj:0≤x.2.1∧x.2.1≤3000
theorem Zt:∀ s∈wq,(s.head?.map fun c=>MK c || DW c)=some false:=by decide +kernel
theorem adz:∀ s∈NH,(s.head?.map MK)=some true:=by decide +kernel
theorem abe:∀ s∈NH,(s.head?.map DW)=some false:=by decide +kernel
theorem abE:∀ s∈wq,0 < s.length∧s.length≤2:=by decide +kernel
theorem ac6:∀ s∈wq,NH.contains s=false:=by decide +kernel
theorem Xr{s:ao}{c:UInt8}(h:s.head? = some c)(hc:MK c=true∨DW c=true):wq.contains s=false:=by
 cases h':wq.contains s with
 |false=>rfl
 |true=>
  have:=Zt s (by simpa using h')
  rw [h] at this;simp only [Option.map_some,Option.some.injEq,Bool.or_eq_false_iff] at this;rcases hc with hc | hc
  ·rw [this.1] at hc;cases hc
  ·rw [this.2] at hc;cases hc
theorem abq{s:ao}{c:UInt8}(h:s.head? = some c)(hc:DW c=true):NH.contains s=false:=by
 cases h':NH.contains s with
 |false=>rfl
 |true=>
  have:=abe s (by simpa using h')
  rw [h] at this;simp only [Option.map_some,Option.some.injEq] at this;rw [this] at hc;cases hc
theorem QE{t:ao}{a r:Nat}(h:a < r)(hr:r≤t.length):((t.take r).drop a).head? = t[a]?:=by rw [List.head?_drop,List.getElem?_take_of_lt h]
theorem J0{t:ao}{a r:Nat}(hr:r≤t.length):((t.take r).drop a).length=r - a:=by simp;omega
theorem Nc{t:ao}{a r:Nat}(h:t.length≤3000):AE ((t.take r).drop a)=some ((t.take r).drop a,()):=by unfold AE;rw [show decide (((t.take r).drop a).length≤281474976710656)=true by simp;omega];rfl
theorem Tt{t:ao}(hl:t.length≤3000){a:Nat}(ha:a < t.length):∃(x y:yn) (e:Nat) (c:Int),
  (Ev fun k=>nQ k t (a:Int)=some (x,(e:Int),c,())∧jE k t (a:Int)=some (y,c,()))∧
  (c=0→x=y∧e=a + y.2.2.1.length∧a < e∧e≤t.length∧Kv y):=by
 have hx:bK t (a:Int)=some t[a]:=cV ha;have hg:t[a]? = some t[a]:=by simp [ha]
 cases bq:MK t[a] with
 |true=>
  obtain⟨r,h1,h2,h3,h4⟩:=X5 hl (t.length - a) a (by omega)
  have h5:a < r:=h3 _ hg bq;have es:sub t (a:Int) (r:Int)=some ((t.take r).drop a):=FN h1 h2;have jD:(((t.take r).drop a).length:Int)=(r:Int) - a:=by rw [J0 h2];omega
  have hh:((t.take r).drop a).head? = some t[a]:=by rw [QE h5 h2,hg]
  have h4:=h4.jI;by_cases h8:(r:Int) - a > 8
  ·refine⟨(if NH.contains ((t.take r).drop a) then 3 else 1,a,(t.take r).drop a,0),(0,0,[],0),r,3,h4.mono fun k e=>?_,fun h=>by cases h⟩
   simp only [go_sem,nQ,jE,AZ,hx,GN,NK,bq,L1,e,es,jD,h8,eK (x:=(r:Int) - a) (by omega) (by omega),Yr,aa]
   cases NH.contains ((t.take r).drop a)<;>simp
  ·refine⟨(if NH.contains ((t.take r).drop a) then 3 else 1,a,(t.take r).drop a,0),(if NH.contains ((t.take r).drop a) then 3 else 1,a,(t.take r).drop a,0),r,0,h4.mono fun k e=>?_,fun _=>⟨rfl,?_,h5,h2,?_,by simp,by simp;omega⟩⟩
   ·simp only [go_sem,nQ,jE,AZ,hx,GN,NK,bq,L1,e,es,jD,h8,eK (x:=(r:Int) - a) (by omega) (by omega),Yr,abS,aa,Nc hl]
    cases NH.contains ((t.take r).drop a)<;>simp
   ·simp only [J0 h2];omega
   ·have hs:=Xr hh (.inl bq)
    cases hk:NH.contains ((t.take r).drop a) with
    |true=>exact .inr (.inr (.inl ⟨by simp,rfl,hs⟩))
    |false=>exact .inl ⟨by simp,rfl,hs,fun e=>by have e:(t.take r).drop a = []:=e;rw [e] at hh;cases hh⟩
 |false=>
  cases hdg:DW t[a] with
  |true=>
   obtain⟨r,h1,h2,h3,h6,h4⟩:=TP hl (t.length - a) a (by omega)
   have h5:a < r:=h3 _ hg hdg;have es:sub t (a:Int) (r:Int)=some ((t.take r).drop a):=FN h1 h2;have hh:((t.take r).drop a).head? = some t[a]:=by rw [QE h5 h2,hg]
   obtain⟨v,ok,g1,g2,g3⟩:=Xt h6 (by rw [J0 h2];omega)
   have h4:=h4.jI;cases ok with
   |false=>
    refine⟨(2,a,(t.take r).drop a,-1),(0,0,[],0),r,4,(h4.and g3).mono fun k e=>?_,fun h=>by cases h⟩
    simp only [go_sem,nQ,jE,uz,hx,GN,NK,bq,KO,e.1,e.2,es,Gp,TO,hdg,g1];simp
   |true=>
    have gv:=g2 rfl;refine⟨(2,a,(t.take r).drop a,v),(2,a,(t.take r).drop a,v),r,0,(h4.and g3).mono fun k e=>?_,fun _=>⟨rfl,?_,h5,h2,.inr (.inl ⟨rfl,abq hh hdg,Xr hh (.inr hdg)⟩),gv,by simp;omega⟩⟩
    ·have:¬ v < 0:=by omega
     simp only [go_sem,nQ,jE,uz,hx,GN,NK,bq,KO,e.1,e.2,es,Gp,TO,hdg,g1,Nc hl];simp [this]
    ·simp only [J0 h2];omega
  |false=>
   have hs:=VA hl ha;by_cases hz:vu (t.drop a) = []
   ·refine⟨(4,a,[],0),(0,0,[],0),a,2,hs.mono fun k e=>?_,fun h=>by cases h⟩
    simp only [go_sem,nQ,jE,hx,GN,NK,bq,Gp,TO,hdg,e.1,e.2,hz];simp
   ·obtain⟨m1,m2⟩:=Yb hz
    have AI:=m2.length_le;have h2:=abE _ m1;refine⟨(4,a,vu (t.drop a),0),(4,a,vu (t.drop a),0),a + (vu (t.drop a)).length,0,hs.mono fun k e=>?_,fun _=>⟨rfl,rfl,by omega,by simp at AI;omega,.inr (.inr (.inr ⟨rfl,by simpa using m1,ac6 _ m1⟩)),by simp,by simp;omega⟩⟩
    have:(vu (t.drop a) == [])=false:=by simpa using hz
    simp only [go_sem,nQ,jE,hx,GN,NK,bq,Gp,TO,hdg,e.1,e.2,this];rw [eK (by omega) (by omega)]
    simp
theorem Xa{t:ao}(hl:t.length≤3000):∀ m (a:Nat) (out:List yn),t.length - a≤m→a≤t.length→out.length≤700→(∀ x∈out,Kv x)→
  (∃ MY:List yn,MY.length≤700∧(∀ x∈MY,Kv x)∧cm fun q k=>eQ q k t 0 0 [] out (a:Int)=some (.inl (0,0,MY,()))∧eO q k t 0 0 out (a:Int)=some (.inl (0,0,MY,())))∨
  ∃(c:Int) (a':Int),c≠0∧cm fun q k=>eQ q k t 0 0 [] out (a:Int)=some (.inr (c,a',[],()))∧eO q k t 0 0 out (a:Int)=some (.inr (c,a',())):=by
 intro m;induction m with
 |zero=>
  intro a out hm ha ho hok;have:¬ a < t.length:=by omega
  exact .inl ⟨out,ho,hok,cm.succ (cm.of fun q k=>by simp [eQ,eO,this])⟩
 |succ m ih=>
  intro a out hm ha ho hok;by_cases bq:a < t.length
  ·obtain⟨x,y,e,c,h1,h2⟩:=Tt hl bq
   by_cases hc:c=0
   ·subst hc
    obtain⟨rfl,he,h3,h4,h5⟩:=h2 rfl;by_cases h7:out.length=700
    ·refine .inr ⟨5,a,by omega,cm.succ (h1.tw.mono fun q k e=>?_)⟩
     simp only [go_sem,eQ,eO,Int.ofNat_lt,bq,e.1,e.2,aa];simp [h7]
    ·obtain⟨r,g1,g2,g3⟩:=Oe hl e h4
     have e7:((out.length:Int) == 700)=false:=by simp;omega
     have e8:¬ (out.length:Int)≥700:=by omega
     have ea:lM out [x]=some (out ++ [x]):=qJ (by simp;omega)
     have ew:dP ((a:Int) + (x.2.2.1.length:Int))=(e:Int):=by rw [he,eK (by omega) (by omega)];simp
     have BY:∀{q k:Nat} {s1 s2},(nQ q t (a:Int)=some (x,(e:Int),0,())∧jE q t (a:Int)=some (x,0,()))→(oD q t (e:Int)=some ((r:Int),())∧ny q t (e:Int)=some ((r:Int),()))→
       (eQ q k t 0 0 [] (out ++ [x]) (r:Int)=s1∧eO q k t 0 0 (out ++ [x]) (r:Int)=s2)→
       eQ q (k + 1) t 0 0 [] out (a:Int)=s1∧eO q (k + 1) t 0 0 out (a:Int)=s2:=by
      intro q k s1 s2 i1 i2 i3;simp only [go_sem,eQ,eO,Int.ofNat_lt,bq,i1.1,i1.2,aa,e7,e8,ea,ew,i2.1,i2.2,i3.1,i3.2];simp
     have ad4:∀ z∈out ++ [x],Kv z:=by
      intro z hz;rcases List.mem_append.1 hz with hz | hz
      ·exact hok z hz
      ·rw [List.mem_singleton.1 hz];exact h5
     rcases ih r (out ++ [x]) (by omega) (by omega) (by simp;omega) ad4 with ⟨MY,o1,o2,o3⟩ |⟨c,a',o1,o2⟩
     ·exact .inl ⟨MY,o1,o2,cm.succ (((h1.tw.and g3.tw).and o3).mono fun q k e=>BY e.1.1 e.1.2 e.2)⟩
     ·exact .inr ⟨c,a',o1,cm.succ (((h1.tw.and g3.tw).and o2).mono fun q k e=>BY e.1.1 e.1.2 e.2)⟩
   ·refine .inr ⟨c,a,hc,cm.succ (h1.tw.mono fun q k e=>?_)⟩
    have J4:(c == 0)=false:=by simpa using hc
    simp only [go_sem,eQ,eO,Int.ofNat_lt,bq,e.1,e.2,aa,bne,J4];simp
  ·exact .inl ⟨out,ho,hok,cm.succ (cm.of fun q k=>by simp [eQ,eO,bq])⟩
theorem W9(t:ao):(∃ ts:List yn,t.length≤3000∧ts.length≤700∧(∀ x∈ts,Kv x)∧Ev fun k=>mH k t=some (ts,(0,0),())∧my k t=some (ts,(0,0),()))∨
  ∃(c:Int) (a:Int),c≠0∧Ev fun k=>mH k t=some ([],(c,a),())∧my k t=some ([],(c,a),()):=by
 by_cases hl:t.length≤3000
 ·have h0:¬ (t.length:Int) > 3000:=by omega
  obtain⟨r,g1,g2,g3⟩:=Oe hl 0 (by omega)
  rcases Xa hl _ r [] (Nat.le_refl _) g2 (by simp) (by simp) with ⟨o,o1,o2,o3⟩ |⟨c,a,o1,o3⟩
  ·refine .inl ⟨o,hl,o1,o2,(g3.and o3.jI).mono fun k e=>?_⟩
   have e1:oD k t 0=some ((r:Int),()):=e.1.1;have e2:ny k t 0=some ((r:Int),()):=e.1.2;simp only [go_sem,mH,my,h0,e1,e2,e.2.1,e.2.2,and_self]
  ·refine .inr ⟨c,a,o1,(g3.and o3.jI).mono fun k e=>?_⟩
   have e1:oD k t 0=some ((r:Int),()):=e.1.1;have e2:ny k t 0=some ((r:Int),()):=e.1.2;simp only [go_sem,mH,my,h0,e1,e2,e.2.1,e.2.2,and_self]
 ·have h0:(t.length:Int) > 3000:=by omega
  exact .inr ⟨1,0,by omega,Ev.of fun k=>by simp [mH,my,h0]⟩
end Go.Fx.R5
namespace Go.Fx.R5
open Go Go.Fx
abbrev eg:=Int×Int×Int×ao×XI
def aM(ts:List yn)(a:Nat)(w:ao):Bool:=match ts[a]? with | some x=>x.2.2.1 == w | none=>false
def sY(ts:List yn)(a:Nat)(k:Int):Bool:=match ts[a]? with | some x=>x.1 == k | none=>false
def pl(ts:List yn)(en:Int)(a:Nat):Int:=match ts[a]? with | some x=>x.2.1 | none=>en
def tk(ts:List yn)(a:Nat):yn:=(ts[a]?).getD (0,0,[],0)
def sg(ts:List yn)(a:Nat):ao:=bif sY ts a 4 then(tk ts a).2.2.1 else []
structure oM(ts:List yn):Prop where
 len:ts.length≤700
 ok:∀ x∈ts,Kv x
def isW(w:ao):Bool:=NH.contains w || wq.contains w
section
variable {ts:List yn} {a:Nat} {w:ao} {en:Int} {k:Int} {d:Nat} {ns:List eg} {c p:Int}
theorem bw(h:aM ts a w=true):a < ts.length:=by
 unfold aM at h;cases hx:ts[a]? with
 |none=>simp [hx] at h
 |some x=>exact(List.getElem?_eq_some_iff.1 hx).1
theorem jz(h:sY ts a k=true):a < ts.length:=by
 unfold sY at h;cases hx:ts[a]? with
 |none=>simp [hx] at h
 |some x=>exact(List.getElem?_eq_some_iff.1 hx).1
theorem im(h:a < ts.length):ts[a]? = some (tk ts a):=by simp [tk,h]
theorem Om(hs:oM ts)(h:a < ts.length):Kv (tk ts a):=hs.ok _ (List.mem_of_getElem? (im h))
theorem Ig(h:sY ts a k=true):(tk ts a).1=k:=by have:=jz h;simp only [sY,im this,beq_iff_eq] at h;exact h
theorem UB(h:aM ts a w=true):(tk ts a).2.2.1=w:=by have:=bw h;simp only [aM,im this,beq_iff_eq] at h;exact h
theorem uX(h:¬ a < ts.length):ts[a]? = none:=by simp;omega
theorem R0(hs:oM ts)(hw:isW w=true)(hk:k=1∨k=2)(h:aM ts a w=true):sY ts a k=false:=by
 cases hi:sY ts a k with
 |false=>rfl
 |true=>
  have h1:=bw h;have h2:=(Om hs h1).k;rw [Ig hi,UB h] at h2;simp only [isW,Bool.or_eq_true] at hw;rcases h2 with ⟨e,f,g,_⟩ |⟨e,f,g⟩ |⟨e,_⟩ |⟨e,_⟩
  ·rw [f,g] at hw;simp at hw
  ·rw [f,g] at hw;simp at hw
  ·omega
  ·omega
theorem acR(hs:oM ts)(hw:isW w=true)(hk:k=1∨k=2)(h:sY ts a k=true):aM ts a w=false:=by
 cases hi:aM ts a w with
 |false=>rfl
 |true=>rw [R0 hs hw hk hi] at h;cases h
theorem adx(h:sY ts a 1=true):sY ts a 2=false:=by have h1:=jz h;have:=Ig h;simp only [sY,im h1];rw [this];rfl
theorem ady(h:sY ts a 2=true):sY ts a 1=false:=by have h1:=jz h;have:=Ig h;simp only [sY,im h1];rw [this];rfl
theorem aC{w':ao}(h:aM ts a w=true)(hw:(w == w')=false):aM ts a w' = false:=by have h1:=bw h;have:=UB h;simp only [aM,im h1];rw [this];exact hw
theorem rU(hl:a≤4000000000000000000):eJ ts (a:Int) 0 w=some (aM ts a w,()):=by
 have:dP ((a:Int) + 0)=(a:Int):=by rw [eK (by omega) (by omega)];simp
 simp only [eJ,this,aa,Int.ofNat_lt];by_cases h:a < ts.length
 ·simp only [go_sem,h,bh (im h),aM,im h]
 ·simp only [go_sem,h,aM,uX h]
theorem yu(hl:a≤4000000000000000000):eJ ts (a:Int) 1 w=some (aM ts (a + 1) w,()):=by
 have:dP ((a:Int) + 1)=((a + 1:Nat):Int):=ag (by omega)
 simp only [eJ,this,aa,Int.ofNat_lt];by_cases h:a + 1 < ts.length
 ·simp only [go_sem,h,bh (im h),aM,im h]
 ·simp only [go_sem,h,aM,uX h]
theorem aI(hl:a≤4000000000000000000):aG ts (a:Int) w=some (aM ts a w,((if aM ts a w=true then a + 1 else a:Nat):Int),()):=by
 simp only [go_sem,aG,rU hl,ag (show a < _ by omega)]
 cases aM ts a w<;>simp
theorem am:db ts en (a:Int)=some (pl ts en a,()):=by
 simp only [db,Int.ofNat_lt];by_cases h:a < ts.length
 ·simp only [go_sem,h,bh (im h),pl,im h]
 ·simp only [go_sem,h,pl,uX h]
theorem oQ:gK ts en (a:Int) c=some (c,pl ts en a,()):=by simp only [go_sem,gK,am]
theorem aQ:ig ts (a:Int) k=some (sY ts a k,()):=by
 simp only [ig,aa,Int.ofNat_lt];by_cases h:a < ts.length
 ·simp only [go_sem,h,bh (im h),sY,im h]
 ·simp only [go_sem,h,sY,uX h]
theorem bL(hl:a≤4000000000000000000):dd ts en (a:Int) k=some (if sY ts a k=true then .inl (tk ts a,((a + 1:Nat):Int),()) else .inr (6,pl ts en a,())):=by
 have e:dP (dP ((a:Int) + 1) - 1)=(a:Int):=by rw [eK (x:=(a:Int) + 1) (by omega) (by omega),eK (by omega) (by omega)];omega
 simp only [go_sem,dd,aQ,oQ,e];simp only [ag (show a < _ by omega)]
 cases h:sY ts a k with
 |true=>simp [bh (im (jz h))]
 |false=>simp
theorem aL(hl:a≤4000000000000000000):a7 ts en (a:Int) w=some (if aM ts a w=true then .inl (((a + 1:Nat):Int),()) else .inr (6,pl ts en a,())):=by
 simp only [go_sem,a7,aI hl];cases h:aM ts a w with
 |true=>simp
 |false=>simp [oQ]
theorem JX(h:ns.length≤4000000)(n:eg):lM ns [n]=some (ns ++ [n])∧dP (((ns ++ [n]).length:Int) - 1)=(ns.length:Int):=
 ⟨qJ (by simp;omega),by rw [List.length_append,List.length_singleton,eK (by omega) (by omega)];omega⟩
theorem gY(h:ns.length≤4000000)(n:eg):bA ns n=some ((ns.length:Int),ns ++ [n],()):=by simp only [go_sem,bA,(JX h n).1,(JX h n).2]
theorem fN(hl:a≤4000000000000000000)(h:ns.length≤4000000):eP ts en (a:Int) ns k =
  some (if sY ts a 1=true then .inl ((ns.length:Int),((a + 1:Nat):Int),ns ++ [(k,(tk ts a).2.1,0,(tk ts a).2.2.1,[])],()) else .inr (6,pl ts en a,())):=by
 simp only [go_sem,eP,bL hl];cases sY ts a 1 with
 |true=>simp [gY h]
 |false=>simp
theorem gD(hd:d≤10):fD ts en (a:Int) (d:Int)=some (if d < 10 then .inl (((d + 1:Nat):Int),()) else .inr (7,pl ts en a,())):=by
 simp only [go_sem,fD,ag (show d < _ by omega),oQ]
 by_cases h2:d < 10
 ·have:¬ ((d + 1:Nat):Int) > 10:=by omega
  simp only [go_sem,this,h2,if_true]
 ·have:((d + 1:Nat):Int) > 10:=by omega
  simp only [go_sem,this,h2,if_false]
theorem bX(hs:oM ts)(hw:isW w=true):fq ts (a:Int) 0 w=some (aM ts a w,()):=by
 simp only [go_sem,fq,aa,Int.ofNat_lt];by_cases h:a < ts.length
 ·simp only [go_sem,h,bh (im h),aM,im h]
  cases hx:((tk ts a).2.2.1 == w) with
  |false=>rfl
  |true=>
   have h2:=(Om hs h).k;rw [beq_iff_eq.1 hx] at h2;simp only [isW,Bool.or_eq_true] at hw;have:(tk ts a).1≥3:=by
    rcases h2 with ⟨e,f,g,_⟩ |⟨e,f,g⟩ |⟨e,_⟩ |⟨e,_⟩
    ·rw [f,g] at hw;simp at hw
    ·rw [f,g] at hw;simp at hw
    ·omega
    ·omega
   simp [this]
 ·simp only [go_sem,h,aM,uX h]
theorem ab(hs:oM ts)(hw:isW w=true)(hl:a≤4000000000000000000):bU ts (a:Int) 0 w=some (aM ts a w,((if aM ts a w=true then a + 1 else a:Nat):Int),()):=by
 simp only [go_sem,bU,bX hs hw,ag (show a < _ by omega)]
 cases aM ts a w<;>simp
theorem bg:cZ ts (a:Int) en=some (pl ts en a,()):=am
theorem aP:iQ ts (a:Int) 0 k=some (sY ts a k,()):=by
 simp only [go_sem,iQ,aa,Int.ofNat_lt];by_cases h:a < ts.length
 ·simp only [go_sem,h,bh (im h),sY,im h]
 ·simp only [go_sem,h,sY,uX h]
theorem IC:iP ts (a:Int) en 0 0 c=some (c,pl ts en a,()):=by simp only [go_sem,iP,bg]
theorem cU(hl:a≤4000000000000000000):dz ts (a:Int) en 0 0=some (if sY ts a 1=true then((tk ts a).2.2.1,((a + 1:Nat):Int),0,0,()) else([],(a:Int),6,pl ts en a,())):=by
 have e:dP (dP ((a:Int) + 1) - 1)=(a:Int):=by rw [eK (x:=(a:Int) + 1) (by omega) (by omega),eK (by omega) (by omega)];omega
 simp only [go_sem,dz,aP,IC,e];simp only [ag (show a < _ by omega)]
 cases h:sY ts a 1 with
 |true=>simp [bh (im (jz h))]
 |false=>simp
theorem ou(hl:a≤4000000000000000000):lC ts (a:Int) en 0 0=some (if sY ts a 2=true then((tk ts a).2.2.2,((a + 1:Nat):Int),0,0,()) else(0,(a:Int),6,pl ts en a,())):=by
 have e:dP (dP ((a:Int) + 1) - 1)=(a:Int):=by rw [eK (x:=(a:Int) + 1) (by omega) (by omega),eK (by omega) (by omega)];omega
 simp only [go_sem,lC,aP,IC,e];simp only [ag (show a < _ by omega)]
 cases h:sY ts a 2 with
 |true=>simp [bh (im (jz h))]
 |false=>simp
theorem ai(hs:oM ts)(hw:isW w=true)(hl:a≤4000000000000000000):aN ts (a:Int) en 0 0 w=some (if aM ts a w=true then(((a + 1:Nat):Int),0,0,()) else((a:Int),6,pl ts en a,())):=by
 simp only [go_sem,aN,ab hs hw hl];cases h:aM ts a w with
 |true=>simp
 |false=>simp [IC]
theorem dN(h:ns.length≤4000000)(n:eg):aV ns 0 n=some ((ns.length:Int),ns ++ [n],()):=by simp only [go_sem,aV,(JX h n).1,(JX h n).2]
theorem lu(hd:d≤10):iq ts (a:Int) en (d:Int) 0 0=some (if d < 10 then(true,((d + 1:Nat):Int),0,0,()) else(false,((d + 1:Nat):Int),7,pl ts en a,())):=by
 simp only [iq,aa,ag (show d < _ by omega),IC,Option.bind_some]
 by_cases h2:d < 10
 ·have:¬ ((d + 1:Nat):Int) > 10:=by omega
  simp only [this,decide_false,cond_false,h2,if_true];rfl
 ·have:((d + 1:Nat):Int) > 10:=by omega
  simp only [this,decide_true,cond_true,h2,if_false];rfl
theorem FH:mh ts (a:Int) 0=some (sg ts a,()):=by
 simp only [go_sem,mh,aP,sg];cases h:sY ts a 4 with
 |true=>simp [bh (im (jz h))]
 |false=>simp
theorem I4(hl:a≤4000000000000000000)(h:ns.length≤4000000)(hk:sY ts a 1=true):nG ts (a:Int) en ns 0 0=some ((ns.length:Int),((a + 1:Nat):Int),ns ++ [(23,pl ts en a,0,(tk ts a).2.2.1,[])],0,0,()):=by simp only [go_sem,nG,bg,cU hl,hk,if_true,dN h]
theorem C4(hs:oM ts)(hw:wq.contains w=true)(hl:a≤4000000000000000000):uA ts (a:Int) w=some (aM ts (a + 1) w,()):=by
 simp only [uA,aa,ag (show a < _ by omega),Int.ofNat_lt]
 by_cases h:a + 1 < ts.length
 ·simp only [go_sem,h,bh (im h),aM,im h]
  cases hx:((tk ts (a + 1)).2.2.1 == w) with
  |false=>rfl
  |true=>
   have h2:=(Om hs h).k;rw [beq_iff_eq.1 hx] at h2;have:(tk ts (a + 1)).1=4:=by
    rcases h2 with ⟨e,f,g,_⟩ |⟨e,f,g⟩ |⟨e,_,g⟩ |⟨e,_⟩
    ·rw [g] at hw;cases hw
    ·rw [g] at hw;cases hw
    ·rw [g] at hw;cases hw
    ·exact e
   simp [this]
 ·simp only [go_sem,h,aM,uX h]
variable (hc:c≠0)
include hc
theorem lq:fq ts (a:Int) c w=some (false,()):=by simp [fq,aa,beq_eq_false_iff_ne.2 hc]
theorem dE:bU ts (a:Int) c w=some (false,(a:Int),()):=by simp [bU,lq hc]
theorem fh:iQ ts (a:Int) c k=some (false,()):=by simp [iQ,aa,beq_eq_false_iff_ne.2 hc]
theorem eS{c':Int}:iP ts (a:Int) en c p c' = some (c,p,()):=by simp [iP,beq_eq_false_iff_ne.2 hc]
theorem dR:dz ts (a:Int) en c p=some ([],(a:Int),c,p,()):=by simp [dz,fh hc,eS hc]
theorem wW:lC ts (a:Int) en c p=some (0,(a:Int),c,p,()):=by simp [lC,fh hc,eS hc]
theorem cM:aN ts (a:Int) en c p w=some ((a:Int),c,p,()):=by simp [aN,dE hc,eS hc]
theorem b8(n:eg):aV ns c n=some (0,ns,()):=by simp [aV,bne,beq_eq_false_iff_ne.2 hc]
theorem eG{d:Int}:iq ts (a:Int) en d c p=some (false,dP (d + 1),c,p,()):=by
 have:(c == 0)=false:=by simpa using hc
 simp only [go_sem,iq,aa,eS hc,this];cases decide (dP (d + 1) > 10)<;>rfl
theorem Wp:mh ts (a:Int) c=some ([],()):=by simp [mh,fh hc]
theorem jm:nG ts (a:Int) en ns c p=some (0,(a:Int),ns,c,p,()):=by simp [nG,bg,dR hc,b8 hc]
end
end Go.Fx.R5
namespace Go.Fx.R5
open Go Go.Fx
def kd(ns:List eg)(j:Int):Int:=match ns[j.toNat]? with | some x=>x.1 | none=>0
def zP(k:Int):Bool:=k == 24 || k == 25 || k == 26 || k == 27 || k == 28
def sw(k:Int):Bool:=k == 30 || k == 31 || k == 32 || k == 33 || k == 34
def MI(k:Int):Bool:=decide (9≤k) && decide (k≤22)
def vm(k:Int):Bool:=k == 5 || k == 6 || k == 7
def D5(k:Int):Bool:=k == 2 || k == 3 || k == 4
def bZ(k:Int)(l:XI):Bool:=
 if k=24∨k=25∨k=27∨k=29∨k=23∨k=34∨k=17∨k=20∨k=2∨k=3∨k=5∨k=6∨k=7 then l.isEmpty
 else if k=26∨k=11∨k=13∨k=18∨k=21 then(match l with | [a]=>zP a | _=>false)
 else if k=9 then(match l with | [a]=>zP a || a == 29 | _=>false)
 else if k=28∨k=30∨k=10 then(match l with | [a,b]=>zP a && zP b | _=>false)
 else if k=12 then(match l with | [a,b]=>a == 23 && zP b | _=>false)
 else if k=22 then(match l with | a :: r=>a == 23 && r.all zP | _=>false)
 else if k=31∨k=32 then(match l with | [a,b]=>sw a && sw b | _=>false)
 else if k=33∨k=19 then(match l with | [a]=>sw a | _=>false)
 else if k=14 then(match l with | [a,b]=>sw a && b == 8 | [a,b,c]=>sw a && b == 8 && c == 8 | _=>false)
 else if k=15 then(match l with | [a,b]=>sw a && b == 8 | _=>false)
 else if k=16 then(match l with | [a,b,c]=>zP a && zP b && c == 8 | _=>false)
 else if k=8 then l.all MI
 else if k=4 then l.dropLast.all vm && l.getLast? == some 8
 else if k=1 then l.all D5
 else false
structure nK(ns:List eg)(i:Nat)(x:eg):Prop where
 cA:∀ j∈x.2.2.2.2,0≤j∧j < (i:Int)
 shp:bZ x.1 (x.2.2.2.2.map (kd ns))=true
 nm:(x.1=4→x.2.2.2.1≠[])∧x.2.2.2.2.length≤5000
def jh(ns:List eg):Prop:=∀ i x,ns[i]? = some x→nK ns i x
theorem pX{ns ee:List eg}(h:ns <+: ee){j:Int}(h0:0≤j)(h1:j < ns.length):kd ee j=kd ns j:=by
 obtain⟨r,rfl⟩:=h;have:j.toNat < ns.length:=by omega
 simp only [kd,List.getElem?_append_left this]
theorem qs{ns:List eg}{x:eg}:kd (ns ++ [x]) (ns.length:Int)=x.1:=by simp [kd]
theorem nK.up{ns ee:List eg}{i:Nat}{x:eg}(h:nK ns i x)(hp:ns <+: ee)(hi:i≤ns.length):nK ee i x:=by
 refine⟨h.cA,?_,h.nm⟩;rw [show x.2.2.2.2.map (kd ee)=x.2.2.2.2.map (kd ns) from List.map_congr_left fun j hj=>by
  have:=h.cA j hj;exact pX hp this.1 (by omega)]
 exact h.shp
theorem jh.add{ns:List eg}{x:eg}(h:jh ns)(hx:nK ns ns.length x):jh (ns ++ [x]):=by
 intro i y hy;by_cases hi:i < ns.length
 ·rw [List.getElem?_append_left hi] at hy
  exact(h i y hy).up ⟨[x],rfl⟩ (by omega)
 ·rw [List.getElem?_append_right (by omega)] at hy
  have:i - ns.length=0:=by have:=(List.getElem?_eq_some_iff.1 hy).1;simp at this;omega
  rw [this] at hy;simp only [List.getElem?_cons_zero,Option.some.injEq] at hy;subst hy;have hi:i=ns.length:=by omega
  subst hi;exact hx.up ⟨[x],rfl⟩ (by omega)
theorem jh.nil:jh []:=fun i x h=>by simp at h
def wts(ns:List eg):List Nat:=ns.foldl (fun ws x=>ws ++ [1 + (x.2.2.2.2.map fun j=>ws.getD j.toNat 0).sum]) []
def wt(ns:List eg)(j:Int):Nat:=(wts ns).getD j.toNat 0
def ju(ns:List eg)(l:XI):Nat:=(l.map (wt ns)).sum
theorem PX(ns:List eg)(x:eg):wts (ns ++ [x])=wts ns ++ [1 + ju ns x.2.2.2.2]:=by simp only [wts,List.foldl_append,List.foldl_cons,List.foldl_nil];rfl
theorem PY(ns:List eg):(wts ns).length=ns.length:=by
 have key:∀(n:Nat) (ns:List eg),ns.length=n→(wts ns).length=ns.length:=by
  intro n;induction n with
  |zero=>intro ns h;rw [List.length_eq_zero_iff.1 h];rfl
  |succ n ih=>
   intro ns h;have gU:ns≠[]:=by intro e;rw [e] at h;cases h
   have e:=List.dropLast_concat_getLast gU;rw [←e,PX,List.length_append,List.length_append,ih ns.dropLast (by simp;omega)];rfl
 exact key _ ns rfl
theorem ZF{ns ee:List eg}(h:ns <+: ee):wts ns <+: wts ee:=by
 obtain⟨r,rfl⟩:=h;induction r generalizing ns with
 |nil=>simp
 |cons x r ih=>have:=ih (ns:=ns ++ [x]);rw [PX,List.append_assoc] at this;exact(List.prefix_append _ _).trans this
theorem qQ{ns ee:List eg}(h:ns <+: ee){j:Int}(h0:0≤j)(h1:j < ns.length):wt ee j=wt ns j:=by
 obtain⟨r,e⟩:=ZF h;have:j.toNat < (wts ns).length:=by rw [PY];omega
 simp only [wt,←e,List.getD_eq_getElem?_getD,List.getElem?_append_left this]
theorem nJ{ns:List eg}{x:eg}:wt (ns ++ [x]) (ns.length:Int)=1 + ju ns x.2.2.2.2:=by simp only [wt,PX,Int.toNat_natCast,List.getD_eq_getElem?_getD];rw [List.getElem?_append_right (by rw [PY];omega),PY];simp
theorem yy(ns:List eg):ju ns []=0:=rfl
theorem oC(ns:List eg)(a:Int):ju ns [a]=wt ns a:=by simp [ju]
theorem xd(ns:List eg)(a b:Int):ju ns [a,b]=wt ns a + wt ns b:=by simp [ju]
theorem NG(ns:List eg)(a b c:Int):ju ns [a,b,c]=wt ns a + (wt ns b + wt ns c):=by simp [ju]
theorem pY(ns:List eg)(l m:XI):ju ns (l ++ m)=ju ns l + ju ns m:=by simp [ju]
theorem pp{ns ee:List eg}(h:ns <+: ee){l:XI}(hl:∀ j∈l,0≤j∧j < (ns.length:Int)):ju ee l=ju ns l:=by simp only [ju];rw [List.map_congr_left fun j hj=>qQ h (hl j hj).1 (hl j hj).2]
inductive Res | ok (v:Int) (a d:Nat) (ns:List eg) | er (c p:Int)
structure wH(ts:List yn)(C:Int→Bool)(s a d:Nat)(ns:List eg)(v:Int)(a' d':Nat)(ee:List eg)(w0:Nat:=0):Prop where
 lo:a + s≤a'
 hi:a'≤ts.length
 dp:d' = d
 ln:ee.length + 2 * a≤ns.length + 2 * a'
 pre:ns <+: ee
 all:jh ee
 v0:0≤v
 vl:v < ee.length
 vc:C (kd ee v)=true
 w:wt ee v + ns.length≤ee.length + w0
def Inv(ts:List yn)(C:Int→Bool)(s a d:Nat)(ns:List eg)(r:Res)(w0:Nat:=0):Prop:=match r with
 |.ok v a' d' ee=>wH ts C s a d ns v a' d' ee w0
 |.er c _=>c≠0
structure wI(ts:List yn)(a d:Nat)(ns:List eg):Prop where
 hi:a≤ts.length
 dp:d≤10
 ln:ns.length≤2 * a
 all:jh ns
theorem kx{ts:List yn}{C:Int→Bool}{s a d a':Nat}{ns pQ:List eg}{x:eg}(lo:a + s≤a')(hi:a'≤ts.length)(ln:pQ.length + 1 + 2 * a≤ns.length + 2 * a')(pre:ns <+: pQ)(all:jh pQ)
  (hx:nK pQ pQ.length x) (hC:C x.1=true) (hw:ju pQ x.2.2.2.2 + ns.length≤pQ.length):wH ts C s a d ns (pQ.length:Int) a' d (pQ ++ [x]):=
 ⟨lo,hi,rfl,by simp;omega,pre.trans ⟨[x],rfl⟩,all.add hx,by omega,by simp;omega,by rw [qs];exact hC,by rw [nJ];simp;omega⟩
theorem rM{ns:List eg}{i:Nat}{k a n:Int}{s:ao}(hk:bZ k []=true)(h4:k≠4):nK ns i (k,a,n,s,[]):=⟨by simp,hk,fun h=>absurd h h4,by simp⟩
abbrev IT:=Option ((Int×Int×Int×List eg×Unit)⊕(Int×Int×Unit))
abbrev ST:=Option (Int×Int×List eg×Int×Int×Int×Unit)
def tx(r:Res)(o:IT):Prop:=match r with
 |.ok v a d ns=>o=some (.inl (v,(a:Int),(d:Int),ns,()))
 |.er c p=>o=some (.inr (c,p,()))
def Ka(r:Res)(o:ST):Prop:=match r with
 |.ok v a d ns=>o=some (v,(a:Int),ns,(d:Int),0,0,())
 |.er c p=>∃(v:Int) (a:Nat) (ns:List eg) (d:Int),o=some (v,(a:Int),ns,d,c,p,())
def Qc(ts:List yn)(C:Int→Bool)(s a d:Nat)(ns:List eg)(i:Nat→IT)(sp:Nat→ST):Prop:=
 ∃ r,Inv ts C s a d ns r∧Ev fun k=>tx r (i k)∧Ka r (sp k)
def fnd(s:ao):XS→Int→Int
 |[],_=>0
 |x :: r,i=>if x=s then i else fnd s r (i + 1)
def LJ(s:ao):Int:=fnd s MC.tail 1
def Gn(s:ao):Int:=fnd s P6.tail 1
def lvF(o:Int):Int:=if o=7 then 1 else if o=8 then 2 else if o=6 then 3 else if o=9∨o=10 then 4 else if o=1∨o=2∨o=11∨o=12 then 5 else 6
theorem OS(s:ao):∀(l:XS) (i:Int),1≤i→(fnd s l i=0∧s∉l)∨(i≤fnd s l i∧s∈l)
 |[],i,h=>.inl ⟨rfl,by simp⟩
 |x :: r,i,h=>by
  simp only [fnd];by_cases hx:x=s
  ·exact .inr (by simp [hx])
  ·rcases OS s r (i + 1) (by omega) with ⟨e,f⟩ |⟨e,f⟩
   ·exact .inl (by simp [hx,e,f,Ne.symm hx])
   ·exact .inr (by simp [hx,f];omega)
def fX(n:Int):Unit⊕(Int×Unit):=if n=0 then .inl () else .inr (n,())
theorem NU(s:ao):∀ m i:Nat,m + i=14→1≤i→cm fun q k=>l8 q k s MC (i:Int)=some (fX (fnd s (MC.drop i) i))
 |0,i,h,h1=>by
  have e:MC.drop i = []:=by rw [show i=14 by omega];rfl
  have h2:¬ (i:Int) < 14:=by omega
  rw [e];exact cm.succ (cm.of fun q k=>by simp [l8,h2,fX,fnd])
 |m + 1,i,h,h1=>by
  have bq:i < MC.length:=by show i < 14;omega
  have h2:(i:Int) < 14:=by omega
  have h3:(i:Int) > 0:=by omega
  have e:MC.drop i=MC[i] :: MC.drop (i + 1):=List.drop_eq_getElem_cons bq;rw [e];refine cm.succ ((NU s m (i + 1) (by omega) (by omega)).mono fun q k e=>?_)
  simp only [go_sem,l8,aa,h2,h3,cV bq,ag (show i < _ by omega),e,fnd]
  by_cases hx:MC[i]=s
  ·have:¬ (i:Int)=0:=by omega
   simp [hx,fX,show i≠0 by omega]
  ·simp only [go_sem,beq_eq_false_iff_ne.2 hx,if_neg hx];rfl
theorem abd(s:ao):Ev fun k=>Dn k s=some (LJ s,()):=by
 refine(cm.succ (p2:=fun q k=>l8 q k s MC 0=some (fX (LJ s))) ((NU s 13 1 rfl (by omega)).mono fun q k e=>?_)).jI.mono fun k e=>?_
 ·have:l8 q k s MC (dP (0 + 1))=some (fX (LJ s)):=e
  simp only [go_sem,l8,aa,show(0:Int) < 14 by omega,show ¬ (0:Int) > 0 by omega,this];rfl
 ·simp only [go_sem,Dn,e,fX]
  by_cases h:LJ s=0<;>simp [h]
theorem KN(s:ao):∀ m i:Nat,m + i=7→1≤i→cm fun q k=>kE q k s P6 (i:Int)=some (fX (fnd s (P6.drop i) i))
 |0,i,h,h1=>by
  have e:P6.drop i = []:=by rw [show i=7 by omega];rfl
  have h2:¬ (i:Int) < 7:=by omega
  rw [e];exact cm.succ (cm.of fun q k=>by simp [kE,h2,fX,fnd])
 |m + 1,i,h,h1=>by
  have bq:i < P6.length:=by show i < 7;omega
  have h2:(i:Int) < 7:=by omega
  have h3:(i:Int) > 0:=by omega
  have e:P6.drop i=P6[i] :: P6.drop (i + 1):=List.drop_eq_getElem_cons bq;rw [e];refine cm.succ ((KN s m (i + 1) (by omega) (by omega)).mono fun q k e=>?_)
  simp only [go_sem,kE,aa,h2,h3,cV bq,ag (show i < _ by omega),e,fnd]
  by_cases hx:P6[i]=s
  ·simp [hx,fX,show i≠0 by omega]
  ·simp only [go_sem,beq_eq_false_iff_ne.2 hx,if_neg hx];rfl
theorem WV(s:ao):Ev fun k=>AN k s=some (Gn s,()):=by
 refine(cm.succ (p2:=fun q k=>kE q k s P6 0=some (fX (Gn s))) ((KN s 6 1 rfl (by omega)).mono fun q k e=>?_)).jI.mono fun k e=>?_
 ·have:kE q k s P6 (dP (0 + 1))=some (fX (Gn s)):=e
  simp only [go_sem,kE,aa,show(0:Int) < 7 by omega,show ¬ (0:Int) > 0 by omega,this];rfl
 ·simp only [go_sem,AN,e,fX]
  by_cases h:Gn s=0<;>simp [h]
theorem abb(o:Int):wb o=some (lvF o,()):=by
 by_cases h7:o=7
 ·subst h7;rfl
 by_cases h8:o=8
 ·subst h8;rfl
 by_cases h6:o=6
 ·subst h6;rfl
 by_cases h9:o=9
 ·subst h9;rfl
 by_cases h10:o=10
 ·subst h10;rfl
 by_cases h1:o=1
 ·subst h1;rfl
 by_cases h2:o=2
 ·subst h2;rfl
 by_cases h11:o=11
 ·subst h11;rfl
 by_cases IS:o=12
 ·subst IS;rfl
 simp [wb,aa,lvF,Bool.cond_eq_ite,h7,h8,h6,h9,h10,h1,h2,h11,IS]
theorem RX(s:ao):A3 s=some (Gn s,()):=by
 simp only [A3,Gn,P6,List.tail,fnd,eq_comm (b:=s),beq_iff_eq,Bool.cond_eq_ite]
 repeat' split
 all_goals first | rfl | simp_all
theorem Zr(s:ao)(n:Nat)(h1:1≤n)(h6:n≤6):uo s (n:Int)=some (if LJ s≠0∧lvF (LJ s)=n then LJ s else 0,()):=by
 by_cases hm:s∈MC.tail
 ·have:∀ s∈MC.tail,∀ n:Nat,n < 7→1≤n→uo s (n:Int)=some (if LJ s≠0∧lvF (LJ s)=n then LJ s else 0,()):=by decide +kernel
  exact this s hm n (by omega) h1
 ·have h0:LJ s=0:=by
   rcases OS s MC.tail 1 (by omega) with ⟨e,_⟩ |⟨_,f⟩
   ·exact e
   ·exact absurd f hm
  simp only [MC,List.tail,List.mem_cons,List.not_mem_nil,or_false,not_or] at hm;have g:∀ w:ao,¬ s=w→(s == w)=false:=fun w h=>beq_eq_false_iff_ne.2 h;simp only [go_sem,uo,aa,g _ hm.1,g _ hm.2.1,g _ hm.2.2.1,g _ hm.2.2.2.1,g _ hm.2.2.2.2.1,g _ hm.2.2.2.2.2.1,g _ hm.2.2.2.2.2.2.1,g _ hm.2.2.2.2.2.2.2.1,g _ hm.2.2.2.2.2.2.2.2.1,g _ hm.2.2.2.2.2.2.2.2.2.1,g _ hm.2.2.2.2.2.2.2.2.2.2.1,g _ hm.2.2.2.2.2.2.2.2.2.2.2.1,g _ hm.2.2.2.2.2.2.2.2.2.2.2.2];simp [h0]
theorem ac0:∀ s∈MC.tail,wq.contains s=true:=by decide +kernel
theorem aaG:∀ s∈P6.tail,wq.contains s=true:=by decide +kernel
section
variable {ts:List yn} {a:Nat}
theorem Ui(hs:oM ts)(h:a < ts.length):LJ (tk ts a).2.2.1=LJ (sg ts a):=by
 simp only [sg];cases hk:sY ts a 4 with
 |true=>rfl
 |false=>
  show _=LJ [];rcases OS (tk ts a).2.2.1 MC.tail 1 (by omega) with ⟨e,_⟩ |⟨_,f⟩
  ·exact e
  ·have h2:=(Om hs h).k
   have h3:=ac0 _ f;simp only [sY,im h] at hk;rcases h2 with ⟨e,_,g,_⟩ |⟨e,_,g⟩ |⟨e,_,g⟩ |⟨e,_⟩
   ·rw [g] at h3;cases h3
   ·rw [g] at h3;cases h3
   ·rw [g] at h3;cases h3
   ·rw [e] at hk;simp at hk
theorem SA(hs:oM ts)(h:a < ts.length):Gn (tk ts a).2.2.1=Gn (sg ts a):=by
 simp only [sg];cases hk:sY ts a 4 with
 |true=>rfl
 |false=>
  show _=Gn [];rcases OS (tk ts a).2.2.1 P6.tail 1 (by omega) with ⟨e,_⟩ |⟨_,f⟩
  ·exact e
  ·have h2:=(Om hs h).k
   have h3:=aaG _ f;simp only [sY,im h] at hk;rcases h2 with ⟨e,_,g,_⟩ |⟨e,_,g⟩ |⟨e,_,g⟩ |⟨e,_⟩
   ·rw [g] at h3;cases h3
   ·rw [g] at h3;cases h3
   ·rw [g] at h3;cases h3
   ·rw [e] at hk;simp at hk
theorem Ti(h:¬ a < ts.length):sg ts a = []:=by simp [sg,sY,uX h]
end
end Go.Fx.R5
namespace Go.Fx.R5
open Go Go.Fx
section
theorem AY(k:Nat):an (k + 1)=gL (an k) (il k) (gM k) k:=rfl
theorem DC(k:Nat):il (k + 1)=iw (an k) (il k) (gM k) k:=rfl
theorem pL(k:Nat):gM (k + 1)=cw (an k) (il k) (gM k) k:=rfl
theorem GH(k:Nat):aj (k + 1)=ii (aj k) (fo k) (fO k) k:=rfl
theorem GK(k:Nat):fo (k + 1)=gR (aj k) (fo k) (fO k) k:=rfl
theorem qr(k:Nat):fO (k + 1)=bO (aj k) (fo k) (fO k) k:=rfl
variable {ts:List yn} {en:Int} {c p:Int}
theorem fp(hc:c≠0)(k a:Nat)(ns:List eg)(d:Int):gM (k + 1) ts (a:Int) en ns d c p=some (0,(a:Int),ns,d,c,p,()):=by rw [pL];simp only [go_sem,cw,bg,fh hc,dE hc,dR hc,b8 hc]
theorem fu(hc:c≠0)(k a:Nat)(ns:List eg)(d:Int):il (k + 2) ts (a:Int) en ns d c p=some (0,(a:Int),ns,d,c,p,()):=by rw [DC];simp only [go_sem,iw,bg,dE hc,fp hc]
theorem fl(hc:c≠0):∀(j k n a:Nat) (ns:List eg) (d:Int),n + j=7→an (k + 3 + j) ts (a:Int) en ns d c p (n:Int)=some (0,(a:Int),ns,d,c,p,())
 |0,k,n,a,ns,d,h=>by
  have:(n:Int) > 6:=by omega
  show an (k + 2 + 1) ts (a:Int) en ns d c p (n:Int)=_;rw [AY];simp only [go_sem,gL,this,fu hc]
 |j + 1,k,n,a,ns,d,h=>by
  have:¬ (n:Int) > 6:=by omega
  have hz:(c == 0)=false:=beq_eq_false_iff_ne.2 hc;show an (k + 3 + j + 1) ts (a:Int) en ns d c p (n:Int)=_;rw [AY];simp only [go_sem,gL,this,ag (show n < _ by omega),fl hc j k (n + 1) a ns d (by omega)]
  rw [show k + 3 + j=k + 2 + j + 1 by omega]
  simp only [go_sem,fv,aa,hz]
theorem fl1(hc:c≠0):Ev fun k=>∀(a:Nat) (ns:List eg) (d:Int),an k ts (a:Int) en ns d c p 1=some (0,(a:Int),ns,d,c,p,()):=
 ⟨9,fun k hk a ns d=>by rw [show k=k - 9 + 3 + 6 by omega];exact fl hc 6 (k - 9) 1 a ns d rfl⟩
variable {a d:Nat} {ns:List eg}
abbrev IJ(ts:List yn)(en:Int)(a d:Nat)(ns:List eg)(n:Nat):Prop:=Qc ts zP 1 a d ns (fun k=>aj k ts en (a:Int) (d:Int) ns (n:Int)) (fun k=>an k ts (a:Int) en ns (d:Int) 0 0 (n:Int))
abbrev UnB(ts:List yn)(en:Int)(a d:Nat)(ns:List eg):Prop:=Qc ts zP 1 a d ns (fun k=>fo k ts en (a:Int) (d:Int) ns) (fun k=>il k ts (a:Int) en ns (d:Int) 0 0)
abbrev PrB(ts:List yn)(en:Int)(a d:Nat)(ns:List eg):Prop:=Qc ts zP 1 a d ns (fun k=>fO k ts en (a:Int) (d:Int) ns) (fun k=>gM k ts (a:Int) en ns (d:Int) 0 0)
theorem kf{d:Nat}(h:d≤4000000000000000000):dP (((d + 1:Nat):Int) - 1)=(d:Int):=by rw [eK (by omega) (by omega)];omega
theorem NY(hs:oM ts)(hp:wI ts a d ns)(IH:∀ a' d' ee,a < a'→wI ts a' d' ee→IJ ts en a' d' ee 1):PrB ts en a d ns:=by
 have h7:=hs.len;obtain⟨p1,p2,p3,p4⟩:=hp;have b0:a≤4000000000000000000:=by omega
 have b1:a + 1≤4000000000000000000:=by omega
 have b2:a + 1 + 1≤4000000000000000000:=by omega
 have bn:ns.length≤4000000:=by omega
 cases ud:sY ts a 2 with
 |true=>
  have bq:=jz ud;refine⟨.ok _ (a + 1) d (ns ++ [(24,pl ts en a,(tk ts a).2.2.2,[],[])]),kx (by omega) (by omega) (by omega) (List.prefix_refl _) p4 (rM rfl (by decide)) rfl (by simp [ju]),Ev.succ (Ev.of fun k=>⟨?_,?_⟩)⟩
  ·simp only [go_sem,tx,qr,bO,am,aQ,reduceIte,bL b0,gY bn,ud]
  ·simp only [go_sem,Ka,pL,cw,bg,aP,reduceIte,ou b0,dN bn,ud]
 |false=>
 cases wa:aM ts a [42] with
 |true=>
  have bq:=bw wa;have Ht:aM ts a [40]=false:=aC wa rfl;cases hn:sY ts (a + 1) 1 with
  |true=>
   have bq:=jz hn;refine⟨.ok _ (a + 1 + 1) d (ns ++ [(27,pl ts en a,0,(tk ts (a + 1)).2.2.1,[])]),kx (by omega) (by omega) (by omega) (List.prefix_refl _) p4 (rM rfl (by decide)) rfl (by simp [ju]),Ev.succ (Ev.of fun k=>⟨?_,?_⟩)⟩
   ·simp only [go_sem,tx,qr,bO,am,aQ,reduceIte,bL b1,aI b0,gY bn,ud,wa,hn]
   ·simp only [go_sem,Ka,pL,cw,bg,aP,reduceIte,ab hs (w:=[40]) rfl b0,ab hs (w:=[42]) rfl b0,cU b1,dN bn,ud,wa,Ht,hn]
  |false=>
   refine⟨.er 6 (pl ts en (a + 1)),(show(6:Int)≠0 by decide),Ev.succ (Ev.of fun k=>⟨?_,0,a + 1,ns,d,?_⟩)⟩
   ·simp only [go_sem,tx,qr,bO,am,aQ,reduceIte,bL b1,aI b0,gY bn,ud,wa,hn]
   ·simp only [go_sem,pL,cw,bg,aP,reduceIte,ab hs (w:=[40]) rfl b0,ab hs (w:=[42]) rfl b0,cU b1,b8 (show(6:Int)≠0 by decide),ud,wa,Ht,hn]
 |false=>
 cases Ht:aM ts a [40] with
 |true=>
  have bq:=bw Ht;by_cases hd:d < 10
  ·obtain⟨r,hi,hr⟩:=IH (a + 1) (d + 1) ns (by omega) ⟨by omega,by omega,by omega,p4⟩
   cases r with
   |er c p=>
    refine⟨.er c p,hi,Ev.succ (hr.mono fun k e=>?_)⟩;obtain⟨e1,v,a',ee,d',e2⟩:=e;refine⟨?_,0 + v,a',ee,dP (d' - 1),?_⟩
    ·simp only [go_sem,tx,qr,bO,am,aQ,reduceIte,aI b0,gD p2,ud,wa,Ht,hd,show aj k ts en ((a + 1:Nat):Int) ((d + 1:Nat):Int) ns 1=_ from e1]
    ·simp only [go_sem,pL,cw,bg,aP,reduceIte,ab hs (w:=[40]) rfl b0,lu p2,ud,Ht,hd,show an k ts ((a + 1:Nat):Int) en ns ((d + 1:Nat):Int) 0 0 1=_ from e2,cM (show c≠0 from hi),Int.zero_add]
   |ok v a' d' ee=>
    obtain⟨q1,q2,rfl,q3,q4,q5,q6,q7,q8,q9⟩:=hi;have b4:a'≤4000000000000000000:=by omega
    cases l7:aM ts a' [41] with
    |true=>
     have Fp:=bw l7;refine⟨.ok v (a' + 1) d ee,⟨by omega,by omega,rfl,by omega,q4,q5,q6,q7,q8,q9⟩,Ev.succ (hr.mono fun k e=>⟨?_,?_⟩)⟩
     ·simp only [go_sem,tx,qr,bO,am,aQ,reduceIte,aI b0,aL b4,gD p2,ud,wa,Ht,hd,l7,show aj k ts en ((a + 1:Nat):Int) ((d + 1:Nat):Int) ns 1=_ from e.1,kf (show d≤_ by omega)]
     ·simp only [go_sem,Ka,pL,cw,bg,aP,reduceIte,ab hs (w:=[40]) rfl b0,lu p2,ai hs (w:=[41]) rfl b4,ud,Ht,hd,l7,show an k ts ((a + 1:Nat):Int) en ns ((d + 1:Nat):Int) 0 0 1=_ from e.2,kf (show d≤_ by omega)]
    |false=>
     refine⟨.er 6 (pl ts en a'),(show(6:Int)≠0 by decide),Ev.succ (hr.mono fun k e=>⟨?_,v,a',ee,d,?_⟩)⟩
     ·simp only [go_sem,tx,qr,bO,am,aQ,reduceIte,aI b0,aL b4,gD p2,ud,wa,Ht,hd,l7,show aj k ts en ((a + 1:Nat):Int) ((d + 1:Nat):Int) ns 1=_ from e.1]
     ·simp only [go_sem,pL,cw,bg,aP,reduceIte,ab hs (w:=[40]) rfl b0,lu p2,ai hs (w:=[41]) rfl b4,ud,Ht,hd,l7,show an k ts ((a + 1:Nat):Int) en ns ((d + 1:Nat):Int) 0 0 1=_ from e.2,kf (show d≤_ by omega)]
  ·refine⟨.er 7 (pl ts en (a + 1)),(show(7:Int)≠0 by decide),Ev.succ (Ev.of fun k=>⟨?_,0,a + 1,ns,((d + 1:Nat):Int),?_⟩)⟩
   ·simp only [go_sem,tx,qr,bO,am,aQ,reduceIte,aI b0,gD p2,ud,wa,Ht,hd]
   ·simp only [go_sem,pL,cw,bg,aP,reduceIte,ab hs (w:=[40]) rfl b0,lu p2,ud,Ht,hd]
 |false=>
 cases hn:sY ts a 1 with
 |false=>
  refine⟨.er 6 (pl ts en a),(show(6:Int)≠0 by decide),Ev.succ (Ev.of fun k=>⟨?_,0,a,ns,d,?_⟩)⟩
  ·simp only [go_sem,tx,qr,bO,am,aQ,reduceIte,bL b0,aI b0,ud,wa,Ht,hn]
  ·simp only [go_sem,pL,cw,bg,aP,reduceIte,ab hs (w:=[40]) rfl b0,ab hs (w:=[42]) rfl b0,cU b0,dE (show(6:Int)≠0 by decide),b8 (show(6:Int)≠0 by decide),ud,wa,Ht,hn]
 |true=>
 have bq:=jz hn;cases pP:aM ts (a + 1) [91] with
 |false=>
  refine⟨.ok _ (a + 1) d (ns ++ [(25,pl ts en a,0,(tk ts a).2.2.1,[])]),kx (by omega) (by omega) (by omega) (List.prefix_refl _) p4 (rM rfl (by decide)) rfl (by simp [ju]),Ev.succ (Ev.of fun k=>⟨?_,?_⟩)⟩
  ·simp only [go_sem,tx,qr,bO,am,aQ,reduceIte,bL b0,aI b0,aI b1,gY bn,ud,wa,Ht,hn,pP]
  ·simp only [go_sem,Ka,pL,cw,bg,aP,reduceIte,ab hs (w:=[40]) rfl b0,ab hs (w:=[42]) rfl b0,ab hs (w:=[91]) rfl b1,cU b0,dN bn,ud,wa,Ht,hn,pP]
 |true=>
 have Lg:=bw pP;by_cases hd:d < 10
 ·obtain⟨r,hi,hr⟩:=IH (a + 1 + 1) (d + 1) ns (by omega) ⟨by omega,by omega,by omega,p4⟩
  cases r with
  |er c p=>
   refine⟨.er c p,hi,Ev.succ (hr.mono fun k e=>?_)⟩;obtain⟨e1,v,a',ee,d',e2⟩:=e;refine⟨?_,0,a',ee,dP (d' - 1),?_⟩
   ·simp only [go_sem,tx,qr,bO,am,aQ,reduceIte,bL b0,aI b0,aI b1,gD p2,ud,wa,Ht,hn,pP,hd,show aj k ts en ((a + 1 + 1:Nat):Int) ((d + 1:Nat):Int) ns 1=_ from e1]
   ·simp only [go_sem,pL,cw,bg,aP,reduceIte,ab hs (w:=[40]) rfl b0,ab hs (w:=[42]) rfl b0,ab hs (w:=[91]) rfl b1,cU b0,lu p2,ud,wa,Ht,hn,pP,hd,show an k ts ((a + 1 + 1:Nat):Int) en ns ((d + 1:Nat):Int) 0 0 1=_ from e2,cM (show c≠0 from hi),b8 (show c≠0 from hi)]
  |ok v a' d' ee=>
   obtain⟨q1,q2,rfl,q3,q4,q5,q6,q7,q8,q9⟩:=hi;have b4:a'≤4000000000000000000:=by omega
   have KA:ee.length≤4000000:=by omega
   cases l7:aM ts a' [93] with
   |true=>
    have Fp:=bw l7;refine⟨.ok _ (a' + 1) d (ee ++ [(26,pl ts en a,0,(tk ts a).2.2.1,[v])]),kx (by omega) (by omega) (by omega) q4 q5 ⟨by simp;omega,by simpa [bZ] using q8,by simp⟩ rfl (by rw [oC];exact q9),Ev.succ (hr.mono fun k e=>⟨?_,?_⟩)⟩
    ·simp only [go_sem,tx,qr,bO,am,aQ,reduceIte,bL b0,aI b0,aI b1,aL b4,gY KA,gD p2,ud,wa,Ht,hn,pP,hd,l7,show aj k ts en ((a + 1 + 1:Nat):Int) ((d + 1:Nat):Int) ns 1=_ from e.1,kf (show d≤_ by omega)]
    ·simp only [go_sem,Ka,pL,cw,bg,aP,reduceIte,ab hs (w:=[40]) rfl b0,ab hs (w:=[42]) rfl b0,ab hs (w:=[91]) rfl b1,cU b0,lu p2,ai hs (w:=[93]) rfl b4,dN KA,ud,wa,Ht,hn,pP,hd,l7,show an k ts ((a + 1 + 1:Nat):Int) en ns ((d + 1:Nat):Int) 0 0 1=_ from e.2,kf (show d≤_ by omega)]
   |false=>
    refine⟨.er 6 (pl ts en a'),(show(6:Int)≠0 by decide),Ev.succ (hr.mono fun k e=>⟨?_,0,a',ee,d,?_⟩)⟩
    ·simp only [go_sem,tx,qr,bO,am,aQ,reduceIte,bL b0,aI b0,aI b1,aL b4,gD p2,ud,wa,Ht,hn,pP,hd,l7,show aj k ts en ((a + 1 + 1:Nat):Int) ((d + 1:Nat):Int) ns 1=_ from e.1]
    ·simp only [go_sem,pL,cw,bg,aP,reduceIte,ab hs (w:=[40]) rfl b0,ab hs (w:=[42]) rfl b0,ab hs (w:=[91]) rfl b1,cU b0,lu p2,ai hs (w:=[93]) rfl b4,b8 (show(6:Int)≠0 by decide),ud,wa,Ht,hn,pP,hd,l7,show an k ts ((a + 1 + 1:Nat):Int) en ns ((d + 1:Nat):Int) 0 0 1=_ from e.2,kf (show d≤_ by omega)]
 ·refine⟨.er 7 (pl ts en (a + 1 + 1)),(show(7:Int)≠0 by decide),Ev.succ (Ev.of fun k=>⟨?_,0,a + 1 + 1,ns,((d + 1:Nat):Int),?_⟩)⟩
  ·simp only [go_sem,tx,qr,bO,am,aQ,reduceIte,bL b0,aI b0,aI b1,gD p2,ud,wa,Ht,hn,pP,hd]
  ·simp only [go_sem,pL,cw,bg,aP,reduceIte,ab hs (w:=[40]) rfl b0,ab hs (w:=[42]) rfl b0,ab hs (w:=[91]) rfl b1,cU b0,lu p2,ud,wa,Ht,hn,pP,hd]
end
theorem wH.from{ts:List yn}{C:Int→Bool}{s s0 a d a1:Nat}{ns pQ:List eg}{v:Int}{a' d':Nat}{ee:List eg}{w0 w1:Nat}(h:wH ts C s a1 d pQ v a' d' ee w1)(lo:a + s0≤a1 + s)(ln:pQ.length + 2 * a≤ns.length + 2 * a1)
  (pre:ns <+: pQ) (hw:w1 + ns.length≤pQ.length + w0):wH ts C s0 a d ns v a' d' ee w0:=
 let⟨h1,h2,h3,h4,h5,h6,h7,h8,h9,h10⟩:=h;⟨by omega,h2,h3,by omega,pre.trans h5,h6,h7,h8,h9,by omega⟩
theorem Inv.from{ts:List yn}{C:Int→Bool}{s s0 a d a1:Nat}{ns pQ:List eg}{r:Res}{w0 w1:Nat}(h:Inv ts C s a1 d pQ r w1)(lo:a + s0≤a1 + s)(ln:pQ.length + 2 * a≤ns.length + 2 * a1)(pre:ns <+: pQ)(hw:w1 + ns.length≤pQ.length + w0):Inv ts C s0 a d ns r w0:=by
 cases r with
 |er c p=>exact h
 |ok v a' d' ee=>exact wH.from h lo ln pre hw
def GI(r:Res)(o:Option ((Int×Int×List eg×Int×Unit)⊕(Int×Int×Unit))):Prop:=match r with
 |.ok v a d ns=>o=some (.inl ((a:Int),(d:Int),ns,v,()))
 |.er c p=>o=some (.inr (c,p,()))
def Pc(r:Res)(o:Option (Int×List eg×Int×Int×Int×Int×Unit)):Prop:=match r with
 |.ok v a d ns=>o=some ((a:Int),ns,(d:Int),0,0,v,())
 |.er c p=>∃(v:Int) (a:Nat) (ns:List eg) (d:Int),o=some ((a:Int),ns,d,c,p,v,())
section
variable {ts:List yn} {en:Int} {a d:Nat} {ns:List eg}
theorem UM(hs:oM ts)(hp:wI ts a d ns)(IH:∀ a' d' ee,a < a'→wI ts a' d' ee→UnB ts en a' d' ee)(PR:PrB ts en a d ns):UnB ts en a d ns:=by
 have h7:=hs.len;obtain⟨p1,p2,p3,p4⟩:=hp;have b0:a≤4000000000000000000:=by omega
 have bn:ns.length≤4000000:=by omega
 cases hm:aM ts a [45] with
 |false=>
  obtain⟨r,hi,hr⟩:=PR;refine⟨r,hi,Ev.succ (hr.mono fun k e=>?_)⟩;cases r with
  |er c p=>
   obtain⟨e1,v,a',ee,d',e2⟩:=e;refine⟨?_,v,a',ee,d',?_⟩
   ·simp only [go_sem,tx,GK,gR,am,aQ,reduceIte,aI b0,hm,show fO k ts en (a:Int) (d:Int) ns=_ from e1]
   ·simp only [go_sem,DC,iw,bg,aP,reduceIte,ab hs (w:=[45]) rfl b0,hm,show gM k ts (a:Int) en ns (d:Int) 0 0=_ from e2]
  |ok v a' d' ee=>
   refine⟨?_,?_⟩
   ·simp only [go_sem,tx,GK,gR,am,aQ,reduceIte,aI b0,hm,show fO k ts en (a:Int) (d:Int) ns=_ from e.1]
   ·simp only [go_sem,Ka,DC,iw,bg,aP,reduceIte,ab hs (w:=[45]) rfl b0,hm,show gM k ts (a:Int) en ns (d:Int) 0 0=_ from e.2]
 |true=>
 have bq:=bw hm;by_cases hd:d < 10
 ·obtain⟨r,hi,hr⟩:=IH (a + 1) (d + 1) (ns ++ [(24,pl ts en a,0,[],[])]) (by omega) ⟨by omega,by omega,by simp;omega,p4.add (rM rfl (by decide))⟩
  cases r with
  |er c p=>
   refine⟨.er c p,hi,Ev.succ (hr.mono fun k e=>?_)⟩;obtain⟨e1,v,a',ee,d',e2⟩:=e;refine⟨?_,0,a',ee,dP (d' - 1),?_⟩
   ·simp only [go_sem,tx,GK,gR,am,aQ,reduceIte,aI b0,gD p2,gY bn,hm,hd,show fo k ts en ((a + 1:Nat):Int) ((d + 1:Nat):Int) (ns ++ [(24,pl ts en a,0,[],[])])=_ from e1]
   ·simp only [go_sem,DC,iw,bg,aP,reduceIte,ab hs (w:=[45]) rfl b0,lu p2,dN bn,hm,hd,show il k ts ((a + 1:Nat):Int) en (ns ++ [(24,pl ts en a,0,[],[])]) ((d + 1:Nat):Int) 0 0=_ from e2,b8 (show c≠0 from hi)]
  |ok v a' d' ee=>
   obtain⟨q1,q2,rfl,q3,q4,q5,q6,q7,q8,q9⟩:=hi;simp only [List.length_append,List.length_cons,List.length_nil] at q3 q9;have wz:wt ee (ns.length:Int)=1:=by rw [qQ q4 (by omega) (by simp;omega),nJ];rfl
   have KA:ee.length≤4000000:=by omega
   have qz:kd ee (ns.length:Int)=24:=by rw [pX q4 (by omega) (by simp;omega),qs]
   have ql:ns.length < ee.length:=by have:=q4.length_le;simp at this;omega
   refine⟨.ok _ a' d (ee ++ [(28,pl ts en a,2,[],[(ns.length:Int),v])]),kx (by omega) (by omega) (by omega) ((List.prefix_append _ _).trans q4) q5 ⟨by simp;omega,by simpa [bZ,qz,zP] using q8,by simp⟩ rfl (by rw [xd,wz];omega),Ev.succ (hr.mono fun k e=>⟨?_,?_⟩)⟩
   ·simp only [go_sem,tx,GK,gR,am,aQ,reduceIte,aI b0,gD p2,gY bn,gY KA,hm,hd,show fo k ts en ((a + 1:Nat):Int) ((d + 1:Nat):Int) (ns ++ [(24,pl ts en a,0,[],[])])=_ from e.1,kf (show d≤_ by omega)]
   ·simp only [go_sem,Ka,DC,iw,bg,aP,reduceIte,ab hs (w:=[45]) rfl b0,lu p2,dN bn,dN KA,hm,hd,show il k ts ((a + 1:Nat):Int) en (ns ++ [(24,pl ts en a,0,[],[])]) ((d + 1:Nat):Int) 0 0=_ from e.2,kf (show d≤_ by omega)]
 ·refine⟨.er 7 (pl ts en (a + 1)),(show(7:Int)≠0 by decide),Ev.succ (Ev.of fun k=>⟨?_,0,a + 1,ns,((d + 1:Nat):Int),?_⟩)⟩
  ·simp only [go_sem,tx,GK,gR,am,aQ,reduceIte,aI b0,gD p2,hm,hd]
  ·simp only [go_sem,DC,iw,bg,aP,reduceIte,ab hs (w:=[45]) rfl b0,lu p2,hm,hd]
theorem SP(hs:oM ts){n:Nat}(n1:1≤n)(n6:n≤6){a0:Nat}(IH:∀ a' ee,a0≤a'→wI ts a' d ee→IJ ts en a' d ee (n + 1)):∀ m a (ns:List eg) (x:Int),ts.length - a≤m→a0≤a→wI ts a d ns→0≤x→x < ns.length→zP (kd ns x)=true→
  ∃ r,Inv ts zP 0 a d ns r (wt ns x)∧cm fun q k=>GI r (dK (aj q) (fo q) (fO q) q k ts en (n:Int) (a:Int) (d:Int) ns x)∧
   Pc r (fv (an q) (il q) (gM q) q k ts en (n:Int) (a:Int) ns (d:Int) 0 0 x):=by
 have h7:=hs.len;intro m;induction m with
 |zero=>
  intro a ns x hm h0 hp x0 x1 x2;have bq:¬ a < ts.length:=by omega
  refine⟨.ok x a d ns,⟨by omega,hp.hi,rfl,by omega,List.prefix_refl _,hp.all,x0,x1,x2,by omega⟩,cm.succ (cm.of fun q k=>⟨?_,?_⟩)⟩
  ·simp only [go_sem,GI,dK,Int.ofNat_lt,bq]
  ·simp only [go_sem,Pc,fv,aa,FH,Ti bq,Zr [] n n1 n6,show LJ []=0 from rfl,ne_eq,not_true,false_and,ite_false]
 |succ m ih=>
  intro a ns x hm h0 hp x0 x1 x2;obtain⟨p1,p2,p3,p4⟩:=hp;by_cases mb:LJ (sg ts a)≠0∧lvF (LJ (sg ts a))=n
  ·have bq:a < ts.length:=by
    by_cases h:a < ts.length
    ·exact h
    ·rw [Ti h] at mb;exact absurd rfl mb.1
   have hz:(LJ (sg ts a) == 0)=false:=beq_eq_false_iff_ne.2 mb.1;have hl:(lvF (LJ (sg ts a)) != (n:Int))=false:=by rw [mb.2];simp
   obtain⟨r,hi,hr⟩:=IH (a + 1) ns (by omega) ⟨by omega,by omega,by omega,p4⟩
   cases r with
   |er c p=>
    have hc:(c == 0)=false:=beq_eq_false_iff_ne.2 hi;refine⟨.er c p,hi,cm.succ (cm.succ ((hr.tw.and (abd (tk ts a).2.2.1).tw).mono fun q k e=>?_))⟩;obtain⟨⟨e1,v,a',ee,d',e2⟩,e3⟩:=e;refine⟨?_,0,a',ee,d',?_⟩
    ·simp only [go_sem,GI,dK,aa,Int.ofNat_lt,bq,bh (im bq),e3,Ui hs bq,hz,abb,hl,am,ag (show a < _ by omega),ag (show n < _ by omega),show aj q ts en ((a + 1:Nat):Int) (d:Int) ns ((n + 1:Nat):Int)=_ from e1]
    ·simp only [go_sem,fv,aa,FH,bg,Zr _ n n1 n6,if_pos mb,bne,hz,hc,ag (show a < _ by omega),ag (show n < _ by omega),show an q ts ((a + 1:Nat):Int) en ns (d:Int) 0 0 ((n + 1:Nat):Int)=_ from e2,b8 (show c≠0 from hi)]
   |ok y a1 d1 mE=>
    obtain⟨q1,q2,rfl,q3,q4,q5,q6,q7,q8,q9⟩:=hi;have KA:mE.length≤4000000:=by omega
    have xk:kd mE x=kd ns x:=pX q4 x0 x1;have ql:=q4.length_le;have QW:nK mE mE.length (28,pl ts en a,LJ (sg ts a),[],[x,y]):=⟨by simp;omega,by simp [bZ,xk,x2,q8],by simp⟩
    obtain⟨r,gi,gr⟩:=ih a1 (mE ++ [(28,pl ts en a,LJ (sg ts a),[],[x,y])]) (mE.length:Int) (by omega) (by omega) ⟨by omega,by omega,by simp;omega,q5.add QW⟩ (by omega) (by simp;omega) (by rw [qs];rfl)
    refine⟨r,gi.from (by omega) (by simp;omega) (q4.trans (List.prefix_append _ _)) (by rw [nJ,xd,qQ q4 x0 x1];simp;omega),cm.succ (((hr.tw.and (abd (tk ts a).2.2.1).tw).and gr).mono fun q k e=>?_)⟩
    obtain⟨⟨⟨e1,e2⟩,e3⟩,e4,e5⟩:=e;refine⟨?_,?_⟩
    ·simp only [go_sem,dK,aa,Int.ofNat_lt,bq,bh (im bq),e3,Ui hs bq,hz,abb,hl,am,ag (show a < _ by omega),ag (show n < _ by omega),show aj q ts en ((a + 1:Nat):Int) (d1:Int) ns ((n + 1:Nat):Int)=_ from e1,gY KA]
     exact e4
    ·simp only [go_sem,fv,aa,FH,bg,Zr _ n n1 n6,if_pos mb,bne,hz,ag (show a < _ by omega),ag (show n < _ by omega),show an q ts ((a + 1:Nat):Int) en ns (d1:Int) 0 0 ((n + 1:Nat):Int)=_ from e2,dN KA]
     exact e5
  ·refine⟨.ok x a d ns,⟨by omega,p1,rfl,by omega,List.prefix_refl _,p4,x0,x1,x2,by omega⟩,cm.succ ((abd (tk ts a).2.2.1).tw.mono fun q k e=>⟨?_,?_⟩)⟩
   ·by_cases bq:a < ts.length
    ·by_cases hz:LJ (sg ts a)=0
     ·simp only [go_sem,GI,dK,aa,Int.ofNat_lt,bq,bh (im bq),e,Ui hs bq,hz]
     ·have hl:(lvF (LJ (sg ts a)) != (n:Int))=true:=by
       rw [bne_iff_ne];exact fun h=>mb ⟨hz,h⟩
      simp only [go_sem,GI,dK,aa,Int.ofNat_lt,bq,bh (im bq),e,Ui hs bq,beq_eq_false_iff_ne.2 hz,abb,hl]
    ·simp only [go_sem,GI,dK,Int.ofNat_lt,bq]
   ·simp only [go_sem,Pc,fv,aa,FH,Zr _ n n1 n6,if_neg mb]
theorem SO(hs:oM ts){n:Nat}(n1:1≤n)(n6:n≤6)(hp:wI ts a d ns)(IH:∀ a' ee,a≤a'→wI ts a' d ee→IJ ts en a' d ee (n + 1)):IJ ts en a d ns n:=by
 have h7:=hs.len;have n7:¬ (n:Int) > 6:=by omega
 obtain⟨r,hi,hr⟩:=IH a ns (Nat.le_refl _) hp;obtain⟨p1,p2,p3,p4⟩:=hp;cases r with
 |er c p=>
  have hc:(c == 0)=false:=beq_eq_false_iff_ne.2 hi;refine⟨.er c p,hi,Ev.succ ((hr.and ⟨1,fun k hk=>hk⟩).mono fun k e=>?_)⟩;obtain⟨⟨e1,v,a',ee,d',e2⟩,hk⟩:=e;obtain⟨j,rfl⟩:∃ j,k=j + 1:=⟨k - 1,by omega⟩
  refine⟨?_,v,a',ee,d',?_⟩
  ·simp only [go_sem,tx,GH (j + 1),ii,n7,ag (show n < _ by omega),show aj (j + 1) ts en (a:Int) (d:Int) ns ((n + 1:Nat):Int)=_ from e1]
  ·simp only [go_sem,AY (j + 1),gL,n7,ag (show n < _ by omega),show an (j + 1) ts (a:Int) en ns (d:Int) 0 0 ((n + 1:Nat):Int)=_ from e2,fv,aa,hc]
 |ok x a1 d1 mE=>
  obtain⟨q1,q2,rfl,q3,q4,q5,q6,q7,q8,q9⟩:=hi;obtain⟨r,gi,gr⟩:=SP hs n1 n6 IH _ a1 mE x (Nat.le_refl _) (by omega) ⟨q2,p2,by omega,q5⟩ q6 q7 q8
  refine⟨r,gi.from (by omega) q3 q4 q9,Ev.succ ((hr.and gr.jI).mono fun k e=>?_)⟩
  obtain⟨⟨e1,e2⟩,e3,e4⟩:=e;cases r with
  |er c p=>
   obtain⟨v,a',ee,d',e4⟩:=e4;refine⟨?_,v,a',ee,d',?_⟩
   ·simp only [go_sem,tx,GH,ii,n7,ag (show n < _ by omega),show aj k ts en (a:Int) (d1:Int) ns ((n + 1:Nat):Int)=_ from e1]
    simp only [go_sem,show dK _ _ _ k k ts en (n:Int) (a1:Int) (d1:Int) mE x=_ from e3]
   ·simp only [go_sem,AY,gL,n7,ag (show n < _ by omega),show an k ts (a:Int) en ns (d1:Int) 0 0 ((n + 1:Nat):Int)=_ from e2,e4]
  |ok v a' d' ee=>
   refine⟨?_,?_⟩
   ·simp only [go_sem,tx,GH,ii,n7,ag (show n < _ by omega),show aj k ts en (a:Int) (d1:Int) ns ((n + 1:Nat):Int)=_ from e1]
    simp only [go_sem,show dK _ _ _ k k ts en (n:Int) (a1:Int) (d1:Int) mE x=_ from e3]
   ·simp only [go_sem,Ka,AY,gL,n7,ag (show n < _ by omega),show an k ts (a:Int) en ns (d1:Int) 0 0 ((n + 1:Nat):Int)=_ from e2,show fv _ _ _ k k ts en (n:Int) (a1:Int) mE (d1:Int) 0 0 x=_ from e4]
theorem abg(U:UnB ts en a d ns):IJ ts en a d ns 7:=by
 obtain⟨r,hi,hr⟩:=U;have n7:((7:Nat):Int) > 6:=by omega
 refine⟨r,hi,Ev.succ (hr.mono fun k e=>?_)⟩;obtain⟨e1,e2⟩:=e;cases r with
 |er c p=>
  obtain⟨v,a',ee,d',e2⟩:=e2;refine⟨?_,v,a',ee,d',?_⟩
  ·simp only [go_sem,tx,GH,ii,n7,show fo k ts en (a:Int) (d:Int) ns=_ from e1]
  ·simp only [go_sem,AY,gL,n7,e2]
 |ok v a' d' ee=>
  refine⟨?_,?_⟩
  ·simp only [go_sem,tx,GH,ii,n7,show fo k ts en (a:Int) (d:Int) ns=_ from e1]
  ·simp only [go_sem,Ka,AY,gL,n7,show il k ts (a:Int) en ns (d:Int) 0 0=_ from e2]
theorem SQ(hs:oM ts){a:Nat}(U:∀ a' d ns,a≤a'→wI ts a' d ns→UnB ts en a' d ns):∀ j n,n + j=7→1≤n→∀ a' d ns,a≤a'→wI ts a' d ns→IJ ts en a' d ns n
 |0,n,h,h1,a',d,ns,ha,hp=>by
  obtain rfl:n=7:=by omega
  exact abg (U a' d ns ha hp)
 |j + 1,n,h,h1,a',d,ns,ha,hp=>SO hs h1 (by omega) hp fun a2 pQ h2 p2=>SQ hs U j (n + 1) (by omega) (by omega) a2 d pQ (by omega) p2
theorem adq(hs:oM ts):∀ m a,ts.length - a≤m→∀ a',a≤a'→∀ d ns,wI ts a' d ns→UnB ts en a' d ns∧IJ ts en a' d ns 1:=by
 intro m;induction m with
 |zero=>
  intro a hm a' ha d ns hp;have key:∀ a',a≤a'→∀ d ns,wI ts a' d ns→UnB ts en a' d ns:=fun a' ha d ns hp=>
   UM hs hp (fun a2 d2 pQ h2 p2=>by have:=p2.hi;have:=hp.hi;omega) (NY hs hp fun a2 d2 pQ h2 p2=>by have:=p2.hi;have:=hp.hi;omega)
  exact⟨key a' ha d ns hp,SQ hs (a:=a) (fun a' d ns ha hp=>key a' ha d ns hp) 6 1 rfl (by omega) a' d ns ha hp⟩
 |succ m ih=>
  intro a hm a' ha d ns hp;have key:∀ a',a≤a'→∀ d ns,wI ts a' d ns→UnB ts en a' d ns:=fun a' ha d ns hp=>
   UM hs hp (fun a2 d2 pQ h2 p2=>(ih (a + 1) (by omega) a2 (by omega) d2 pQ p2).1) (NY hs hp fun a2 d2 pQ h2 p2=>(ih (a + 1) (by omega) a2 (by omega) d2 pQ p2).2)
  exact⟨key a' ha d ns hp,SQ hs (a:=a) (fun a' d ns ha hp=>key a' ha d ns hp) 6 1 rfl (by omega) a' d ns ha hp⟩
theorem Ak(hs:oM ts)(hp:wI ts a d ns):IJ ts en a d ns 1:=(adq hs _ a (Nat.le_refl _) a (Nat.le_refl _) d ns hp).2
end
end Go.Fx.R5
namespace Go.Fx.R5
open Go Go.Fx
section
theorem AW(k:Nat):dO (k + 1)=lB (dO k) (gf k) (fd k) k:=rfl
theorem AV(k:Nat):gf (k + 1)=lz (dO k) (gf k) (fd k) k:=rfl
theorem jR(k:Nat):fd (k + 1)=dw (dO k) (gf k) (fd k) k:=rfl
theorem Ft(k:Nat):dH (k + 1)=kr (dH k) (eI k) (dI k) k:=rfl
theorem Fr(k:Nat):eI (k + 1)=kq (dH k) (eI k) (dI k) k:=rfl
theorem jL(k:Nat):dI (k + 1)=cu (dH k) (eI k) (dI k) k:=rfl
variable {ts:List yn} {en:Int} {c p:Int}
theorem aaN(hc:c≠0):Ev fun k=>∀(a:Nat) (ns:List eg) (d:Int),fd k ts (a:Int) en ns d c p=some (0,(a:Int),ns,d,c,p,()):=by refine Ev.succ ((fl1 (ts:=ts) (en:=en) (p:=p) hc).mono fun k e a ns d=>?_);rw [jR];simp only [go_sem,dw,bg,dE hc,e,Wp hc,RX,show Gn []=0 from rfl,eS hc]
theorem aaM(hc:c≠0):Ev fun k=>∀(a:Nat) (ns:List eg) (d:Int),gf k ts (a:Int) en ns d c p=some (0,(a:Int),ns,d,c,p,()):=by
 refine Ev.succ (((aaN (ts:=ts) (en:=en) (p:=p) hc).and ⟨1,fun k hk=>hk⟩).mono fun k e a ns d=>?_);obtain⟨e,hk⟩:=e;obtain⟨j,rfl⟩:∃ j,k=j + 1:=⟨k - 1,by omega⟩
 rw [AV];simp only [go_sem,lz,e,fU,lq hc]
theorem Wo(hc:c≠0):Ev fun k=>∀(a:Nat) (ns:List eg) (d:Int),dO k ts (a:Int) en ns d c p=some (0,(a:Int),ns,d,c,p,()):=by
 refine Ev.succ (((aaM (ts:=ts) (en:=en) (p:=p) hc).and ⟨1,fun k hk=>hk⟩).mono fun k e a ns d=>?_);obtain⟨e,hk⟩:=e;obtain⟨j,rfl⟩:∃ j,k=j + 1:=⟨k - 1,by omega⟩
 rw [AW];simp only [go_sem,lB,e,fV,lq hc]
variable {a d:Nat} {ns:List eg}
abbrev CdB(ts:List yn)(en:Int)(a d:Nat)(ns:List eg):Prop:=Qc ts sw 1 a d ns (fun k=>dH k ts en (a:Int) (d:Int) ns) (fun k=>dO k ts (a:Int) en ns (d:Int) 0 0)
abbrev BoB(ts:List yn)(en:Int)(a d:Nat)(ns:List eg):Prop:=Qc ts sw 1 a d ns (fun k=>eI k ts en (a:Int) (d:Int) ns) (fun k=>gf k ts (a:Int) en ns (d:Int) 0 0)
abbrev LaB(ts:List yn)(en:Int)(a d:Nat)(ns:List eg):Prop:=Qc ts sw 1 a d ns (fun k=>dI k ts en (a:Int) (d:Int) ns) (fun k=>fd k ts (a:Int) en ns (d:Int) 0 0)
theorem UT(hs:oM ts){a0:Nat}(IH:∀ a' ee,a0≤a'→wI ts a' d ee→LaB ts en a' d ee):∀ m a (ns:List eg) (x:Int),ts.length - a≤m→a0≤a→wI ts a d ns→0≤x→x < ns.length→sw (kd ns x)=true→
  ∃ r,Inv ts sw 0 a d ns r (wt ns x)∧cm fun q k=>GI r (eY (dH q) (eI q) (dI q) q k ts en (a:Int) (d:Int) ns x)∧
   Pc r (fU (dO q) (gf q) (fd q) q k ts en (a:Int) ns (d:Int) 0 0 x):=by
 have h7:=hs.len;intro m;induction m with
 |zero=>
  intro a ns x hm h0 hp x0 x1 x2;have Id:aM ts a [97,110,100]=false:=by
   cases h:aM ts a [97,110,100] with
   |false=>rfl
   |true=>have:=bw h;omega
  have b0:a≤4000000000000000000:=by have:=hp.hi;omega
  refine⟨.ok x a d ns,⟨by omega,hp.hi,rfl,by omega,List.prefix_refl _,hp.all,x0,x1,x2,by omega⟩,cm.succ (cm.of fun q k=>⟨?_,?_⟩)⟩
  ·simp only [go_sem,GI,eY,rU b0,Id]
  ·simp only [go_sem,Pc,fU,bX hs (w:=[97,110,100]) rfl,Id]
 |succ m ih=>
  intro a ns x hm h0 hp x0 x1 x2;obtain⟨p1,p2,p3,p4⟩:=hp;have b0:a≤4000000000000000000:=by omega
  cases Id:aM ts a [97,110,100] with
  |true=>
   have bq:=bw Id;obtain⟨r,hi,hr⟩:=IH (a + 1) ns (by omega) ⟨by omega,by omega,by omega,p4⟩
   cases r with
   |er c p=>
    refine⟨.er c p,hi,cm.succ (cm.succ (hr.tw.mono fun q k e=>?_))⟩;obtain⟨e1,v,a',ee,d',e2⟩:=e;refine⟨?_,0,a',ee,d',?_⟩
    ·simp only [go_sem,GI,eY,rU b0,Id,am,ag (show a < _ by omega),show dI q ts en ((a + 1:Nat):Int) (d:Int) ns=_ from e1]
    ·simp only [go_sem,fU,bX hs (w:=[97,110,100]) rfl,Id,bg,ag (show a < _ by omega),show fd q ts ((a + 1:Nat):Int) en ns (d:Int) 0 0=_ from e2,b8 (show c≠0 from hi),lq (show c≠0 from hi)]
   |ok y a1 d1 mE=>
    obtain⟨q1,q2,rfl,q3,q4,q5,q6,q7,q8,q9⟩:=hi;have KA:mE.length≤4000000:=by omega
    have xk:kd mE x=kd ns x:=pX q4 x0 x1;have ql:=q4.length_le;have QW:nK mE mE.length (31,pl ts en a,0,[],[x,y]):=⟨by simp;omega,by simp [bZ,xk,x2,q8],by simp⟩
    obtain⟨r,gi,gr⟩:=ih a1 (mE ++ [(31,pl ts en a,0,[],[x,y])]) (mE.length:Int) (by omega) (by omega) ⟨by omega,by omega,by simp;omega,q5.add QW⟩ (by omega) (by simp;omega) (by rw [qs];rfl)
    refine⟨r,gi.from (by omega) (by simp;omega) (q4.trans (List.prefix_append _ _)) (by rw [nJ,xd,qQ q4 x0 x1];simp;omega),cm.succ ((hr.tw.and gr).mono fun q k e=>?_)⟩
    obtain⟨⟨e1,e2⟩,e4,e5⟩:=e;refine⟨?_,?_⟩
    ·simp only [go_sem,eY,rU b0,Id,am,ag (show a < _ by omega),show dI q ts en ((a + 1:Nat):Int) (d1:Int) ns=_ from e1,gY KA]
     exact e4
    ·simp only [go_sem,fU,bX hs (w:=[97,110,100]) rfl,Id,bg,ag (show a < _ by omega),show fd q ts ((a + 1:Nat):Int) en ns (d1:Int) 0 0=_ from e2,dN KA]
     exact e5
  |false=>
   refine⟨.ok x a d ns,⟨by omega,p1,rfl,by omega,List.prefix_refl _,p4,x0,x1,x2,by omega⟩,cm.succ (cm.of fun q k=>⟨?_,?_⟩)⟩
   ·simp only [go_sem,GI,eY,rU b0,Id]
   ·simp only [go_sem,Pc,fU,bX hs (w:=[97,110,100]) rfl,Id]
theorem Na(hs:oM ts)(hp:wI ts a d ns)(IH:∀ a' ee,a≤a'→wI ts a' d ee→LaB ts en a' d ee):BoB ts en a d ns:=by
 have h7:=hs.len;obtain⟨r,hi,hr⟩:=IH a ns (Nat.le_refl _) hp;obtain⟨p1,p2,p3,p4⟩:=hp;cases r with
 |er c p=>
  refine⟨.er c p,hi,Ev.succ ((hr.and ⟨1,fun k hk=>hk⟩).mono fun k e=>?_)⟩;obtain⟨⟨e1,v,a',ee,d',e2⟩,hk⟩:=e;obtain⟨j,rfl⟩:∃ j,k=j + 1:=⟨k - 1,by omega⟩
  refine⟨?_,v,a',ee,d',?_⟩
  ·simp only [go_sem,tx,Fr (j + 1),kq,show dI (j + 1) ts en (a:Int) (d:Int) ns=_ from e1]
  ·simp only [go_sem,AV (j + 1),lz,show fd (j + 1) ts (a:Int) en ns (d:Int) 0 0=_ from e2,fU,lq (show c≠0 from hi)]
 |ok x a1 d1 mE=>
  obtain⟨q1,q2,rfl,q3,q4,q5,q6,q7,q8,q9⟩:=hi;obtain⟨r,gi,gr⟩:=UT hs IH _ a1 mE x (Nat.le_refl _) (by omega) ⟨q2,p2,by omega,q5⟩ q6 q7 q8
  refine⟨r,gi.from (by omega) q3 q4 q9,Ev.succ ((hr.and gr.jI).mono fun k e=>?_)⟩
  obtain⟨⟨e1,e2⟩,e3,e4⟩:=e;cases r with
  |er c p=>
   obtain⟨v,a',ee,d',e4⟩:=e4;refine⟨?_,v,a',ee,d',?_⟩
   ·simp only [go_sem,tx,Fr,kq,show dI k ts en (a:Int) (d1:Int) ns=_ from e1]
    simp only [go_sem,show eY _ _ _ k k ts en (a1:Int) (d1:Int) mE x=_ from e3]
   ·simp only [go_sem,AV,lz,show fd k ts (a:Int) en ns (d1:Int) 0 0=_ from e2,e4]
  |ok v a' d' ee=>
   refine⟨?_,?_⟩
   ·simp only [go_sem,tx,Fr,kq,show dI k ts en (a:Int) (d1:Int) ns=_ from e1]
    simp only [go_sem,show eY _ _ _ k k ts en (a1:Int) (d1:Int) mE x=_ from e3]
   ·simp only [go_sem,Ka,AV,lz,show fd k ts (a:Int) en ns (d1:Int) 0 0=_ from e2,show fU _ _ _ k k ts en (a1:Int) mE (d1:Int) 0 0 x=_ from e4]
theorem UX(hs:oM ts){a0:Nat}(IH:∀ a' ee,a0≤a'→wI ts a' d ee→BoB ts en a' d ee):∀ m a (ns:List eg) (x:Int),ts.length - a≤m→a0≤a→wI ts a d ns→0≤x→x < ns.length→sw (kd ns x)=true→
  ∃ r,Inv ts sw 0 a d ns r (wt ns x)∧cm fun q k=>GI r (eZ (dH q) (eI q) (dI q) q k ts en (a:Int) (d:Int) ns x)∧
   Pc r (fV (dO q) (gf q) (fd q) q k ts en (a:Int) ns (d:Int) 0 0 x):=by
 have h7:=hs.len;intro m;induction m with
 |zero=>
  intro a ns x hm h0 hp x0 x1 x2;have Id:aM ts a [111,114]=false:=by
   cases h:aM ts a [111,114] with
   |false=>rfl
   |true=>have:=bw h;omega
  have b0:a≤4000000000000000000:=by have:=hp.hi;omega
  refine⟨.ok x a d ns,⟨by omega,hp.hi,rfl,by omega,List.prefix_refl _,hp.all,x0,x1,x2,by omega⟩,cm.succ (cm.of fun q k=>⟨?_,?_⟩)⟩
  ·simp only [go_sem,GI,eZ,rU b0,Id]
  ·simp only [go_sem,Pc,fV,bX hs (w:=[111,114]) rfl,Id]
 |succ m ih=>
  intro a ns x hm h0 hp x0 x1 x2;obtain⟨p1,p2,p3,p4⟩:=hp;have b0:a≤4000000000000000000:=by omega
  cases Id:aM ts a [111,114] with
  |true=>
   have bq:=bw Id;obtain⟨r,hi,hr⟩:=IH (a + 1) ns (by omega) ⟨by omega,by omega,by omega,p4⟩
   cases r with
   |er c p=>
    refine⟨.er c p,hi,cm.succ (cm.succ (hr.tw.mono fun q k e=>?_))⟩;obtain⟨e1,v,a',ee,d',e2⟩:=e;refine⟨?_,0,a',ee,d',?_⟩
    ·simp only [go_sem,GI,eZ,rU b0,Id,am,ag (show a < _ by omega),show eI q ts en ((a + 1:Nat):Int) (d:Int) ns=_ from e1]
    ·simp only [go_sem,fV,bX hs (w:=[111,114]) rfl,Id,bg,ag (show a < _ by omega),show gf q ts ((a + 1:Nat):Int) en ns (d:Int) 0 0=_ from e2,b8 (show c≠0 from hi),lq (show c≠0 from hi)]
   |ok y a1 d1 mE=>
    obtain⟨q1,q2,rfl,q3,q4,q5,q6,q7,q8,q9⟩:=hi;have KA:mE.length≤4000000:=by omega
    have xk:kd mE x=kd ns x:=pX q4 x0 x1;have ql:=q4.length_le;have QW:nK mE mE.length (32,pl ts en a,0,[],[x,y]):=⟨by simp;omega,by simp [bZ,xk,x2,q8],by simp⟩
    obtain⟨r,gi,gr⟩:=ih a1 (mE ++ [(32,pl ts en a,0,[],[x,y])]) (mE.length:Int) (by omega) (by omega) ⟨by omega,by omega,by simp;omega,q5.add QW⟩ (by omega) (by simp;omega) (by rw [qs];rfl)
    refine⟨r,gi.from (by omega) (by simp;omega) (q4.trans (List.prefix_append _ _)) (by rw [nJ,xd,qQ q4 x0 x1];simp;omega),cm.succ ((hr.tw.and gr).mono fun q k e=>?_)⟩
    obtain⟨⟨e1,e2⟩,e4,e5⟩:=e;refine⟨?_,?_⟩
    ·simp only [go_sem,eZ,rU b0,Id,am,ag (show a < _ by omega),show eI q ts en ((a + 1:Nat):Int) (d1:Int) ns=_ from e1,gY KA]
     exact e4
    ·simp only [go_sem,fV,bX hs (w:=[111,114]) rfl,Id,bg,ag (show a < _ by omega),show gf q ts ((a + 1:Nat):Int) en ns (d1:Int) 0 0=_ from e2,dN KA]
     exact e5
  |false=>
   refine⟨.ok x a d ns,⟨by omega,p1,rfl,by omega,List.prefix_refl _,p4,x0,x1,x2,by omega⟩,cm.succ (cm.of fun q k=>⟨?_,?_⟩)⟩
   ·simp only [go_sem,GI,eZ,rU b0,Id]
   ·simp only [go_sem,Pc,fV,bX hs (w:=[111,114]) rfl,Id]
theorem Nd(hs:oM ts)(hp:wI ts a d ns)(IH:∀ a' ee,a≤a'→wI ts a' d ee→BoB ts en a' d ee):CdB ts en a d ns:=by
 have h7:=hs.len;obtain⟨r,hi,hr⟩:=IH a ns (Nat.le_refl _) hp;obtain⟨p1,p2,p3,p4⟩:=hp;cases r with
 |er c p=>
  refine⟨.er c p,hi,Ev.succ ((hr.and ⟨1,fun k hk=>hk⟩).mono fun k e=>?_)⟩;obtain⟨⟨e1,v,a',ee,d',e2⟩,hk⟩:=e;obtain⟨j,rfl⟩:∃ j,k=j + 1:=⟨k - 1,by omega⟩
  refine⟨?_,v,a',ee,d',?_⟩
  ·simp only [go_sem,tx,Ft (j + 1),kr,show eI (j + 1) ts en (a:Int) (d:Int) ns=_ from e1]
  ·simp only [go_sem,AW (j + 1),lB,show gf (j + 1) ts (a:Int) en ns (d:Int) 0 0=_ from e2,fV,lq (show c≠0 from hi)]
 |ok x a1 d1 mE=>
  obtain⟨q1,q2,rfl,q3,q4,q5,q6,q7,q8,q9⟩:=hi;obtain⟨r,gi,gr⟩:=UX hs IH _ a1 mE x (Nat.le_refl _) (by omega) ⟨q2,p2,by omega,q5⟩ q6 q7 q8
  refine⟨r,gi.from (by omega) q3 q4 q9,Ev.succ ((hr.and gr.jI).mono fun k e=>?_)⟩
  obtain⟨⟨e1,e2⟩,e3,e4⟩:=e;cases r with
  |er c p=>
   obtain⟨v,a',ee,d',e4⟩:=e4;refine⟨?_,v,a',ee,d',?_⟩
   ·simp only [go_sem,tx,Ft,kr,show eI k ts en (a:Int) (d1:Int) ns=_ from e1]
    simp only [go_sem,show eZ _ _ _ k k ts en (a1:Int) (d1:Int) mE x=_ from e3]
   ·simp only [go_sem,AW,lB,show gf k ts (a:Int) en ns (d1:Int) 0 0=_ from e2,e4]
  |ok v a' d' ee=>
   refine⟨?_,?_⟩
   ·simp only [go_sem,tx,Ft,kr,show eI k ts en (a:Int) (d1:Int) ns=_ from e1]
    simp only [go_sem,show eZ _ _ _ k k ts en (a1:Int) (d1:Int) mE x=_ from e3]
   ·simp only [go_sem,Ka,AW,lB,show gf k ts (a:Int) en ns (d1:Int) 0 0=_ from e2,show fV _ _ _ k k ts en (a1:Int) mE (d1:Int) 0 0 x=_ from e4]
theorem NI(hs:oM ts)(hp:wI ts a d ns)(IHl:∀ a' d' ee,a < a'→wI ts a' d' ee→LaB ts en a' d' ee)(IHc:∀ a' d' ee,a < a'→wI ts a' d' ee→CdB ts en a' d' ee):LaB ts en a d ns:=by
 have h7:=hs.len;have zf:=hp;obtain⟨p1,p2,p3,p4⟩:=hp;have b0:a≤4000000000000000000:=by omega
 have b1:a + 1≤4000000000000000000:=by omega
 have bn:ns.length≤4000000:=by omega
 cases vg:aM ts a [110,111,116] with
 |true=>
  have bq:=bw vg;by_cases hd:d < 10
  ·obtain⟨r,hi,hr⟩:=IHl (a + 1) (d + 1) ns (by omega) ⟨by omega,by omega,by omega,p4⟩
   cases r with
   |er c p=>
    refine⟨.er c p,hi,Ev.succ (hr.mono fun k e=>?_)⟩;obtain⟨e1,v,a',ee,d',e2⟩:=e;refine⟨?_,0,a',ee,dP (d' - 1),?_⟩
    ·simp only [go_sem,tx,jL,cu,am,aQ,reduceIte,aI b0,gD p2,vg,hd,show dI k ts en ((a + 1:Nat):Int) ((d + 1:Nat):Int) ns=_ from e1]
    ·simp only [go_sem,jR,dw,bg,aP,reduceIte,ab hs (w:=[110,111,116]) rfl b0,lu p2,vg,hd,show fd k ts ((a + 1:Nat):Int) en ns ((d + 1:Nat):Int) 0 0=_ from e2,b8 (show c≠0 from hi)]
   |ok v a' d' ee=>
    obtain⟨q1,q2,rfl,q3,q4,q5,q6,q7,q8,q9⟩:=hi;have KA:ee.length≤4000000:=by omega
    refine⟨.ok _ a' d (ee ++ [(33,pl ts en a,0,[],[v])]),kx (by omega) (by omega) (by omega) q4 q5 ⟨by simp;omega,by simpa [bZ] using q8,by simp⟩ rfl (by rw [oC];exact q9),Ev.succ (hr.mono fun k e=>⟨?_,?_⟩)⟩
    ·simp only [go_sem,tx,jL,cu,am,aQ,reduceIte,aI b0,gD p2,gY KA,vg,hd,show dI k ts en ((a + 1:Nat):Int) ((d + 1:Nat):Int) ns=_ from e.1,kf (show d≤_ by omega)]
    ·simp only [go_sem,Ka,jR,dw,bg,aP,reduceIte,ab hs (w:=[110,111,116]) rfl b0,lu p2,dN KA,vg,hd,show fd k ts ((a + 1:Nat):Int) en ns ((d + 1:Nat):Int) 0 0=_ from e.2,kf (show d≤_ by omega)]
  ·refine⟨.er 7 (pl ts en (a + 1)),(show(7:Int)≠0 by decide),Ev.succ (Ev.of fun k=>⟨?_,0,a + 1,ns,((d + 1:Nat):Int),?_⟩)⟩
   ·simp only [go_sem,tx,jL,cu,am,aQ,reduceIte,aI b0,gD p2,vg,hd]
   ·simp only [go_sem,jR,dw,bg,aP,reduceIte,ab hs (w:=[110,111,116]) rfl b0,lu p2,vg,hd]
 |false=>
 cases pP:aM ts a [91] with
 |true=>
  have bq:=bw pP;by_cases hd:d < 10
  ·obtain⟨r,hi,hr⟩:=IHc (a + 1) (d + 1) ns (by omega) ⟨by omega,by omega,by omega,p4⟩
   cases r with
   |er c p=>
    refine⟨.er c p,hi,Ev.succ (hr.mono fun k e=>?_)⟩;obtain⟨e1,v,a',ee,d',e2⟩:=e;refine⟨?_,v,a',ee,dP (d' - 1),?_⟩
    ·simp only [go_sem,tx,jL,cu,am,aQ,reduceIte,aI b0,gD p2,vg,pP,hd,show dH k ts en ((a + 1:Nat):Int) ((d + 1:Nat):Int) ns=_ from e1]
    ·simp only [go_sem,jR,dw,bg,aP,reduceIte,ab hs (w:=[110,111,116]) rfl b0,ab hs (w:=[91]) rfl b0,lu p2,vg,pP,hd,show dO k ts ((a + 1:Nat):Int) en ns ((d + 1:Nat):Int) 0 0=_ from e2,cM (show c≠0 from hi)]
   |ok v a' d' ee=>
    obtain⟨q1,q2,rfl,q3,q4,q5,q6,q7,q8,q9⟩:=hi;have b4:a'≤4000000000000000000:=by omega
    cases l7:aM ts a' [93] with
    |true=>
     have Fp:=bw l7;refine⟨.ok v (a' + 1) d ee,⟨by omega,by omega,rfl,by omega,q4,q5,q6,q7,q8,q9⟩,Ev.succ (hr.mono fun k e=>⟨?_,?_⟩)⟩
     ·simp only [go_sem,tx,jL,cu,am,aQ,reduceIte,aI b0,aL b4,gD p2,vg,pP,hd,l7,show dH k ts en ((a + 1:Nat):Int) ((d + 1:Nat):Int) ns=_ from e.1,kf (show d≤_ by omega)]
     ·simp only [go_sem,Ka,jR,dw,bg,aP,reduceIte,ab hs (w:=[110,111,116]) rfl b0,ab hs (w:=[91]) rfl b0,lu p2,ai hs (w:=[93]) rfl b4,vg,pP,hd,l7,show dO k ts ((a + 1:Nat):Int) en ns ((d + 1:Nat):Int) 0 0=_ from e.2,kf (show d≤_ by omega)]
    |false=>
     refine⟨.er 6 (pl ts en a'),(show(6:Int)≠0 by decide),Ev.succ (hr.mono fun k e=>⟨?_,v,a',ee,d,?_⟩)⟩
     ·simp only [go_sem,tx,jL,cu,am,aQ,reduceIte,aI b0,aL b4,gD p2,vg,pP,hd,l7,show dH k ts en ((a + 1:Nat):Int) ((d + 1:Nat):Int) ns=_ from e.1]
     ·simp only [go_sem,jR,dw,bg,aP,reduceIte,ab hs (w:=[110,111,116]) rfl b0,ab hs (w:=[91]) rfl b0,lu p2,ai hs (w:=[93]) rfl b4,vg,pP,hd,l7,show dO k ts ((a + 1:Nat):Int) en ns ((d + 1:Nat):Int) 0 0=_ from e.2,kf (show d≤_ by omega)]
  ·refine⟨.er 7 (pl ts en (a + 1)),(show(7:Int)≠0 by decide),Ev.succ (Ev.of fun k=>⟨?_,0,a + 1,ns,((d + 1:Nat):Int),?_⟩)⟩
   ·simp only [go_sem,tx,jL,cu,am,aQ,reduceIte,aI b0,gD p2,vg,pP,hd]
   ·simp only [go_sem,jR,dw,bg,aP,reduceIte,ab hs (w:=[110,111,116]) rfl b0,ab hs (w:=[91]) rfl b0,lu p2,vg,pP,hd]
 |false=>
 cases O6:aM ts a [110,117,108,108] with
 |true=>
  have bq:=bw O6;cases hn:sY ts (a + 1) 1 with
  |true=>
   have bq:=jz hn;refine⟨.ok _ (a + 1 + 1) d (ns ++ [(34,pl ts en a,0,(tk ts (a + 1)).2.2.1,[])]),kx (by omega) (by omega) (by omega) (List.prefix_refl _) p4 (rM rfl (by decide)) rfl (by simp [ju]),Ev.succ (Ev.of fun k=>⟨?_,?_⟩)⟩
   ·simp only [go_sem,tx,jL,cu,am,aQ,reduceIte,bL b1,aI b0,gY bn,vg,pP,O6,hn]
   ·simp only [go_sem,Ka,jR,dw,bg,aP,reduceIte,ab hs (w:=[110,111,116]) rfl b0,ab hs (w:=[91]) rfl b0,ab hs (w:=[110,117,108,108]) rfl b0,cU b1,dN bn,vg,pP,O6,hn]
  |false=>
   refine⟨.er 6 (pl ts en (a + 1)),(show(6:Int)≠0 by decide),Ev.succ (Ev.of fun k=>⟨?_,0,a + 1,ns,d,?_⟩)⟩
   ·simp only [go_sem,tx,jL,cu,am,aQ,reduceIte,bL b1,aI b0,vg,pP,O6,hn]
   ·simp only [go_sem,jR,dw,bg,aP,reduceIte,ab hs (w:=[110,111,116]) rfl b0,ab hs (w:=[91]) rfl b0,ab hs (w:=[110,117,108,108]) rfl b0,cU b1,b8 (show(6:Int)≠0 by decide),vg,pP,O6,hn]
 |false=>
 obtain⟨r,hi,hr⟩:=Ak (en:=en) hs zf;cases r with
 |er c p=>
  have hc:c≠0:=hi;refine⟨.er c p,hi,Ev.succ (hr.mono fun k e=>?_)⟩;obtain⟨e1,v,a',ee,d',e2⟩:=e;refine⟨?_,0,a',ee,d',?_⟩
  ·simp only [go_sem,tx,jL,cu,am,aQ,reduceIte,aI b0,vg,pP,O6,show aj k ts en (a:Int) (d:Int) ns 1=_ from e1]
  ·simp only [go_sem,jR,dw,bg,aP,reduceIte,ab hs (w:=[110,111,116]) rfl b0,ab hs (w:=[91]) rfl b0,ab hs (w:=[110,117,108,108]) rfl b0,vg,pP,O6,show an k ts (a:Int) en ns (d:Int) 0 0 1=_ from e2,Wp hc,RX,show Gn []=0 from rfl,eS hc]
 |ok x a1 d1 mE=>
  obtain⟨q1,q2,rfl,q3,q4,q5,q6,q7,q8,q9⟩:=hi;by_cases hz:Gn (sg ts a1)=0
  ·refine⟨.er 6 (pl ts en a1),(show(6:Int)≠0 by decide),Ev.succ ((hr.and (WV (tk ts a1).2.2.1)).mono fun k e=>⟨?_,0,a1,mE,d1,?_⟩)⟩
   ·by_cases bq:a1 < ts.length
    ·simp only [go_sem,tx,jL,cu,aa,am,aQ,reduceIte,aI b0,vg,pP,O6,show aj k ts en (a:Int) (d1:Int) ns 1=_ from e.1.1,Int.ofNat_lt,bq,bh (im bq),e.2,SA hs bq,hz,oQ]
    ·simp only [go_sem,tx,jL,cu,aa,am,aQ,reduceIte,aI b0,vg,pP,O6,show aj k ts en (a:Int) (d1:Int) ns 1=_ from e.1.1,Int.ofNat_lt,bq,oQ]
   ·simp only [go_sem,jR,dw,bg,aP,reduceIte,ab hs (w:=[110,111,116]) rfl b0,ab hs (w:=[91]) rfl b0,ab hs (w:=[110,117,108,108]) rfl b0,vg,pP,O6,show an k ts (a:Int) en ns (d1:Int) 0 0 1=_ from e.1.2,FH,RX,hz,IC]
  ·have bq:a1 < ts.length:=by
    by_cases h:a1 < ts.length
    ·exact h
    ·rw [Ti h] at hz;exact absurd rfl hz
   have O9:(Gn (sg ts a1) == 0)=false:=beq_eq_false_iff_ne.2 hz;obtain⟨r,gi,gr⟩:=Ak (en:=en) hs (a:=a1 + 1) (d:=d1) (ns:=mE) ⟨by omega,p2,by omega,q5⟩
   cases r with
   |er c p=>
    have hc:c≠0:=gi;refine⟨.er c p,gi,Ev.succ (((hr.and (WV (tk ts a1).2.2.1)).and gr).mono fun k e=>?_)⟩;obtain⟨⟨⟨e1,e2⟩,e3⟩,e4,v,a',ee,d',e5⟩:=e;refine⟨?_,0,a',ee,d',?_⟩
    ·simp only [go_sem,tx,jL,cu,aa,am,aQ,reduceIte,aI b0,vg,pP,O6,show aj k ts en (a:Int) (d1:Int) ns 1=_ from e1,Int.ofNat_lt,bq,bh (im bq),e3,SA hs bq,O9,ag (show a1 < _ by omega),show aj k ts en ((a1 + 1:Nat):Int) (d1:Int) mE 1=_ from e4]
    ·simp only [go_sem,jR,dw,bg,aP,reduceIte,ab hs (w:=[110,111,116]) rfl b0,ab hs (w:=[91]) rfl b0,ab hs (w:=[110,117,108,108]) rfl b0,vg,pP,O6,show an k ts (a:Int) en ns (d1:Int) 0 0 1=_ from e2,FH,RX,O9,ag (show a1 < _ by omega),show an k ts ((a1 + 1:Nat):Int) en mE (d1:Int) 0 0 1=_ from e5,b8 hc]
   |ok y a2 d2 pQ=>
    obtain⟨g1,g2,rfl,g3,g4,g5,g6,g7,g8,g9⟩:=gi;have KA:pQ.length≤4000000:=by omega
    have xk:kd pQ x=kd mE x:=pX g4 q6 q7;have ql:=g4.length_le;refine⟨.ok _ a2 d2 (pQ ++ [(30,pl ts en a1,Gn (sg ts a1),[],[x,y])]),kx (by omega) (by omega) (by omega) (q4.trans g4) g5 ⟨by simp;omega,by simp [bZ,xk,q8,g8],by simp⟩ rfl (by rw [xd,qQ g4 q6 q7];omega),Ev.succ (((hr.and (WV (tk ts a1).2.2.1)).and gr).mono fun k e=>?_)⟩
    obtain⟨⟨⟨e1,e2⟩,e3⟩,e4,e5⟩:=e;refine⟨?_,?_⟩
    ·simp only [go_sem,tx,jL,cu,aa,am,aQ,reduceIte,aI b0,vg,pP,O6,show aj k ts en (a:Int) (d2:Int) ns 1=_ from e1,Int.ofNat_lt,bq,bh (im bq),e3,SA hs bq,O9,ag (show a1 < _ by omega),show aj k ts en ((a1 + 1:Nat):Int) (d2:Int) mE 1=_ from e4,gY KA]
    ·simp only [go_sem,Ka,jR,dw,bg,aP,reduceIte,ab hs (w:=[110,111,116]) rfl b0,ab hs (w:=[91]) rfl b0,ab hs (w:=[110,117,108,108]) rfl b0,vg,pP,O6,show an k ts (a:Int) en ns (d2:Int) 0 0 1=_ from e2,FH,RX,O9,ag (show a1 < _ by omega),show an k ts ((a1 + 1:Nat):Int) en mE (d2:Int) 0 0 1=_ from e5,dN KA]
theorem ab5(hs:oM ts):∀ m a,ts.length - a≤m→∀ a',a≤a'→∀ d ns,wI ts a' d ns→LaB ts en a' d ns∧CdB ts en a' d ns:=by
 intro m;induction m with
 |zero=>
  intro a hm a' ha d ns hp;have key:∀ a',a≤a'→∀ d ns,wI ts a' d ns→LaB ts en a' d ns:=fun a' ha d ns hp=>
   NI hs hp (fun a2 d2 pQ h2 p2=>by have:=p2.hi;have:=hp.hi;omega) (fun a2 d2 pQ h2 p2=>by have:=p2.hi;have:=hp.hi;omega)
  exact⟨key a' ha d ns hp,Nd hs hp fun a2 pQ h2 p2=>Na hs p2 fun a3 Ke h3 p3=>key a3 (by omega) d Ke p3⟩
 |succ m ih=>
  intro a hm a' ha d ns hp;have key:∀ a',a≤a'→∀ d ns,wI ts a' d ns→LaB ts en a' d ns:=fun a' ha d ns hp=>
   NI hs hp (fun a2 d2 pQ h2 p2=>(ih (a + 1) (by omega) a2 (by omega) d2 pQ p2).1) (fun a2 d2 pQ h2 p2=>(ih (a + 1) (by omega) a2 (by omega) d2 pQ p2).2)
  exact⟨key a' ha d ns hp,Nd hs hp fun a2 pQ h2 p2=>Na hs p2 fun a3 Ke h3 p3=>key a3 (by omega) d Ke p3⟩
theorem Wb(hs:oM ts)(hp:wI ts a d ns):CdB ts en a d ns:=(ab5 hs _ a (Nat.le_refl _) a (Nat.le_refl _) d ns hp).2
end
end Go.Fx.R5
namespace Go.Fx.R5
open Go Go.Fx
def QR(P:Int→Nat→Nat→List eg→Prop):Res→Prop | .ok v a d ns=>P v a d ns | .er c _=>c≠0
def BS(P:Int→Nat→Nat→List eg→Prop)(i:Nat→IT)(s:Nat→ST):Prop:=∃ r,QR P r∧Ev fun k=>tx r (i k)∧Ka r (s k)
def fw(c p:Int)(o:ST):Prop:=match o with | some (_,a,_,_,c',p',_)=>c' = c∧p' = p∧0≤a | none=>False
theorem fw.vE{c p:Int}{o:ST}(h:fw c p o):∃(v:Int) (a:Nat) (ns:List eg) (d:Int),o=some (v,(a:Int),ns,d,c,p,()):=by
 match o,h with
 |some (v,a,ns,d,c',p',u),h'=>obtain⟨rfl,rfl,h0⟩:=h';exact⟨v,a.toNat,ns,d,by rw [Int.toNat_of_nonneg h0]⟩
section
variable {P P1:Int→Nat→Nat→List eg→Prop} {i:Nat→IT} {s:Nat→ST} {c p:Int}
theorem BS.of{ts:List yn}{C:Int→Bool}{s0 a d:Nat}{ns:List eg}(h:Qc ts C s0 a d ns i s):BS (wH ts C s0 a d ns) i s:=by obtain⟨r,hi,hr⟩:=h;exact⟨r,by cases r<;>exact hi,hr⟩
theorem BS.to{ts:List yn}{C:Int→Bool}{s0 a d:Nat}{ns:List eg}(h:BS (wH ts C s0 a d ns) i s):Qc ts C s0 a d ns i s:=by obtain⟨r,hi,hr⟩:=h;exact⟨r,by cases r<;>exact hi,hr⟩
theorem BS.mono(h:BS P1 i s)(g:∀ v a d ns,P1 v a d ns→P v a d ns):BS P i s:=by
 obtain⟨r,hi,hr⟩:=h;refine⟨r,?_,hr⟩;cases r with
 |ok v a d ns=>exact g _ _ _ _ hi
 |er c p=>exact hi
theorem BS.succ(h:BS P (fun k=>i (k + 1)) (fun k=>s (k + 1))):BS P i s:=by obtain⟨r,hi,hr⟩:=h;exact⟨r,hi,Ev.succ hr⟩
theorem BS.ok{v:Int}{a d:Nat}{ns:List eg}(h:P v a d ns):BS P (fun _=>some (.inl (v,(a:Int),(d:Int),ns,()))) (fun _=>some (v,(a:Int),ns,(d:Int),0,0,())):=
 ⟨.ok v a d ns,h,Ev.of fun k=>⟨rfl,rfl⟩⟩
theorem BS.er(hc:c≠0)(h:Ev fun k=>i k=some (.inr (c,p,()))∧fw c p (s k)):BS P i s:=
 ⟨.er c p,hc,h.mono fun _ e=>⟨e.1,e.2.vE⟩⟩
theorem BS.bind{f:Nat→(Int×Int×Int×List eg×Unit)⊕(Int×Int×Unit)→IT}{g:Nat→Int×Int×List eg×Int×Int×Int×Unit→ST}(h:BS P1 i s)
  (hok:∀(v:Int) (a d:Nat) (ns:List eg),P1 v a d ns→BS P (fun k=>f k (.inl (v,(a:Int),(d:Int),ns,()))) (fun k=>g k (v,(a:Int),ns,(d:Int),0,0,())))
  (her:∀ c p:Int,c≠0→Ev fun k=>∀(v:Int) (a:Nat) (ns:List eg) (d:Int),f k (.inr (c,p,()))=some (.inr (c,p,()))∧fw c p (g k (v,(a:Int),ns,d,c,p,()))):
  BS P (fun k=>(i k).bind (f k)) (fun k=>(s k).bind (g k)):=by
 obtain⟨r,hi,hr⟩:=h;cases r with
 |ok v a d ns=>obtain⟨r2,hi2,hr2⟩:=hok v a d ns hi;refine⟨r2,hi2,(hr.and hr2).mono fun k e=>?_⟩;obtain⟨⟨e1,e2⟩,e3⟩:=e;have e1:i k=_:=e1;have e2:s k=_:=e2;simpa only [e1,e2,Option.bind_some] using e3
 |er c p=>refine BS.er (p:=p) hi ((hr.and (her c p hi)).mono fun k e=>?_);obtain⟨⟨e1,v,a,ns,d,e2⟩,e3⟩:=e;have e1:i k=_:=e1;simp only [go_sem,e1,e2];exact e3 v a ns d
end
section
variable {ts:List yn} {en:Int} {c p:Int} {a d:Nat} {ns:List eg}
theorem sk(h:a < ts.length):pl ts en a=(tk ts a).2.1:=by simp only [pl,im h]
def stp(ts:List yn)(C:Int→Bool)(s a d:Nat)(ns:List eg):=wH ts C s a d ns
theorem ff(hc:c≠0):Ev fun k=>(∀(a:Nat) (ns:List eg) (d:Int),an k ts (a:Int) en ns d c p 1=some (0,(a:Int),ns,d,c,p,()))∧
  (∀(a:Nat) (ns:List eg) (d:Int),dO k ts (a:Int) en ns d c p=some (0,(a:Int),ns,d,c,p,())):=
 (fl1 hc).and (Wo hc)
theorem ff1(hc:c≠0):Ev fun k=>∃ j,k=j + 1∧(∀(a:Nat) (ns:List eg) (d:Int),an (j + 1) ts (a:Int) en ns d c p 1=some (0,(a:Int),ns,d,c,p,()))∧
  (∀(a:Nat) (ns:List eg) (d:Int),dO (j + 1) ts (a:Int) en ns d c p=some (0,(a:Int),ns,d,c,p,())):=
 ((ff hc).and ⟨1,fun k hk=>hk⟩).mono fun k e=>⟨k - 1,by omega,by rw [show k - 1 + 1=k by omega];exact e.1⟩
theorem Ef(hs:oM ts)(hp:wI ts a d ns):BS (wH ts zP 1 a d ns) (fun k=>aj k ts en (a:Int) (d:Int) ns 1) (fun k=>an k ts (a:Int) en ns (d:Int) 0 0 1):=BS.of (Ak hs hp)
theorem VN(hs:oM ts)(hp:wI ts a d ns):BS (wH ts sw 1 a d ns) (fun k=>dH k ts en (a:Int) (d:Int) ns) (fun k=>dO k ts (a:Int) en ns (d:Int) 0 0):=BS.of (Wb hs hp)
inductive Mq | ok (l:XI) (a:Nat) (ns:List eg) | er (c p:Int)
structure iK(C:Int→Bool)(ns:List eg)(l:XI):Prop where
 v:∀ j∈l,0≤j∧j < (ns.length:Int)
 c:∀ j∈l,C (kd ns j)=true
theorem iK.up{C:Int→Bool}{ns ee:List eg}{l:XI}(h:iK C ns l)(hp:ns <+: ee):iK C ee l:=by
 have:=hp.length_le;refine⟨fun j hj=>?_,fun j hj=>?_⟩
 ·have:=h.v j hj;omega
 ·have:=h.v j hj
  rw [pX hp this.1 this.2];exact h.c j hj
theorem iK.add{C:Int→Bool}{ns:List eg}{l:XI}{v:Int}(h:iK C ns l)(h0:0≤v)(h1:v < ns.length)(hc:C (kd ns v)=true):iK C ns (l ++ [v]):=by
 refine⟨fun j hj=>?_,fun j hj=>?_⟩
 ·rcases List.mem_append.1 hj with hj | hj
  ·exact h.v j hj
  ·rw [List.mem_singleton.1 hj];exact⟨h0,h1⟩
 ·rcases List.mem_append.1 hj with hj | hj
  ·exact h.c j hj
  ·rw [List.mem_singleton.1 hj];exact hc
theorem iK.nil{C:Int→Bool}{ns:List eg}:iK C ns []:=⟨by simp,by simp⟩
theorem cp{l:XI}{v:Int}(h:l.length≤4000000):lM l [v]=some (l ++ [v]):=qJ (by simp;omega)
def WY(u:XI)(r:Mq)(d:Int)(o:Option ((XI×Int×Int×List eg×Unit)⊕(Int×Int×Unit))):Prop:=match r with
 |.ok l a ns=>o=some (.inl (u ++ l,(a:Int),d,ns,()))
 |.er c p=>o=some (.inr (c,p,()))
def MH(u:XI)(r:Mq)(d:Int)(o:Option (Int×List eg×Int×Int×Int×XI×Unit)):Prop:=match r with
 |.ok l a ns=>o=some ((a:Int),ns,d,0,0,u ++ l,())
 |.er c p=>∃(l:XI) (a:Nat) (ns:List eg) (d:Int),o=some ((a:Int),ns,d,c,p,l,())
def pR(ts:List yn)(en:Int)(w:ao):Mq→Mq
 |.ok l a ns=>if aM ts a w=true then .ok l a ns else .er 6 (pl ts en a)
 |.er c p=>.er c p
structure LOk(ts:List yn)(C:Int→Bool)(a:Nat)(ns:List eg)(n w0:Nat)(l':XI)(a':Nat)(ee:List eg):Prop where
 lo:a≤a'
 hi:a'≤ts.length
 ln:ee.length + 2 * a≤ns.length + 2 * a'
 pre:ns <+: ee
 all:jh ee
 cA:iK C ee l'
 len:l'.length + a≤n + a'
 w:ju ee l' + ns.length≤ee.length + w0
def Mp(ts:List yn)(C:Int→Bool)(a:Nat)(ns:List eg)(n w0:Nat):Mq→Prop
 |.ok l' a' ee=>LOk ts C a ns n w0 l' a' ee
 |.er c _=>c≠0
theorem Mp.from{C:Int→Bool}{a a1 n n1 w0 w1:Nat}{ns mE:List eg}{r:Mq}(h:Mp ts C a1 mE n1 w1 r)(lo:a≤a1)(ln:mE.length + 2 * a≤ns.length + 2 * a1)(pre:ns <+: mE)(hn:n1 + a≤n + a1)(hw:w1 + ns.length≤mE.length + w0):Mp ts C a ns n w0 r:=by
 cases r with
 |er c p=>exact h
 |ok l' a' ee=>obtain⟨h1,h2,h3,h4,h5,h6,h7,h8⟩:=h;exact⟨by omega,h2,by omega,pre.trans h4,h5,h6,by omega,by omega⟩
theorem UP(hs:oM ts){u:Int}(hd:d≤10):∀ m a (ns:List eg) (l:XI),ts.length - a≤m→wI ts a d ns→iK zP ns l→1≤l.length→l.length≤1 + a→
  ∃ r,Mp ts zP a ns l.length (ju ns l) r∧cm fun q k=>WY [u] r d (cT q k ts en (u :: l) (a:Int) (d:Int) ns)∧
   MH [u] (pR ts en [41] r) d (bt q k ts en (a:Int) ns (d:Int) 0 0 (u :: l)):=by
 have h7:=hs.len;intro m;induction m with
 |zero=>
  intro a ns l hm hp hk hl P7;have Em:aM ts a [44]=false:=by
   cases h:aM ts a [44] with
   |false=>rfl
   |true=>have:=bw h;omega
  have l7:aM ts a [41]=false:=by
   cases h:aM ts a [41] with
   |false=>rfl
   |true=>have:=bw h;omega
  have b0:a≤4000000000000000000:=by have:=hp.hi;omega
  have bl:((u :: l).length:Int) > 1:=by simp;omega
  have bk:(u :: l).length≤4000000:=by have:=hp.hi;simp;omega
  refine⟨.ok l a ns,⟨by omega,hp.hi,by omega,List.prefix_refl _,hp.all,hk,by omega,by omega⟩,cm.succ (cm.succ ((fl1 (ts:=ts) (en:=en) (c:=6) (p:=pl ts en a) (by decide)).tw.mono fun q k e=>⟨?_,?_⟩))⟩
  ·simp only [go_sem,WY,List.cons_append,List.nil_append,cT,aI b0,Em,reduceIte]
  ·simp only [go_sem,pR,l7,reduceIte]
   refine⟨u :: (l ++ [0]),a,ns,d,?_⟩;rw [bt];simp only [go_sem,aa,bX hs (w:=[41]) rfl,l7,bl,ai hs (w:=[44]) rfl b0,Em,reduceIte,e,cp bk];rw [bt];simp only [go_sem,aa,show((6:Int) == 0)=false from rfl,List.cons_append]
 |succ m ih=>
  intro a ns l hm hp hk hl P7;obtain⟨p1,p2,p3,p4⟩:=hp;have b0:a≤4000000000000000000:=by omega
  have bl:((u :: l).length:Int) > 1:=by simp;omega
  have bk:(u :: l).length≤4000000:=by simp;omega
  have bk1:l.length≤4000000:=by omega
  cases Em:aM ts a [44] with
  |true=>
   have l7:aM ts a [41]=false:=aC Em rfl;have bq:=bw Em;obtain⟨r,hi,hr⟩:=Ak (en:=en) hs (a:=a + 1) (d:=d) (ns:=ns) ⟨by omega,p2,by omega,p4⟩
   cases r with
   |er c p=>
    have hc:c≠0:=hi;refine⟨.er c p,hi,cm.succ (cm.succ (hr.tw.mono fun q k e=>?_))⟩;obtain⟨e1,v,a',ee,d',e2⟩:=e;refine⟨?_,u :: (l ++ [v]),a',ee,d',?_⟩
    ·simp only [go_sem,WY,List.cons_append,List.nil_append,cT,aI b0,Em,reduceIte,show aj q ts en ((a + 1:Nat):Int) (d:Int) ns 1=_ from e1]
    ·rw [bt]
     simp only [go_sem,aa,bX hs (w:=[41]) rfl,l7,bl,ai hs (w:=[44]) rfl b0,Em,reduceIte,show an q ts ((a + 1:Nat):Int) en ns (d:Int) 0 0 1=_ from e2,cp bk]
     rw [bt];simp only [go_sem,aa,beq_eq_false_iff_ne.2 hc,List.cons_append]
   |ok v a1 d1 mE=>
    obtain⟨q1,q2,rfl,q3,q4,q5,q6,q7,q8,q9⟩:=hi;obtain⟨r,gi,gr⟩:=ih a1 mE (l ++ [v]) (by omega) ⟨q2,p2,by omega,q5⟩ ((hk.up q4).add q6 q7 q8) (by simp) (by simp;omega)
    refine⟨r,gi.from (by omega) (by omega) q4 (by simp;omega) (by rw [pY,oC,pp q4 hk.v];omega),cm.succ ((hr.tw.and gr).mono fun q k e=>?_)⟩
    obtain⟨⟨e1,e2⟩,e3,e4⟩:=e;refine⟨?_,?_⟩
    ·simp only [go_sem,cT,aI b0,Em,reduceIte,show aj q ts en ((a + 1:Nat):Int) (d1:Int) ns 1=_ from e1,cp bk,List.cons_append]
     exact e3
    ·simp only [go_sem,bt,aa,bX hs (w:=[41]) rfl,l7,bl,ai hs (w:=[44]) rfl b0,Em,reduceIte,show an q ts ((a + 1:Nat):Int) en ns (d1:Int) 0 0 1=_ from e2,cp bk,List.cons_append]
     exact e4
  |false=>
   cases l7:aM ts a [41] with
   |true=>
    refine⟨.ok l a ns,⟨by omega,p1,by omega,List.prefix_refl _,p4,hk,by omega,by omega⟩,cm.succ (cm.of fun q k=>⟨?_,?_⟩)⟩
    ·simp only [go_sem,WY,List.cons_append,List.nil_append,cT,aI b0,Em,reduceIte]
    ·simp only [go_sem,pR,l7,reduceIte,MH,List.cons_append,List.nil_append,bt,aa,bX hs (w:=[41]) rfl]
   |false=>
    refine⟨.ok l a ns,⟨by omega,p1,by omega,List.prefix_refl _,p4,hk,by omega,by omega⟩,cm.succ (cm.succ ((fl1 (ts:=ts) (en:=en) (c:=6) (p:=pl ts en a) (by decide)).tw.mono fun q k e=>⟨?_,?_⟩))⟩
    ·simp only [go_sem,WY,List.cons_append,List.nil_append,cT,aI b0,Em,reduceIte]
    ·simp only [go_sem,pR,l7,reduceIte]
     refine⟨u :: (l ++ [0]),a,ns,d,?_⟩;rw [bt];simp only [go_sem,aa,bX hs (w:=[41]) rfl,l7,bl,ai hs (w:=[44]) rfl b0,Em,reduceIte,e,cp bk];rw [bt];simp only [go_sem,aa,show((6:Int) == 0)=false from rfl,List.cons_append]
end
end Go.Fx.R5
namespace Go.Fx.R5
open Go Go.Fx
section
variable {ts:List yn} {en:Int} {a d:Nat} {ns:List eg}
theorem aeD{k:Int}(h1:9≤k)(h2:k≤22):MI k=true:=by simp [MI,h1,h2]
theorem X8(hs:oM ts)(hp:wI ts a d ns)(hn:sY ts a 1=true):BS (wH ts MI 1 a d ns) (fun k=>cj k ts en (a:Int) (d:Int) ns) (fun k=>dU k ts (a:Int) en ns (d:Int) 0 0):=by
 have h7:=hs.len;obtain⟨p1,p2,p3,p4⟩:=hp;have bq:=jz hn;have ub:pl ts en a=(tk ts a).2.1:=sk bq;have b0:a≤4000000000000000000:=by omega
 have b1:a + 1≤4000000000000000000:=by omega
 have b2:a + 1 + 1≤4000000000000000000:=by omega
 have b3:a + 1 + 1 + 1≤4000000000000000000:=by omega
 have b4:a + 1 + 1 + 1 + 1≤4000000000000000000:=by omega
 have bn:ns.length≤4000000:=by omega
 cases pP:aM ts (a + 1) [91] with
 |true=>
  have hl0:=bw pP;simp only [go_sem,cj,dU,aa,am,aQ,bg,aP,Option.bind_assoc,reduceIte,bL b0,hn,aI b1,cU b0,ub,ab hs (w:=[91]) rfl b1,ab hs (w:=[43,61]) rfl b1,ai hs (w:=[61]) rfl b1,pP,show aM ts (a + 1) [61]=false from aC pP rfl,show aM ts (a + 1) [43,61]=false from aC pP rfl]
  refine BS.bind (Ef hs (a:=a + 1 + 1) ⟨by omega,p2,by omega,p4⟩) (fun x1 a1 d1 mE g1=>?_) (fun c p hc=>(ff (ts:=ts) (en:=en) (p:=p) hc).mono fun k e v a' ee d'=>⟨rfl,by simp only [go_sem,fw,cM hc,dE hc,lq hc,fh hc,dR hc,b8 hc,eG hc,eS hc,jm hc,bg,aa,e.1,e.2,true_and,and_self,Int.natCast_nonneg]⟩)
  obtain⟨q11,q12,rfl,q13,JS,M1,N0,N3,Mm,q19⟩:=g1;have c1:a1≤4000000000000000000:=by omega
  have Mr:a1 + 1≤4000000000000000000:=by omega
  have m1:mE.length≤4000000:=by omega
  cases h1:aM ts (a1) [93] with
  |false=>simp only [go_sem,aL c1,ai hs (w:=[93]) rfl c1,h1,aa,am,aQ,bg,aP,Option.bind_assoc,reduceIte];exact BS.er (c:=6) (p:=pl ts en (a1)) (by decide) ((ff (ts:=ts) (en:=en) (c:=6) (p:=pl ts en (a1)) (by decide)).mono fun k e=>⟨rfl,by have hc:(6:Int)≠0:=(by decide);simp only [go_sem,fw,cM hc,dE hc,lq hc,fh hc,dR hc,b8 hc,eG hc,eS hc,jm hc,bg,aa,e.1,e.2,true_and,and_self,Int.natCast_nonneg]⟩)
  |true=>
  have Va:=bw h1;simp only [go_sem,aL c1,ai hs (w:=[93]) rfl c1,h1,aa,am,aQ,bg,aP,Option.bind_assoc,reduceIte];cases h2:aM ts (a1 + 1) [61] with
  |false=>simp only [go_sem,aL Mr,ai hs (w:=[61]) rfl Mr,h2,aa,am,aQ,bg,aP,Option.bind_assoc,reduceIte];exact BS.er (c:=6) (p:=pl ts en (a1 + 1)) (by decide) ((ff (ts:=ts) (en:=en) (c:=6) (p:=pl ts en (a1 + 1)) (by decide)).mono fun k e=>⟨rfl,by have hc:(6:Int)≠0:=(by decide);simp only [go_sem,fw,cM hc,dE hc,lq hc,fh hc,dR hc,b8 hc,eG hc,eS hc,jm hc,bg,aa,e.1,e.2,true_and,and_self,Int.natCast_nonneg]⟩)
  |true=>
  have QU:=bw h2;simp only [go_sem,aL Mr,ai hs (w:=[61]) rfl Mr,h2,aa,am,aQ,bg,aP,Option.bind_assoc,reduceIte];refine BS.bind (Ef hs (a:=a1 + 1 + 1) ⟨by omega,p2,by omega,M1⟩) (fun x2 a2 d2 pQ g2=>?_) (fun c p hc=>(ff (ts:=ts) (en:=en) (p:=p) hc).mono fun k e v a' ee d'=>⟨rfl,by simp only [go_sem,fw,cM hc,dE hc,lq hc,fh hc,dR hc,b8 hc,eG hc,eS hc,jm hc,bg,aa,e.1,e.2,true_and,and_self,Int.natCast_nonneg]⟩)
  obtain⟨q21,q22,rfl,q23,LX,q25,q26,q27,q28,q29⟩:=g2;have c2:a2≤4000000000000000000:=by omega
  have c21:a2 + 1≤4000000000000000000:=by omega
  have m2:pQ.length≤4000000:=by omega
  cases h3:aM ts (a2) [59] with
  |false=>simp only [go_sem,aL c2,ai hs (w:=[59]) rfl c2,h3,aa,am,aQ,bg,aP,Option.bind_assoc,reduceIte];exact BS.er (c:=6) (p:=pl ts en (a2)) (by decide) ((ff (ts:=ts) (en:=en) (c:=6) (p:=pl ts en (a2)) (by decide)).mono fun k e=>⟨rfl,by have hc:(6:Int)≠0:=(by decide);simp only [go_sem,fw,cM hc,dE hc,lq hc,fh hc,dR hc,b8 hc,eG hc,eS hc,jm hc,bg,aa,e.1,e.2,true_and,and_self,Int.natCast_nonneg]⟩)
  |true=>
  have adZ:=bw h3;simp only [go_sem,aL c2,ai hs (w:=[59]) rfl c2,h3,aa,am,aQ,bg,aP,Option.bind_assoc,reduceIte];simp only [go_sem,gY m2,dN m2];exact BS.ok (kx (by omega) (by omega) (by omega) (JS.trans LX) q25 ⟨by simp;have:=LX.length_le;omega,by simp [bZ,Mm,q28,pX LX N0 N3],by simp⟩ rfl (by rw [xd,qQ LX N0 N3];omega))
 |false=>
 cases u7:aM ts (a + 1) [43,61] with
 |true=>
  have hl0:=bw u7;simp only [go_sem,cj,dU,aa,am,aQ,bg,aP,Option.bind_assoc,reduceIte,bL b0,hn,aI b1,cU b0,ub,ab hs (w:=[91]) rfl b1,ab hs (w:=[43,61]) rfl b1,ai hs (w:=[61]) rfl b1,pP,u7,show aM ts (a + 1) [61]=false from aC u7 rfl]
  refine BS.bind (Ef hs (a:=a + 1 + 1) ⟨by omega,p2,by omega,p4⟩) (fun x1 a1 d1 mE g1=>?_) (fun c p hc=>(ff (ts:=ts) (en:=en) (p:=p) hc).mono fun k e v a' ee d'=>⟨rfl,by simp only [go_sem,fw,cM hc,dE hc,lq hc,fh hc,dR hc,b8 hc,eG hc,eS hc,jm hc,bg,aa,e.1,e.2,true_and,and_self,Int.natCast_nonneg]⟩)
  obtain⟨q11,q12,rfl,q13,JS,M1,N0,N3,Mm,q19⟩:=g1;have c1:a1≤4000000000000000000:=by omega
  have Mr:a1 + 1≤4000000000000000000:=by omega
  have m1:mE.length≤4000000:=by omega
  cases h1:aM ts (a1) [59] with
  |false=>simp only [go_sem,aL c1,ai hs (w:=[59]) rfl c1,h1,aa,am,aQ,bg,aP,Option.bind_assoc,reduceIte];exact BS.er (c:=6) (p:=pl ts en (a1)) (by decide) ((ff (ts:=ts) (en:=en) (c:=6) (p:=pl ts en (a1)) (by decide)).mono fun k e=>⟨rfl,by have hc:(6:Int)≠0:=(by decide);simp only [go_sem,fw,cM hc,dE hc,lq hc,fh hc,dR hc,b8 hc,eG hc,eS hc,jm hc,bg,aa,e.1,e.2,true_and,and_self,Int.natCast_nonneg]⟩)
  |true=>
  have Va:=bw h1;simp only [go_sem,aL c1,ai hs (w:=[59]) rfl c1,h1,aa,am,aQ,bg,aP,Option.bind_assoc,reduceIte];simp only [go_sem,gY m1,dN m1];exact BS.ok (kx (by omega) (by omega) (by omega) JS M1 ⟨by simp;omega,by simpa [bZ] using Mm,by simp⟩ rfl (by rw [oC];exact q19))
 |false=>
 cases Nz:aM ts (a + 1) [61] with
 |false=>simp only [go_sem,cj,dU,aa,am,aQ,bg,aP,Option.bind_assoc,reduceIte,bL b0,hn,aI b1,cU b0,ub,ab hs (w:=[91]) rfl b1,ab hs (w:=[43,61]) rfl b1,ai hs (w:=[61]) rfl b1,pP,u7,Nz,oQ];exact BS.er (c:=6) (p:=pl ts en (a + 1)) (by decide) ((ff (ts:=ts) (en:=en) (c:=6) (p:=pl ts en (a + 1)) (by decide)).mono fun k e=>⟨rfl,by have hc:(6:Int)≠0:=(by decide);simp only [go_sem,fw,cM hc,dE hc,lq hc,fh hc,dR hc,b8 hc,eG hc,eS hc,jm hc,bg,aa,e.1,e.2,true_and,and_self,Int.natCast_nonneg,beq_eq_false_iff_ne.2 hc]⟩)
 |true=>
 have hl0:=bw Nz;cases OW:aM ts (a + 1 + 1) [38] with
 |true=>
  have hl1:=bw OW;cases hu:sY ts (a + 1 + 1 + 1) 1 with
  |false=>simp only [go_sem,cj,dX,dU,aa,am,aQ,bg,aP,Option.bind_assoc,reduceIte,bL b0,hn,aI b1,aI b2,cU b0,ub,ab hs (w:=[91]) rfl b1,ab hs (w:=[43,61]) rfl b1,ai hs (w:=[61]) rfl b1,ab hs (w:=[38]) rfl b2,pP,u7,Nz,OW,fN b3 bn,hu,nG,cU b3];exact BS.er (c:=6) (p:=pl ts en (a + 1 + 1 + 1)) (by decide) ((ff (ts:=ts) (en:=en) (c:=6) (p:=pl ts en (a + 1 + 1 + 1)) (by decide)).mono fun k e=>⟨rfl,by have hc:(6:Int)≠0:=(by decide);simp only [go_sem,fw,cM hc,dE hc,lq hc,fh hc,dR hc,b8 hc,eG hc,eS hc,jm hc,bg,aa,e.1,e.2,true_and,and_self,Int.natCast_nonneg]⟩)
  |true=>
  have P7:=jz hu;simp only [go_sem,cj,dX,dU,aa,am,aQ,bg,aP,Option.bind_assoc,reduceIte,bL b0,hn,aI b1,aI b2,cU b0,ub,ab hs (w:=[91]) rfl b1,ab hs (w:=[43,61]) rfl b1,ai hs (w:=[61]) rfl b1,ab hs (w:=[38]) rfl b2,pP,u7,Nz,OW,fN b3 bn,hu,I4 b3 bn hu,sk P7];cases h1:aM ts (a + 1 + 1 + 1 + 1) [91] with
  |false=>simp only [go_sem,aL b4,ai hs (w:=[91]) rfl b4,h1,aa,am,aQ,bg,aP,Option.bind_assoc,reduceIte];exact BS.er (c:=6) (p:=pl ts en (a + 1 + 1 + 1 + 1)) (by decide) ((ff (ts:=ts) (en:=en) (c:=6) (p:=pl ts en (a + 1 + 1 + 1 + 1)) (by decide)).mono fun k e=>⟨rfl,by have hc:(6:Int)≠0:=(by decide);simp only [go_sem,fw,cM hc,dE hc,lq hc,fh hc,dR hc,b8 hc,eG hc,eS hc,jm hc,bg,aa,e.1,e.2,true_and,and_self,Int.natCast_nonneg]⟩)
  |true=>
  have Va:=bw h1;simp only [go_sem,aL b4,ai hs (w:=[91]) rfl b4,h1,aa,am,aQ,bg,aP,Option.bind_assoc,reduceIte];have hx:jh (ns ++ [(23,(tk ts (a + 1 + 1 + 1)).2.1,0,(tk ts (a + 1 + 1 + 1)).2.2.1,[])]):=p4.add (rM rfl (by decide))
  refine BS.bind (Ef hs (a:=a + 1 + 1 + 1 + 1 + 1) ⟨by omega,p2,by simp;omega,hx⟩) (fun x1 a1 d1 mE g1=>?_) (fun c p hc=>(ff (ts:=ts) (en:=en) (p:=p) hc).mono fun k e v a' ee d'=>⟨rfl,by simp only [go_sem,fw,cM hc,dE hc,lq hc,fh hc,dR hc,b8 hc,eG hc,eS hc,jm hc,bg,aa,e.1,e.2,true_and,and_self,Int.natCast_nonneg]⟩)
  obtain⟨q11,q12,rfl,q13,JS,M1,N0,N3,Mm,q19⟩:=g1;simp only [List.length_append,List.length_cons,List.length_nil] at q13 q19;have c1:a1≤4000000000000000000:=by omega
  have Mr:a1 + 1≤4000000000000000000:=by omega
  have m1:mE.length≤4000000:=by omega
  cases h2:aM ts (a1) [93] with
  |false=>simp only [go_sem,aL c1,ai hs (w:=[93]) rfl c1,h2,aa,am,aQ,bg,aP,Option.bind_assoc,reduceIte];exact BS.er (c:=6) (p:=pl ts en (a1)) (by decide) ((ff (ts:=ts) (en:=en) (c:=6) (p:=pl ts en (a1)) (by decide)).mono fun k e=>⟨rfl,by have hc:(6:Int)≠0:=(by decide);simp only [go_sem,fw,cM hc,dE hc,lq hc,fh hc,dR hc,b8 hc,eG hc,eS hc,jm hc,bg,aa,e.1,e.2,true_and,and_self,Int.natCast_nonneg]⟩)
  |true=>
  have QU:=bw h2;simp only [go_sem,aL c1,ai hs (w:=[93]) rfl c1,h2,aa,am,aQ,bg,aP,Option.bind_assoc,reduceIte];cases h3:aM ts (a1 + 1) [59] with
  |false=>simp only [go_sem,aL Mr,ai hs (w:=[59]) rfl Mr,h3,aa,am,aQ,bg,aP,Option.bind_assoc,reduceIte];exact BS.er (c:=6) (p:=pl ts en (a1 + 1)) (by decide) ((ff (ts:=ts) (en:=en) (c:=6) (p:=pl ts en (a1 + 1)) (by decide)).mono fun k e=>⟨rfl,by have hc:(6:Int)≠0:=(by decide);simp only [go_sem,fw,cM hc,dE hc,lq hc,fh hc,dR hc,b8 hc,eG hc,eS hc,jm hc,bg,aa,e.1,e.2,true_and,and_self,Int.natCast_nonneg]⟩)
  |true=>
  have adZ:=bw h3;simp only [go_sem,aL Mr,ai hs (w:=[59]) rfl Mr,h3,aa,am,aQ,bg,aP,Option.bind_assoc,reduceIte];simp only [go_sem,gY m1,dN m1];have jD:=JS.length_le;simp only [List.length_append,List.length_cons,List.length_nil] at jD;exact BS.ok (kx (by omega) (by omega) (by omega) ((List.prefix_append _ _).trans JS) M1 ⟨by simp;omega,by simp [bZ,Mm,pX JS (show(0:Int)≤(ns.length:Int) by omega) (by simp;omega),qs],by simp⟩ rfl (by rw [xd,qQ JS (show(0:Int)≤(ns.length:Int) by omega) (by simp;omega),nJ,yy];omega))
 |false=>
 cases l7:(sY ts (a + 1 + 1) 1 && aM ts (a + 1 + 1 + 1) [40]) with
 |true=>
  obtain⟨hu,mb⟩:=Bool.and_eq_true_iff.1 l7;have hl1:=bw mb;have hx:jh (ns ++ [(23,(tk ts (a + 1 + 1)).2.1,0,(tk ts (a + 1 + 1)).2.2.1,[])]):=p4.add (rM rfl (by decide))
  have b5:a + 1 + 1 + 1 + 1 + 1≤4000000000000000000:=by omega
  have nu:(ns ++ [(23,(tk ts (a + 1 + 1)).2.1,0,(tk ts (a + 1 + 1)).2.2.1,[])]).length≤4000000:=by simp;omega
  have ku:kd (ns ++ [(23,(tk ts (a + 1 + 1)).2.1,0,(tk ts (a + 1 + 1)).2.2.1,[])]) (ns.length:Int)=23:=qs;cases h1:aM ts (a + 1 + 1 + 1 + 1) [41] with
  |true=>
   have P7:=bw h1;have hL:Ev fun k=>bt k k ts en ((a + 1 + 1 + 1 + 1:Nat):Int) (ns ++ [(23,(tk ts (a + 1 + 1)).2.1,0,(tk ts (a + 1 + 1)).2.2.1,[])]) (d:Int) 0 0 [(ns.length:Int)]=some (((a + 1 + 1 + 1 + 1:Nat):Int),(ns ++ [(23,(tk ts (a + 1 + 1)).2.1,0,(tk ts (a + 1 + 1)).2.2.1,[])]),(d:Int),0,0,[(ns.length:Int)],()):=
    cm.jI (p2:=fun q k=>bt q k ts en ((a + 1 + 1 + 1 + 1:Nat):Int) (ns ++ [(23,(tk ts (a + 1 + 1)).2.1,0,(tk ts (a + 1 + 1)).2.2.1,[])]) (d:Int) 0 0 [(ns.length:Int)]=_) (cm.succ (cm.of fun q k=>by
     simp only [go_sem,bt,aa,bX hs (w:=[41]) rfl,h1]))
   cases h2:aM ts (a + 1 + 1 + 1 + 1 + 1) [59] with
   |true=>
    have hl3:=bw h2;refine⟨.ok _ (a + 1 + 1 + 1 + 1 + 1 + 1) d ((ns ++ [(23,(tk ts (a + 1 + 1)).2.1,0,(tk ts (a + 1 + 1)).2.2.1,[])]) ++ [(22,(tk ts a).2.1,0,(tk ts a).2.2.1,[(ns.length:Int)])]),kx (by omega) (by omega) (by simp;omega) (List.prefix_append _ _) hx ⟨by simp;omega,by simp [bZ,qs],by simp⟩ rfl (by rw [oC,nJ,yy];simp;omega),hL.mono fun k e=>⟨?_,?_⟩⟩
    ·simp only [go_sem,tx,cj,dX,aa,am,aQ,reduceIte,bL b0,hn,aI b1,aI b2,pP,u7,Nz,OW,hu,mb,yu b2,fN b2 bn,aL b3,aI b4,h1,aL b5,h2,gY nu]
    ·simp only [go_sem,Ka,dU,aa,bg,aP,reduceIte,cU b0,hn,ub,ab hs (w:=[91]) rfl b1,ab hs (w:=[43,61]) rfl b1,ai hs (w:=[61]) rfl b1,ab hs (w:=[38]) rfl b2,pP,u7,Nz,OW,hu,mb,C4 hs (w:=[40]) rfl b2,I4 b2 bn hu,sk (jz hu),ai hs (w:=[40]) rfl b3,e,ai hs (w:=[41]) rfl b4,ai hs (w:=[59]) rfl b5,h1,h2,dN nu]
   |false=>
    refine⟨.er 6 (pl ts en (a + 1 + 1 + 1 + 1 + 1)),show(6:Int)≠0 by decide,hL.mono fun k e=>⟨?_,0,a + 1 + 1 + 1 + 1 + 1,(ns ++ [(23,(tk ts (a + 1 + 1)).2.1,0,(tk ts (a + 1 + 1)).2.2.1,[])]),d,?_⟩⟩
    ·simp only [go_sem,tx,cj,dX,aa,am,aQ,reduceIte,bL b0,hn,aI b1,aI b2,pP,u7,Nz,OW,hu,mb,yu b2,fN b2 bn,aL b3,aI b4,h1,aL b5,h2]
    ·simp only [go_sem,Ka,dU,aa,bg,aP,reduceIte,cU b0,hn,ub,ab hs (w:=[91]) rfl b1,ab hs (w:=[43,61]) rfl b1,ai hs (w:=[61]) rfl b1,ab hs (w:=[38]) rfl b2,pP,u7,Nz,OW,hu,mb,C4 hs (w:=[40]) rfl b2,I4 b2 bn hu,sk (jz hu),ai hs (w:=[40]) rfl b3,e,ai hs (w:=[41]) rfl b4,ai hs (w:=[59]) rfl b5,h1,h2,b8 (show(6:Int)≠0 by decide)]
  |false=>
  obtain⟨r,hi,hr⟩:=Ak (en:=en) hs (a:=a + 1 + 1 + 1 + 1) (d:=d) (ns:=(ns ++ [(23,(tk ts (a + 1 + 1)).2.1,0,(tk ts (a + 1 + 1)).2.2.1,[])])) ⟨by omega,p2,by simp;omega,hx⟩
  cases r with
  |er c p=>
   have hc:c≠0:=hi;have hL:Ev fun k=>∃(a':Nat) (ee:List eg) (d':Int) (v:Int),bt k k ts en ((a + 1 + 1 + 1 + 1:Nat):Int) (ns ++ [(23,(tk ts (a + 1 + 1)).2.1,0,(tk ts (a + 1 + 1)).2.2.1,[])]) (d:Int) 0 0 [(ns.length:Int)]=some ((a':Int),ee,d',c,p,[(ns.length:Int),v],()):=
    cm.jI (p2:=fun q k=>∃(a':Nat) (ee:List eg) (d':Int) (v:Int),bt q k ts en ((a + 1 + 1 + 1 + 1:Nat):Int) (ns ++ [(23,(tk ts (a + 1 + 1)).2.1,0,(tk ts (a + 1 + 1)).2.2.1,[])]) (d:Int) 0 0 [(ns.length:Int)]=some ((a':Int),ee,d',c,p,[(ns.length:Int),v],())) (cm.succ (cm.succ (hr.tw.mono fun q k e=>by
     obtain⟨_,v,a',ee,d',e2⟩:=e;refine⟨a',ee,d',v,?_⟩;rw [bt];simp only [go_sem,aa,bX hs (w:=[41]) rfl,h1,List.length_cons,List.length_nil,show((((0 + 1:Nat):Int)) > 1)=False from by simp,show an q ts ((a + 1 + 1 + 1 + 1:Nat):Int) en (ns ++ [(23,(tk ts (a + 1 + 1)).2.1,0,(tk ts (a + 1 + 1)).2.2.1,[])]) (d:Int) 0 0 1=_ from e2,cp (l:=[(ns.length:Int)]) (v:=v) (by simp),List.cons_append,List.nil_append]
     rw [bt];simp only [go_sem,aa,beq_eq_false_iff_ne.2 hc])))
   refine⟨.er c p,hi,(hr.and hL).mono fun k e=>?_⟩;obtain⟨⟨e1,_⟩,a',ee,d',v,e2⟩:=e;refine⟨?_,0,a',ee,d',?_⟩
   ·simp only [go_sem,tx,cj,dX,aa,am,aQ,reduceIte,bL b0,hn,aI b1,aI b2,pP,u7,Nz,OW,hu,mb,yu b2,fN b2 bn,aL b3,aI b4,h1,show aj k ts en ((a + 1 + 1 + 1 + 1:Nat):Int) (d:Int) (ns ++ [(23,(tk ts (a + 1 + 1)).2.1,0,(tk ts (a + 1 + 1)).2.2.1,[])]) 1=_ from e1]
   ·simp only [go_sem,dU,aa,bg,aP,reduceIte,cU b0,hn,ub,ab hs (w:=[91]) rfl b1,ab hs (w:=[43,61]) rfl b1,ai hs (w:=[61]) rfl b1,ab hs (w:=[38]) rfl b2,pP,u7,Nz,OW,hu,mb,C4 hs (w:=[40]) rfl b2,I4 b2 bn hu,sk (jz hu),ai hs (w:=[40]) rfl b3,e2,cM hc,b8 hc]
  |ok v a1 d1 mE=>
   obtain⟨q1,q2,rfl,q3,q4,q5,q6,q7,q8,q9⟩:=hi;simp only [List.length_append,List.length_cons,List.length_nil] at q3 q9;have jD:=q4.length_le;simp only [List.length_append,List.length_cons,List.length_nil] at jD;have ku1:kd mE (ns.length:Int)=23:=by rw [pX q4 (by omega) (by simp;omega),qs]
   obtain⟨r,gi,gr⟩:=UP (en:=en) hs (u:=(ns.length:Int)) p2 _ a1 mE [v] (Nat.le_refl _) ⟨q2,p2,by omega,q5⟩ ⟨by simp<;>omega,by simpa using q8⟩ (by simp) (by simp<;>omega)
   have hL:Ev fun k=>MH [(ns.length:Int)] (pR ts en [41] r) d1 (bt k k ts en ((a + 1 + 1 + 1 + 1:Nat):Int) (ns ++ [(23,(tk ts (a + 1 + 1)).2.1,0,(tk ts (a + 1 + 1)).2.2.1,[])]) (d1:Int) 0 0 [(ns.length:Int)]):=
    cm.jI (p2:=fun q k=>MH [(ns.length:Int)] (pR ts en [41] r) d1 (bt q k ts en ((a + 1 + 1 + 1 + 1:Nat):Int) (ns ++ [(23,(tk ts (a + 1 + 1)).2.1,0,(tk ts (a + 1 + 1)).2.2.1,[])]) (d1:Int) 0 0 [(ns.length:Int)])) (cm.succ ((hr.tw.and gr).mono fun q k e=>by
     obtain⟨⟨_,e2⟩,_,e4⟩:=e;simp only [go_sem,bt,aa,bX hs (w:=[41]) rfl,h1,List.length_cons,List.length_nil,show((((0 + 1:Nat):Int)) > 1)=False from by simp,show an q ts ((a + 1 + 1 + 1 + 1:Nat):Int) en (ns ++ [(23,(tk ts (a + 1 + 1)).2.1,0,(tk ts (a + 1 + 1)).2.2.1,[])]) (d1:Int) 0 0 1=_ from e2,cp (l:=[(ns.length:Int)]) (v:=v) (by simp),List.cons_append,List.nil_append]
     exact e4))
   have hE:=(hr.and gr.jI).and hL;cases r with
   |er c p=>
    have hc:c≠0:=gi;refine⟨.er c p,gi,hE.mono fun k e=>?_⟩;obtain⟨⟨⟨e1,_⟩,e3,_⟩,l,a',ee,d',e4⟩:=e;refine⟨?_,0,a',ee,d',?_⟩
    ·simp only [go_sem,tx,cj,dX,aa,am,aQ,reduceIte,bL b0,hn,aI b1,aI b2,pP,u7,Nz,OW,hu,mb,yu b2,fN b2 bn,aL b3,aI b4,h1,show aj k ts en ((a + 1 + 1 + 1 + 1:Nat):Int) (d1:Int) (ns ++ [(23,(tk ts (a + 1 + 1)).2.1,0,(tk ts (a + 1 + 1)).2.2.1,[])]) 1=_ from e1,cp (l:=[(ns.length:Int)]) (v:=v) (by simp),List.cons_append,List.nil_append]
     simp only [go_sem,show cT k k ts en _ (a1:Int) (d1:Int) mE=_ from e3]
    ·simp only [go_sem,dU,aa,bg,aP,reduceIte,cU b0,hn,ub,ab hs (w:=[91]) rfl b1,ab hs (w:=[43,61]) rfl b1,ai hs (w:=[61]) rfl b1,ab hs (w:=[38]) rfl b2,pP,u7,Nz,OW,hu,mb,C4 hs (w:=[40]) rfl b2,I4 b2 bn hu,sk (jz hu),ai hs (w:=[40]) rfl b3,e4,cM hc,b8 hc]
   |ok l a2 pQ=>
    obtain⟨g1,g2,g3,g4,g5,g6,g7,g8⟩:=gi;rw [oC] at g8;have wu2:wt pQ (ns.length:Int)=1:=by rw [qQ (q4.trans g4) (by omega) (by simp;omega),nJ];rfl
    have c2:a2≤4000000000000000000:=by omega
    have c21:a2 + 1≤4000000000000000000:=by omega
    have m2:pQ.length≤4000000:=by omega
    have ku2:kd pQ (ns.length:Int)=23:=by rw [pX g4 (by omega) (by omega),ku1]
    have aeG:=g4.length_le;cases h3:aM ts a2 [41] with
    |false=>
     refine⟨.er 6 (pl ts en a2),show(6:Int)≠0 by decide,hE.mono fun k e=>?_⟩
     obtain⟨⟨⟨e1,_⟩,e3,_⟩,e4⟩:=e;simp only [go_sem,pR,h3,reduceIte] at e4;obtain⟨l',a',ee,d',e4⟩:=e4;refine⟨?_,0,a',ee,d',?_⟩
     ·simp only [go_sem,tx,cj,dX,aa,am,aQ,reduceIte,bL b0,hn,aI b1,aI b2,pP,u7,Nz,OW,hu,mb,yu b2,fN b2 bn,aL b3,aI b4,h1,show aj k ts en ((a + 1 + 1 + 1 + 1:Nat):Int) (d1:Int) (ns ++ [(23,(tk ts (a + 1 + 1)).2.1,0,(tk ts (a + 1 + 1)).2.2.1,[])]) 1=_ from e1,cp (l:=[(ns.length:Int)]) (v:=v) (by simp),List.cons_append,List.nil_append]
      simp only [go_sem,show cT k k ts en _ (a1:Int) (d1:Int) mE=_ from e3,aL c2,h3,reduceIte]
     ·simp only [go_sem,dU,aa,bg,aP,reduceIte,cU b0,hn,ub,ab hs (w:=[91]) rfl b1,ab hs (w:=[43,61]) rfl b1,ai hs (w:=[61]) rfl b1,ab hs (w:=[38]) rfl b2,pP,u7,Nz,OW,hu,mb,C4 hs (w:=[40]) rfl b2,I4 b2 bn hu,sk (jz hu),ai hs (w:=[40]) rfl b3,e4,cM (show(6:Int)≠0 by decide),b8 (show(6:Int)≠0 by decide)]
    |true=>
    have hl3:=bw h3;cases h4:aM ts (a2 + 1) [59] with
    |false=>
     refine⟨.er 6 (pl ts en (a2 + 1)),show(6:Int)≠0 by decide,hE.mono fun k e=>?_⟩
     obtain⟨⟨⟨e1,_⟩,e3,_⟩,e4⟩:=e;simp only [pR,h3,reduceIte] at e4;refine⟨?_,0,a2 + 1,pQ,d1,?_⟩
     ·simp only [go_sem,tx,cj,dX,aa,am,aQ,reduceIte,bL b0,hn,aI b1,aI b2,pP,u7,Nz,OW,hu,mb,yu b2,fN b2 bn,aL b3,aI b4,h1,show aj k ts en ((a + 1 + 1 + 1 + 1:Nat):Int) (d1:Int) (ns ++ [(23,(tk ts (a + 1 + 1)).2.1,0,(tk ts (a + 1 + 1)).2.2.1,[])]) 1=_ from e1,cp (l:=[(ns.length:Int)]) (v:=v) (by simp),List.cons_append,List.nil_append]
      simp only [go_sem,show cT k k ts en _ (a1:Int) (d1:Int) mE=_ from e3,aL c2,aL c21,h3,h4,reduceIte]
     ·simp only [go_sem,dU,aa,bg,aP,reduceIte,cU b0,hn,ub,ab hs (w:=[91]) rfl b1,ab hs (w:=[43,61]) rfl b1,ai hs (w:=[61]) rfl b1,ab hs (w:=[38]) rfl b2,pP,u7,Nz,OW,hu,mb,C4 hs (w:=[40]) rfl b2,I4 b2 bn hu,sk (jz hu),ai hs (w:=[40]) rfl b3,show bt k k ts en ((a + 1 + 1 + 1 + 1:Nat):Int) (ns ++ [(23,(tk ts (a + 1 + 1)).2.1,0,(tk ts (a + 1 + 1)).2.2.1,[])]) (d1:Int) 0 0 [(ns.length:Int)]=_ from e4,ai hs (w:=[41]) rfl c2,ai hs (w:=[59]) rfl c21,h3,h4,b8 (show(6:Int)≠0 by decide)]
    |true=>
     have hl4:=bw h4;refine⟨.ok _ (a2 + 1 + 1) d1 (pQ ++ [(22,(tk ts a).2.1,0,(tk ts a).2.2.1,[(ns.length:Int)] ++ l)]),kx (by omega) (by omega) (by omega) ((List.prefix_append _ _).trans (q4.trans g4)) g5 ⟨?_,?_,by simp,by simp at g7 ⊢;omega⟩ rfl (by rw [pY,oC,wu2];omega),hE.mono fun k e=>?_⟩
     ·intro j hj
      rcases List.mem_append.1 hj with hj | hj
      ·rw [List.mem_singleton.1 hj];omega
      ·exact g6.v j hj
     ·have:l.all (fun j=>zP (kd pQ j))=true:=List.all_eq_true.2 g6.c
      simp [bZ,ku2];simpa using this
     ·obtain⟨⟨⟨e1,_⟩,e3,_⟩,e4⟩:=e
      simp only [pR,h3,reduceIte] at e4;refine⟨?_,?_⟩
      ·simp only [go_sem,tx,cj,dX,aa,am,aQ,reduceIte,bL b0,hn,aI b1,aI b2,pP,u7,Nz,OW,hu,mb,yu b2,fN b2 bn,aL b3,aI b4,h1,show aj k ts en ((a + 1 + 1 + 1 + 1:Nat):Int) (d1:Int) (ns ++ [(23,(tk ts (a + 1 + 1)).2.1,0,(tk ts (a + 1 + 1)).2.2.1,[])]) 1=_ from e1,cp (l:=[(ns.length:Int)]) (v:=v) (by simp),List.cons_append,List.nil_append]
       simp only [go_sem,show cT k k ts en _ (a1:Int) (d1:Int) mE=_ from e3,aL c2,aL c21,h3,h4,reduceIte,gY m2,List.cons_append,List.nil_append]
      ·simp only [go_sem,Ka,dU,aa,bg,aP,reduceIte,cU b0,hn,ub,ab hs (w:=[91]) rfl b1,ab hs (w:=[43,61]) rfl b1,ai hs (w:=[61]) rfl b1,ab hs (w:=[38]) rfl b2,pP,u7,Nz,OW,hu,mb,C4 hs (w:=[40]) rfl b2,I4 b2 bn hu,sk (jz hu),ai hs (w:=[40]) rfl b3,show bt k k ts en ((a + 1 + 1 + 1 + 1:Nat):Int) (ns ++ [(23,(tk ts (a + 1 + 1)).2.1,0,(tk ts (a + 1 + 1)).2.2.1,[])]) (d1:Int) 0 0 [(ns.length:Int)]=_ from e4,ai hs (w:=[41]) rfl c2,ai hs (w:=[59]) rfl c21,h3,h4,dN m2]
 |false=>
 cases O6:aM ts (a + 1 + 1) [110,117,108,108] with
 |true=>
  have hl1:=bw O6;have hk0:sY ts (a + 1 + 1) 1=false:=R0 hs rfl (.inl rfl) O6;simp only [go_sem,cj,dX,dU,aa,am,aQ,bg,aP,Option.bind_assoc,reduceIte,bL b0,hn,aI b1,aI b2,cU b0,ub,ab hs (w:=[91]) rfl b1,ab hs (w:=[43,61]) rfl b1,ai hs (w:=[61]) rfl b1,ab hs (w:=[38]) rfl b2,pP,u7,Nz,OW,hk0,rU b2,bX hs (w:=[110,117,108,108]) rfl,O6,gY bn,dN bn,ag (show a + 1 + 1 < _ by omega)]
  have hx:jh (ns ++ [(29,pl ts en (a + 1 + 1),0,[],[])]):=p4.add (rM rfl (by decide))
  have nu:(ns ++ [(29,pl ts en (a + 1 + 1),0,[],[])]:List eg).length≤4000000:=by simp;omega
  cases h1:aM ts (a + 1 + 1 + 1) [59] with
  |false=>simp only [go_sem,aL b3,ai hs (w:=[59]) rfl b3,h1,aa,am,aQ,bg,aP,Option.bind_assoc,reduceIte];exact BS.er (c:=6) (p:=pl ts en (a + 1 + 1 + 1)) (by decide) ((ff (ts:=ts) (en:=en) (c:=6) (p:=pl ts en (a + 1 + 1 + 1)) (by decide)).mono fun k e=>⟨rfl,by have hc:(6:Int)≠0:=(by decide);simp only [go_sem,fw,cM hc,dE hc,lq hc,fh hc,dR hc,b8 hc,eG hc,eS hc,jm hc,bg,aa,e.1,e.2,true_and,and_self,Int.natCast_nonneg]⟩)
  |true=>
  have Va:=bw h1;simp only [go_sem,aL b3,ai hs (w:=[59]) rfl b3,h1,aa,am,aQ,bg,aP,Option.bind_assoc,reduceIte];simp only [go_sem,gY nu,dN nu];exact BS.ok (kx (by omega) (by omega) (by simp;omega) (List.prefix_append _ _) hx ⟨by simp;omega,by simp [bZ,qs],by simp⟩ rfl (by rw [oC,nJ,yy];simp;omega))
 |false=>
 have ad9:(bif sY ts (a + 1 + 1) 1 then aM ts (a + 1 + 1 + 1) [40] else false)=false:=by rw [←l7];cases sY ts (a + 1 + 1) 1<;>rfl
 have pick:∀{α:Type} (f g:α),(bif sY ts (a + 1 + 1) 1 then(bif aM ts (a + 1 + 1 + 1) [40] then f else g) else g)=g:=fun f g=>by revert ad9;cases sY ts (a + 1 + 1) 1<;>cases aM ts (a + 1 + 1 + 1) [40]<;>simp
 simp only [go_sem,cj,dX,dU,aa,am,aQ,bg,aP,Option.bind_assoc,reduceIte,bL b0,hn,aI b1,aI b2,cU b0,ub,ab hs (w:=[91]) rfl b1,ab hs (w:=[43,61]) rfl b1,ai hs (w:=[61]) rfl b1,ab hs (w:=[38]) rfl b2,pP,u7,Nz,OW,yu b2,C4 hs (w:=[40]) rfl b2,pick,rU b2,bX hs (w:=[110,117,108,108]) rfl,O6];refine BS.bind (Ef hs (a:=a + 1 + 1) ⟨by omega,p2,by omega,p4⟩) (fun x1 a1 d1 mE g1=>?_) (fun c p hc=>(ff (ts:=ts) (en:=en) (p:=p) hc).mono fun k e v a' ee d'=>⟨rfl,by simp only [go_sem,fw,cM hc,dE hc,lq hc,fh hc,dR hc,b8 hc,eG hc,eS hc,jm hc,bg,aa,e.1,e.2,true_and,and_self,Int.natCast_nonneg]⟩)
 obtain⟨q11,q12,rfl,q13,JS,M1,N0,N3,Mm,q19⟩:=g1;have c1:a1≤4000000000000000000:=by omega
 have Mr:a1 + 1≤4000000000000000000:=by omega
 have m1:mE.length≤4000000:=by omega
 cases h1:aM ts (a1) [59] with
 |false=>simp only [go_sem,aL c1,ai hs (w:=[59]) rfl c1,h1,aa,am,aQ,bg,aP,Option.bind_assoc,reduceIte];exact BS.er (c:=6) (p:=pl ts en (a1)) (by decide) ((ff (ts:=ts) (en:=en) (c:=6) (p:=pl ts en (a1)) (by decide)).mono fun k e=>⟨rfl,by have hc:(6:Int)≠0:=(by decide);simp only [go_sem,fw,cM hc,dE hc,lq hc,fh hc,dR hc,b8 hc,eG hc,eS hc,jm hc,bg,aa,e.1,e.2,true_and,and_self,Int.natCast_nonneg]⟩)
 |true=>
 have Va:=bw h1;simp only [go_sem,aL c1,ai hs (w:=[59]) rfl c1,h1,aa,am,aQ,bg,aP,Option.bind_assoc,reduceIte];simp only [go_sem,gY m1,dN m1];exact BS.ok (kx (by omega) (by omega) (by omega) JS M1 ⟨by simp;omega,by simp [bZ,Mm],by simp⟩ rfl (by rw [oC];exact q19))
end
end Go.Fx.R5
namespace Go.Fx.R5
open Go Go.Fx
section
theorem BS.up{P:Int→Nat→Nat→List eg→Prop}{i:Nat→IT}{s:Nat→ST}(h:BS P i s):BS P (fun k=>i (k + 1)) s:=by obtain⟨r,hi,hr⟩:=h;have h1:Ev fun k=>tx r (i k):=hr.mono fun _ e=>e.1;have h2:Ev fun k=>Ka r (s k):=hr.mono fun _ e=>e.2;exact⟨r,hi,h1.Ze.and h2⟩
theorem BS.upS{P:Int→Nat→Nat→List eg→Prop}{i:Nat→IT}{s:Nat→ST}(h:BS P i s):BS P i (fun k=>s (k + 1)):=by obtain⟨r,hi,hr⟩:=h;have h1:Ev fun k=>tx r (i k):=hr.mono fun _ e=>e.1;have h2:Ev fun k=>Ka r (s k):=hr.mono fun _ e=>e.2;exact⟨r,hi,h1.and h2.Ze⟩
theorem nI(k:Nat):eu (k + 1)=bN (eu k) (lA k) (iO k) k:=rfl
theorem Hi(k:Nat):lA (k + 1)=jT (eu k) (lA k) (iO k) k:=rfl
theorem C6(k:Nat):iO (k + 1)=jw (eu k) (lA k) (iO k) k:=rfl
theorem GJ(k:Nat):dc (k + 1)=fE (dc k) (cW k) (gZ k) (gl k) k:=rfl
theorem nz(k:Nat):cW (k + 1)=bo (dc k) (cW k) (gZ k) (gl k) k:=rfl
theorem GF(k:Nat):gZ (k + 1)=iC (dc k) (cW k) (gZ k) (gl k) k:=rfl
theorem QZ(k:Nat):gl (k + 1)=jN (dc k) (cW k) (gZ k) (gl k) k:=rfl
variable {ts:List yn} {en:Int} {c p:Int} {a d:Nat} {ns:List eg}
theorem YJ(hc:c≠0):Ev fun k=>∀(a:Nat) (ns:List eg) (d:Int),iO k ts (a:Int) en ns d c p=some (0,(a:Int),ns,dP (d + 1),c,p,()):=
 Ev.succ (Ev.of fun k a ns d=>by rw [C6];simp only [go_sem,jw,bg,cM hc,eG hc])
theorem fb(hc:c≠0):Ev fun k=>(∀(a:Nat) (ns:List eg) (d:Int),an k ts (a:Int) en ns d c p 1=some (0,(a:Int),ns,d,c,p,()))∧
  (∀(a:Nat) (ns:List eg) (d:Int),dO k ts (a:Int) en ns d c p=some (0,(a:Int),ns,d,c,p,()))∧(∀(a:Nat) (ns:List eg) (d:Int),iO k ts (a:Int) en ns d c p=some (0,(a:Int),ns,dP (d + 1),c,p,())):=
 (fl1 hc).and ((Wo hc).and (YJ hc))
abbrev StB(ts:List yn)(en:Int)(a d:Nat)(ns:List eg):Prop:=BS (wH ts MI 1 a d ns) (fun k=>cW k ts en (a:Int) (d:Int) ns) (fun k=>eu k ts (a:Int) en ns (d:Int) 0 0)
abbrev BlB(ts:List yn)(en:Int)(a d:Nat)(ns:List eg):Prop:=BS (wH ts (· == 8) 1 a d ns) (fun k=>gZ k ts en (a:Int) (d:Int) ns) (fun k=>iO k ts (a:Int) en ns (d:Int) 0 0)
def WZ(r:Mq)(d:Int)(o:Option ((Int×Int×List eg×XI×Unit)⊕(Int×Int×Unit))):Prop:=match r with
 |.ok l a ns=>o=some (.inl (((a + 1:Nat):Int),d,ns,l,()))
 |.er c p=>o=some (.inr (c,p,()))
theorem HJ(x y:Int):lM [x] [y]=some [x,y]:=by simp [lM]
theorem HK(x y z:Int):lM [x,y] [z]=some [x,y,z]:=by simp [lM]
theorem L5(hs:oM ts)(hd:d≤10){a0:Nat}(IH:∀ a' ee,a0≤a'→wI ts a' d ee→StB ts en a' d ee):∀ m a (ns:List eg) (l:XI),ts.length - a≤m→a0≤a→wI ts a d ns→iK MI ns l→l.length≤a→
  ∃ r,Mp ts MI a ns l.length (ju ns l) r∧(∀ l' a' ee,r = .ok l' a' ee→aM ts a' [125]=true)∧cm fun q k=>
   WZ r d (bQ (dc q) (cW q) (gZ q) (gl q) q k ts en (a:Int) (d:Int) ns l)∧
   MH [] r d (dY (eu q) (lA q) (iO q) q k ts en (a:Int) ns (d:Int) 0 0 l):=by
 have h7:=hs.len;intro m;induction m with
 |zero=>
  intro a ns l hm h0 hp hk hl;have b0:a≤4000000000000000000:=by have:=hp.hi;omega
  have bk:l.length≤4000000:=by have:=hp.hi;omega
  have l7:aM ts a [125]=false:=by
   cases h:aM ts a [125] with
   |false=>rfl
   |true=>have:=bw h;omega
  obtain⟨r,hi,hr⟩:=IH a ns h0 hp;cases r with
  |er c p=>
   have hc:c≠0:=hi;refine⟨.er c p,hi,(fun _ _ _ h=>by cases h),cm.succ (cm.succ (hr.tw.mono fun q k e=>?_))⟩
   obtain⟨e1,v,a',ee,d',e2⟩:=e;refine⟨?_,l ++ [v],a',ee,d',?_⟩
   ·simp only [go_sem,WZ,bQ,aI b0,l7,reduceIte,show cW q ts en (a:Int) (d:Int) ns=_ from e1]
   ·rw [dY]
    simp only [go_sem,aa,bX hs (w:=[125]) rfl,l7,show eu q ts (a:Int) en ns (d:Int) 0 0=_ from e2,cp bk]
    rw [dY];simp only [go_sem,aa,beq_eq_false_iff_ne.2 hc]
  |ok v a1 d1 mE=>have:=hi.lo;have:=hi.hi;have:=hp.hi;omega
 |succ m ih=>
  intro a ns l hm h0 hp hk hl;have b0:a≤4000000000000000000:=by have:=hp.hi;omega
  have bk:l.length≤4000000:=by have:=hp.hi;omega
  cases l7:aM ts a [125] with
  |true=>
   refine⟨.ok l a ns,⟨by omega,hp.hi,by omega,List.prefix_refl _,hp.all,hk,by omega,by omega⟩,(fun _ _ _ h=>by cases h;exact l7),cm.succ (cm.of fun q k=>⟨?_,?_⟩)⟩
   ·simp only [go_sem,WZ,bQ,aI b0,l7,reduceIte]
   ·simp only [go_sem,MH,List.nil_append,dY,aa,bX hs (w:=[125]) rfl,l7]
  |false=>
  obtain⟨r,hi,hr⟩:=IH a ns h0 hp;cases r with
  |er c p=>
   have hc:c≠0:=hi;refine⟨.er c p,hi,(fun _ _ _ h=>by cases h),cm.succ (cm.succ (hr.tw.mono fun q k e=>?_))⟩
   obtain⟨e1,v,a',ee,d',e2⟩:=e;refine⟨?_,l ++ [v],a',ee,d',?_⟩
   ·simp only [go_sem,WZ,bQ,aI b0,l7,reduceIte,show cW q ts en (a:Int) (d:Int) ns=_ from e1]
   ·rw [dY]
    simp only [go_sem,aa,bX hs (w:=[125]) rfl,l7,show eu q ts (a:Int) en ns (d:Int) 0 0=_ from e2,cp bk]
    rw [dY];simp only [go_sem,aa,beq_eq_false_iff_ne.2 hc]
  |ok v a1 d1 mE=>
   obtain⟨q1,q2,rfl,q3,q4,q5,q6,q7,q8,q9⟩:=hi;obtain⟨r,gi,gx,gr⟩:=ih a1 mE (l ++ [v]) (by omega) (by omega) ⟨q2,hd,by have:=hp.ln;omega,q5⟩ ((hk.up q4).add q6 q7 q8) (by simp;omega)
   refine⟨r,gi.from (by omega) (by omega) q4 (by simp;omega) (by rw [pY,oC,pp q4 hk.v];omega),gx,cm.succ ((hr.tw.and gr).mono fun q k e=>?_)⟩
   obtain⟨⟨e1,e2⟩,e3,e4⟩:=e;refine⟨?_,?_⟩
   ·simp only [go_sem,bQ,aI b0,l7,reduceIte,show cW q ts en (a:Int) (d1:Int) ns=_ from e1,cp bk]
    exact e3
   ·simp only [go_sem,dY,aa,bX hs (w:=[125]) rfl,l7,show eu q ts (a:Int) en ns (d1:Int) 0 0=_ from e2,cp bk]
    exact e4
theorem cm.split{p r:Nat→Nat→Prop}(h:cm fun q k=>p q k∧r q k):Ev fun k=>p k k∧r (k + 1) (k + 1):=by have h1:Ev fun k=>p k k:=(h.mono fun _ _ e=>e.1).jI;have h2:Ev fun k=>r k k:=(h.mono fun _ _ e=>e.2).jI;exact h1.and h2.Ze
theorem Ya{ns:List eg}{l:XI}(h:iK MI ns l):bZ 8 (l.map (kd ns))=true:=by have:l.all (fun j=>MI (kd ns j))=true:=List.all_eq_true.2 h.c;simp [bZ];simpa using this
theorem Kz(hs:oM ts)(hp:wI ts a d ns)(IH:∀ a' d' ee,a < a'→wI ts a' d' ee→StB ts en a' d' ee):BlB ts en a d ns:=by
 have h7:=hs.len;obtain⟨p1,p2,p3,p4⟩:=hp;have b0:a≤4000000000000000000:=by omega
 cases mb:aM ts a [123] with
 |false=>refine BS.succ ?_;simp only [go_sem,GF,C6,iC,jw,aa,am,aQ,bg,aP,Option.bind_assoc,reduceIte,aL b0,ai hs (w:=[123]) rfl b0,mb];exact BS.er (c:=6) (p:=pl ts en a) (by decide) (Ev.of fun k=>⟨rfl,by simp only [go_sem,eG (show(6:Int)≠0 by decide),fw,Int.natCast_nonneg,and_self]⟩)
 |true=>
 have bq:=bw mb;by_cases hd:d < 10
 ·obtain⟨r,hi,hx,hr⟩:=L5 (en:=en) hs (d:=d + 1) (by omega) (a0:=a + 1) (fun a' ee h p=>IH a' (d + 1) ee (by omega) p) _ (a + 1) ns [] (Nat.le_refl _) (Nat.le_refl _) ⟨by omega,by omega,by omega,p4⟩ iK.nil (by simp)
  have hr:=hr.split;cases r with
  |er c p=>
   have hc:c≠0:=hi;refine⟨.er c p,hi,Ev.succ (Ev.succ (hr.mono fun k e=>?_))⟩;obtain⟨e1,l',a',ee,d',e2⟩:=e;refine⟨?_,0,a',ee,dP (d' - 1),?_⟩
   ·simp only [go_sem,tx,GF (k + 1),iC,aa,am,aQ,bg,aP,Option.bind_assoc,reduceIte,aL b0,gD p2,mb,hd,GJ,fE]
    simp only [go_sem,show bQ _ _ _ _ k k ts en ((a + 1:Nat):Int) ((d + 1:Nat):Int) ns []=_ from e1]
   ·simp only [go_sem,C6 (k + 1),jw,aa,am,aQ,bg,aP,Option.bind_assoc,reduceIte,ai hs (w:=[123]) rfl b0,lu p2,mb,hd,e2,cM hc,b8 hc]
  |ok l' a' ee=>
   obtain⟨g1,g2,g3,g4,g5,g6,g7,g8⟩:=hi;rw [yy] at g8;have l7:=hx _ _ _ rfl;have hl:=bw l7;have b4:a'≤4000000000000000000:=by omega
   have KA:ee.length≤4000000:=by omega
   refine⟨.ok _ (a' + 1) d (ee ++ [(8,pl ts en a,0,[],l')]),kx (by omega) (by omega) (by omega) g4 g5 ⟨g6.v,Ya g6,by simp,by simp at g7 ⊢;omega⟩ rfl g8,Ev.succ (Ev.succ (hr.mono fun k e=>?_))⟩
   obtain⟨e1,e2⟩:=e;refine⟨?_,?_⟩
   ·simp only [go_sem,tx,GF (k + 1),iC,aa,am,aQ,bg,aP,Option.bind_assoc,reduceIte,aL b0,gD p2,mb,hd,GJ,fE]
    simp only [go_sem,show bQ _ _ _ _ k k ts en ((a + 1:Nat):Int) ((d + 1:Nat):Int) ns []=_ from e1,gY KA,kf (show d≤_ by omega)]
   ·simp only [go_sem,Ka,C6 (k + 1),jw,aa,am,aQ,bg,aP,Option.bind_assoc,reduceIte,ai hs (w:=[123]) rfl b0,lu p2,mb,hd]
    simp only [go_sem,show dY _ _ _ (k + 1) (k + 1) ts en ((a + 1:Nat):Int) ns ((d + 1:Nat):Int) 0 0 []=_ from e2,ai hs (w:=[125]) rfl b4,l7,reduceIte,dN KA,List.nil_append,kf (show d≤_ by omega)]
 ·refine BS.succ ?_
  simp only [go_sem,GF,C6,iC,jw,aa,am,aQ,bg,aP,Option.bind_assoc,reduceIte,aL b0,ai hs (w:=[123]) rfl b0,gD p2,lu p2,mb,hd];exact BS.er (c:=7) (p:=pl ts en (a + 1)) (by decide) (Ev.of fun k=>⟨rfl,by simp only [fw,Int.natCast_nonneg,and_self]⟩)
theorem Og(hs:oM ts)(hp:wI ts a d ns)(IH:∀ a' d' ee,a < a'→wI ts a' d' ee→BlB ts en a' d' ee):StB ts en a d ns:=by
 have h7:=hs.len;have zf:=hp;obtain⟨p1,p2,p3,p4⟩:=hp;have b0:a≤4000000000000000000:=by omega
 have b1:a + 1≤4000000000000000000:=by omega
 have b2:a + 1 + 1≤4000000000000000000:=by omega
 have b3:a + 1 + 1 + 1≤4000000000000000000:=by omega
 have bn:ns.length≤4000000:=by omega
 cases hn:sY ts a 1 with
 |true=>refine BS.succ ?_;simp only [go_sem,nz,nI,bo,bN,aa,am,aQ,bg,aP,Option.bind_assoc,reduceIte,hn];exact BS.bind (X8 hs zf hn) (fun v a1 d1 mE g=>BS.ok g) (fun c p hc=>Ev.of fun k v a' ee d'=>⟨rfl,by simp only [fw,Int.natCast_nonneg,and_self]⟩)
 |false=>
 cases oi:aM ts a [42] with
 |true=>
  have hl0:=bw oi;refine BS.succ ?_;cases hm:sY ts (a + 1) 1 with
  |false=>
   simp only [go_sem,nz,nI,bo,bN,aa,am,aQ,bg,aP,Option.bind_assoc,reduceIte,hn,aI b0,bX hs (w:=[42]) rfl,ab hs (w:=[42]) rfl b0,bX hs (w:=[105,102]) rfl,ab hs (w:=[105,102]) rfl b0,bX hs (w:=[119,104,105,108,101]) rfl,ab hs (w:=[119,104,105,108,101]) rfl b0,bX hs (w:=[102,111,114]) rfl,ab hs (w:=[102,111,114]) rfl b0,bX hs (w:=[114,101,97,100]) rfl,ab hs (w:=[114,101,97,100]) rfl b0,bX hs (w:=[112,114,105,110,116]) rfl,ab hs (w:=[112,114,105,110,116]) rfl b0,bX hs (w:=[97,115,115,101,114,116]) rfl,ab hs (w:=[97,115,115,101,114,116]) rfl b0,bX hs (w:=[115,116,111,112]) rfl,ab hs (w:=[115,116,111,112]) rfl b0,bX hs (w:=[114,101,116,117,114,110]) rfl,ab hs (w:=[114,101,116,117,114,110]) rfl b0,show aM ts a [105,102]=false from aC oi rfl,show aM ts a [119,104,105,108,101]=false from aC oi rfl,show aM ts a [102,111,114]=false from aC oi rfl,show aM ts a [114,101,97,100]=false from aC oi rfl,show aM ts a [112,114,105,110,116]=false from aC oi rfl,show aM ts a [97,115,115,101,114,116]=false from aC oi rfl,show aM ts a [115,116,111,112]=false from aC oi rfl,show aM ts a [114,101,116,117,114,110]=false from aC oi rfl,oi,bL b1,cU b1,hm]
   exact BS.er (c:=6) (p:=pl ts en (a + 1)) (by decide) ((fb (ts:=ts) (en:=en) (c:=6) (p:=pl ts en (a + 1)) (by decide)).mono fun k e=>⟨rfl,by have hc:(6:Int)≠0:=(by decide);simp only [go_sem,fw,cM hc,dE hc,lq hc,fh hc,dR hc,b8 hc,eG hc,eS hc,jm hc,bg,aa,e.1,e.2.1,e.2.2,true_and,and_self,Int.natCast_nonneg]⟩)
  |true=>
  have hl1:=jz hm;simp only [go_sem,nz,nI,bo,bN,aa,am,aQ,bg,aP,Option.bind_assoc,reduceIte,hn,aI b0,bX hs (w:=[42]) rfl,ab hs (w:=[42]) rfl b0,bX hs (w:=[105,102]) rfl,ab hs (w:=[105,102]) rfl b0,bX hs (w:=[119,104,105,108,101]) rfl,ab hs (w:=[119,104,105,108,101]) rfl b0,bX hs (w:=[102,111,114]) rfl,ab hs (w:=[102,111,114]) rfl b0,bX hs (w:=[114,101,97,100]) rfl,ab hs (w:=[114,101,97,100]) rfl b0,bX hs (w:=[112,114,105,110,116]) rfl,ab hs (w:=[112,114,105,110,116]) rfl b0,bX hs (w:=[97,115,115,101,114,116]) rfl,ab hs (w:=[97,115,115,101,114,116]) rfl b0,bX hs (w:=[115,116,111,112]) rfl,ab hs (w:=[115,116,111,112]) rfl b0,bX hs (w:=[114,101,116,117,114,110]) rfl,ab hs (w:=[114,101,116,117,114,110]) rfl b0,show aM ts a [105,102]=false from aC oi rfl,show aM ts a [119,104,105,108,101]=false from aC oi rfl,show aM ts a [102,111,114]=false from aC oi rfl,show aM ts a [114,101,97,100]=false from aC oi rfl,show aM ts a [112,114,105,110,116]=false from aC oi rfl,show aM ts a [97,115,115,101,114,116]=false from aC oi rfl,show aM ts a [115,116,111,112]=false from aC oi rfl,show aM ts a [114,101,116,117,114,110]=false from aC oi rfl,oi,bL b1,cU b1,hm]
  cases h1:aM ts (a + 1 + 1) [61] with
  |false=>simp only [go_sem,aL b2,ai hs (w:=[61]) rfl b2,h1,aa,am,aQ,bg,aP,Option.bind_assoc,reduceIte];exact BS.er (c:=6) (p:=pl ts en (a + 1 + 1)) (by decide) ((fb (ts:=ts) (en:=en) (c:=6) (p:=pl ts en (a + 1 + 1)) (by decide)).mono fun k e=>⟨rfl,by have hc:(6:Int)≠0:=(by decide);simp only [go_sem,fw,cM hc,dE hc,lq hc,fh hc,dR hc,b8 hc,eG hc,eS hc,jm hc,bg,aa,e.1,e.2.1,e.2.2,true_and,and_self,Int.natCast_nonneg]⟩)
  |true=>
  have Va:=bw h1;simp only [go_sem,aL b2,ai hs (w:=[61]) rfl b2,h1,aa,am,aQ,bg,aP,Option.bind_assoc,reduceIte];refine BS.bind (Ef hs (a:=a + 1 + 1 + 1) ⟨by omega,p2,by omega,p4⟩) (fun x1 a1 d1 mE g1=>?_) (fun c p hc=>(fb (ts:=ts) (en:=en) (p:=p) hc).mono fun k e v a' ee d'=>⟨rfl,by simp only [go_sem,fw,cM hc,dE hc,lq hc,fh hc,dR hc,b8 hc,eG hc,eS hc,jm hc,bg,aa,e.1,e.2.1,e.2.2,true_and,and_self,Int.natCast_nonneg]⟩)
  obtain⟨q11,q12,rfl,q13,JS,M1,N0,N3,Mm,q19⟩:=g1;have c1:a1≤4000000000000000000:=by omega
  have Mr:a1 + 1≤4000000000000000000:=by omega
  have m1:mE.length≤4000000:=by omega
  cases h2:aM ts (a1) [59] with
  |false=>simp only [go_sem,aL c1,ai hs (w:=[59]) rfl c1,h2,aa,am,aQ,bg,aP,Option.bind_assoc,reduceIte];exact BS.er (c:=6) (p:=pl ts en (a1)) (by decide) ((fb (ts:=ts) (en:=en) (c:=6) (p:=pl ts en (a1)) (by decide)).mono fun k e=>⟨rfl,by have hc:(6:Int)≠0:=(by decide);simp only [go_sem,fw,cM hc,dE hc,lq hc,fh hc,dR hc,b8 hc,eG hc,eS hc,jm hc,bg,aa,e.1,e.2.1,e.2.2,true_and,and_self,Int.natCast_nonneg]⟩)
  |true=>
  have QU:=bw h2;simp only [go_sem,aL c1,ai hs (w:=[59]) rfl c1,h2,aa,am,aQ,bg,aP,Option.bind_assoc,reduceIte];simp only [go_sem,gY m1,dN m1];exact BS.ok (kx (by omega) (by omega) (by omega) JS M1 ⟨by simp;omega,by simpa [bZ] using Mm,by simp⟩ rfl (by rw [oC];exact q19))
 |false=>
 cases K5:aM ts a [105,102] with
 |true=>
  have hl0:=bw K5;refine BS.succ (BS.succ ?_);simp only [go_sem,nz (_ + 1),nI (_ + 1),bo,bN,Hi,jT,aa,am,aQ,bg,aP,Option.bind_assoc,reduceIte,hn,ai hs (w:=[102,111,114]) rfl b0,HJ,HK,aI b0,bX hs (w:=[42]) rfl,ab hs (w:=[42]) rfl b0,bX hs (w:=[105,102]) rfl,ab hs (w:=[105,102]) rfl b0,bX hs (w:=[119,104,105,108,101]) rfl,ab hs (w:=[119,104,105,108,101]) rfl b0,bX hs (w:=[102,111,114]) rfl,ab hs (w:=[102,111,114]) rfl b0,bX hs (w:=[114,101,97,100]) rfl,ab hs (w:=[114,101,97,100]) rfl b0,bX hs (w:=[112,114,105,110,116]) rfl,ab hs (w:=[112,114,105,110,116]) rfl b0,bX hs (w:=[97,115,115,101,114,116]) rfl,ab hs (w:=[97,115,115,101,114,116]) rfl b0,bX hs (w:=[115,116,111,112]) rfl,ab hs (w:=[115,116,111,112]) rfl b0,bX hs (w:=[114,101,116,117,114,110]) rfl,ab hs (w:=[114,101,116,117,114,110]) rfl b0,show aM ts a [42]=false from aC K5 rfl,show aM ts a [119,104,105,108,101]=false from aC K5 rfl,show aM ts a [102,111,114]=false from aC K5 rfl,show aM ts a [114,101,97,100]=false from aC K5 rfl,show aM ts a [112,114,105,110,116]=false from aC K5 rfl,show aM ts a [97,115,115,101,114,116]=false from aC K5 rfl,show aM ts a [115,116,111,112]=false from aC K5 rfl,show aM ts a [114,101,116,117,114,110]=false from aC K5 rfl,K5]
  refine BS.bind ((VN hs (a:=a + 1) ⟨by omega,p2,by omega,p4⟩).up) (fun x1 a1 d1 mE g1=>?_) (fun c p hc=>(fb (ts:=ts) (en:=en) (p:=p) hc).mono fun k e v a' ee d'=>⟨rfl,by simp only [go_sem,fw,cM hc,dE hc,lq hc,fh hc,dR hc,b8 hc,eG hc,eS hc,jm hc,bg,aa,e.1,e.2.1,e.2.2,true_and,and_self,Int.natCast_nonneg,HJ,HK]⟩)
  obtain⟨q11,q12,rfl,q13,JS,M1,N0,N3,Mm,q19⟩:=g1;have c1:a1≤4000000000000000000:=by omega
  have Mr:a1 + 1≤4000000000000000000:=by omega
  have m1:mE.length≤4000000:=by omega
  refine BS.bind ((IH (a1) _ _ (by omega) ⟨by omega,p2,by omega,M1⟩).up) (fun x2 a2 d2 pQ g2=>?_) (fun c p hc=>(fb (ts:=ts) (en:=en) (p:=p) hc).mono fun k e v a' ee d'=>⟨rfl,by simp only [go_sem,fw,cM hc,dE hc,lq hc,fh hc,dR hc,b8 hc,eG hc,eS hc,jm hc,bg,aa,e.1,e.2.1,e.2.2,true_and,and_self,Int.natCast_nonneg,HJ,HK]⟩)
  obtain⟨q21,q22,rfl,q23,LX,q25,q26,q27,q28,q29⟩:=g2;have c2:a2≤4000000000000000000:=by omega
  have c21:a2 + 1≤4000000000000000000:=by omega
  have m2:pQ.length≤4000000:=by omega
  cases hel:aM ts a2 [101,108,115,101] with
  |true=>
   have hl1:=bw hel;simp only [go_sem,aa,am,aQ,bg,aP,Option.bind_assoc,reduceIte,HJ,HK,aI c2,ab hs (w:=[101,108,115,101]) rfl c2,hel];refine BS.bind ((IH (a2 + 1) _ _ (by omega) ⟨by omega,p2,by omega,q25⟩).up) (fun x3 a3 d3 Ke g3=>?_) (fun c p hc=>(fb (ts:=ts) (en:=en) (p:=p) hc).mono fun k e v a' ee d'=>⟨rfl,by simp only [go_sem,fw,cM hc,dE hc,lq hc,fh hc,dR hc,b8 hc,eG hc,eS hc,jm hc,bg,aa,e.1,e.2.1,e.2.2,true_and,and_self,Int.natCast_nonneg,HJ,HK]⟩)
   obtain⟨q31,q32,rfl,q33,q34,q35,q36,q37,q38,q39⟩:=g3;have c3:a3≤4000000000000000000:=by omega
   have c31:a3 + 1≤4000000000000000000:=by omega
   have m3:Ke.length≤4000000:=by omega
   simp only [go_sem,aa,am,aQ,bg,aP,Option.bind_assoc,reduceIte,HJ,HK,gY m3,dN m3];exact BS.ok (kx (by omega) (by omega) (by omega) (JS.trans (LX.trans q34)) q35 ⟨by simp;have:=LX.length_le;have:=q34.length_le;omega,by simp [bZ,Mm,beq_iff_eq.1 q28,beq_iff_eq.1 q38,pX (LX.trans q34) N0 N3,pX q34 q26 q27],by simp⟩ rfl (by rw [NG,qQ (LX.trans q34) N0 N3,qQ q34 q26 q27];omega))
  |false=>simp only [go_sem,aa,am,aQ,bg,aP,Option.bind_assoc,reduceIte,HJ,HK,aI c2,ab hs (w:=[101,108,115,101]) rfl c2,hel,gY m2,dN m2];exact BS.ok (kx (by omega) (by omega) (by omega) (JS.trans LX) q25 ⟨by simp;have:=LX.length_le;omega,by simp [bZ,Mm,beq_iff_eq.1 q28,pX LX N0 N3],by simp⟩ rfl (by rw [xd,qQ LX N0 N3];omega))
 |false=>
 cases sP:aM ts a [119,104,105,108,101] with
 |true=>
  have hl0:=bw sP;refine BS.succ (BS.succ ?_);simp only [go_sem,nz (_ + 1),nI (_ + 1),bo,bN,Hi,jT,aa,am,aQ,bg,aP,Option.bind_assoc,reduceIte,hn,ai hs (w:=[102,111,114]) rfl b0,HJ,HK,aI b0,bX hs (w:=[42]) rfl,ab hs (w:=[42]) rfl b0,bX hs (w:=[105,102]) rfl,ab hs (w:=[105,102]) rfl b0,bX hs (w:=[119,104,105,108,101]) rfl,ab hs (w:=[119,104,105,108,101]) rfl b0,bX hs (w:=[102,111,114]) rfl,ab hs (w:=[102,111,114]) rfl b0,bX hs (w:=[114,101,97,100]) rfl,ab hs (w:=[114,101,97,100]) rfl b0,bX hs (w:=[112,114,105,110,116]) rfl,ab hs (w:=[112,114,105,110,116]) rfl b0,bX hs (w:=[97,115,115,101,114,116]) rfl,ab hs (w:=[97,115,115,101,114,116]) rfl b0,bX hs (w:=[115,116,111,112]) rfl,ab hs (w:=[115,116,111,112]) rfl b0,bX hs (w:=[114,101,116,117,114,110]) rfl,ab hs (w:=[114,101,116,117,114,110]) rfl b0,show aM ts a [42]=false from aC sP rfl,show aM ts a [105,102]=false from aC sP rfl,show aM ts a [102,111,114]=false from aC sP rfl,show aM ts a [114,101,97,100]=false from aC sP rfl,show aM ts a [112,114,105,110,116]=false from aC sP rfl,show aM ts a [97,115,115,101,114,116]=false from aC sP rfl,show aM ts a [115,116,111,112]=false from aC sP rfl,show aM ts a [114,101,116,117,114,110]=false from aC sP rfl,sP]
  refine BS.bind ((VN hs (a:=a + 1) ⟨by omega,p2,by omega,p4⟩).up) (fun x1 a1 d1 mE g1=>?_) (fun c p hc=>(fb (ts:=ts) (en:=en) (p:=p) hc).mono fun k e v a' ee d'=>⟨rfl,by simp only [go_sem,fw,cM hc,dE hc,lq hc,fh hc,dR hc,b8 hc,eG hc,eS hc,jm hc,bg,aa,e.1,e.2.1,e.2.2,true_and,and_self,Int.natCast_nonneg,HJ,HK]⟩)
  obtain⟨q11,q12,rfl,q13,JS,M1,N0,N3,Mm,q19⟩:=g1;have c1:a1≤4000000000000000000:=by omega
  have Mr:a1 + 1≤4000000000000000000:=by omega
  have m1:mE.length≤4000000:=by omega
  refine BS.bind ((IH (a1) _ _ (by omega) ⟨by omega,p2,by omega,M1⟩).up) (fun x2 a2 d2 pQ g2=>?_) (fun c p hc=>(fb (ts:=ts) (en:=en) (p:=p) hc).mono fun k e v a' ee d'=>⟨rfl,by simp only [go_sem,fw,cM hc,dE hc,lq hc,fh hc,dR hc,b8 hc,eG hc,eS hc,jm hc,bg,aa,e.1,e.2.1,e.2.2,true_and,and_self,Int.natCast_nonneg,HJ,HK]⟩)
  obtain⟨q21,q22,rfl,q23,LX,q25,q26,q27,q28,q29⟩:=g2;have c2:a2≤4000000000000000000:=by omega
  have c21:a2 + 1≤4000000000000000000:=by omega
  have m2:pQ.length≤4000000:=by omega
  simp only [go_sem,aa,am,aQ,bg,aP,Option.bind_assoc,reduceIte,HJ,HK,gY m2,dN m2];exact BS.ok (kx (by omega) (by omega) (by omega) (JS.trans LX) q25 ⟨by simp;have:=LX.length_le;omega,by simp [bZ,Mm,beq_iff_eq.1 q28,pX LX N0 N3],by simp⟩ rfl (by rw [xd,qQ LX N0 N3];omega))
 |false=>
 cases sa:aM ts a [102,111,114] with
 |true=>
  have hl0:=bw sa;refine BS.succ (BS.succ ?_);cases hm:sY ts (a + 1) 1 with
  |false=>
   simp only [go_sem,nz (_ + 1),nI (_ + 1),bo,bN,Hi,jT,aa,am,aQ,bg,aP,Option.bind_assoc,reduceIte,hn,ai hs (w:=[102,111,114]) rfl b0,HJ,HK,aI b0,bX hs (w:=[42]) rfl,ab hs (w:=[42]) rfl b0,bX hs (w:=[105,102]) rfl,ab hs (w:=[105,102]) rfl b0,bX hs (w:=[119,104,105,108,101]) rfl,ab hs (w:=[119,104,105,108,101]) rfl b0,bX hs (w:=[102,111,114]) rfl,ab hs (w:=[102,111,114]) rfl b0,bX hs (w:=[114,101,97,100]) rfl,ab hs (w:=[114,101,97,100]) rfl b0,bX hs (w:=[112,114,105,110,116]) rfl,ab hs (w:=[112,114,105,110,116]) rfl b0,bX hs (w:=[97,115,115,101,114,116]) rfl,ab hs (w:=[97,115,115,101,114,116]) rfl b0,bX hs (w:=[115,116,111,112]) rfl,ab hs (w:=[115,116,111,112]) rfl b0,bX hs (w:=[114,101,116,117,114,110]) rfl,ab hs (w:=[114,101,116,117,114,110]) rfl b0,show aM ts a [42]=false from aC sa rfl,show aM ts a [105,102]=false from aC sa rfl,show aM ts a [119,104,105,108,101]=false from aC sa rfl,show aM ts a [114,101,97,100]=false from aC sa rfl,show aM ts a [112,114,105,110,116]=false from aC sa rfl,show aM ts a [97,115,115,101,114,116]=false from aC sa rfl,show aM ts a [115,116,111,112]=false from aC sa rfl,show aM ts a [114,101,116,117,114,110]=false from aC sa rfl,sa,QZ,jN,bL b1,cU b1,hm]
   exact BS.er (c:=6) (p:=pl ts en (a + 1)) (by decide) ((fb (ts:=ts) (en:=en) (c:=6) (p:=pl ts en (a + 1)) (by decide)).mono fun k e=>⟨rfl,by have hc:(6:Int)≠0:=(by decide);simp only [go_sem,fw,cM hc,dE hc,lq hc,fh hc,dR hc,b8 hc,eG hc,eS hc,jm hc,bg,aa,e.1,e.2.1,e.2.2,true_and,and_self,Int.natCast_nonneg]⟩)
  |true=>
  have hl1:=jz hm;simp only [go_sem,nz (_ + 1),nI (_ + 1),bo,bN,Hi,jT,aa,am,aQ,bg,aP,Option.bind_assoc,reduceIte,hn,ai hs (w:=[102,111,114]) rfl b0,HJ,HK,aI b0,bX hs (w:=[42]) rfl,ab hs (w:=[42]) rfl b0,bX hs (w:=[105,102]) rfl,ab hs (w:=[105,102]) rfl b0,bX hs (w:=[119,104,105,108,101]) rfl,ab hs (w:=[119,104,105,108,101]) rfl b0,bX hs (w:=[102,111,114]) rfl,ab hs (w:=[102,111,114]) rfl b0,bX hs (w:=[114,101,97,100]) rfl,ab hs (w:=[114,101,97,100]) rfl b0,bX hs (w:=[112,114,105,110,116]) rfl,ab hs (w:=[112,114,105,110,116]) rfl b0,bX hs (w:=[97,115,115,101,114,116]) rfl,ab hs (w:=[97,115,115,101,114,116]) rfl b0,bX hs (w:=[115,116,111,112]) rfl,ab hs (w:=[115,116,111,112]) rfl b0,bX hs (w:=[114,101,116,117,114,110]) rfl,ab hs (w:=[114,101,116,117,114,110]) rfl b0,show aM ts a [42]=false from aC sa rfl,show aM ts a [105,102]=false from aC sa rfl,show aM ts a [119,104,105,108,101]=false from aC sa rfl,show aM ts a [114,101,97,100]=false from aC sa rfl,show aM ts a [112,114,105,110,116]=false from aC sa rfl,show aM ts a [97,115,115,101,114,116]=false from aC sa rfl,show aM ts a [115,116,111,112]=false from aC sa rfl,show aM ts a [114,101,116,117,114,110]=false from aC sa rfl,sa,QZ,jN,bL b1,cU b1,hm,sk hl1]
  cases h1:aM ts (a + 1 + 1) [61] with
  |false=>simp only [go_sem,aL b2,ai hs (w:=[61]) rfl b2,h1,aa,am,aQ,bg,aP,Option.bind_assoc,reduceIte];exact BS.er (c:=6) (p:=pl ts en (a + 1 + 1)) (by decide) ((fb (ts:=ts) (en:=en) (c:=6) (p:=pl ts en (a + 1 + 1)) (by decide)).mono fun k e=>⟨rfl,by have hc:(6:Int)≠0:=(by decide);simp only [go_sem,fw,cM hc,dE hc,lq hc,fh hc,dR hc,b8 hc,eG hc,eS hc,jm hc,bg,aa,e.1,e.2.1,e.2.2,true_and,and_self,Int.natCast_nonneg]⟩)
  |true=>
  have Va:=bw h1;simp only [go_sem,aL b2,ai hs (w:=[61]) rfl b2,h1,aa,am,aQ,bg,aP,Option.bind_assoc,reduceIte];refine BS.bind (Ef hs (a:=a + 1 + 1 + 1) ⟨by omega,p2,by omega,p4⟩) (fun x1 a1 d1 mE g1=>?_) (fun c p hc=>(fb (ts:=ts) (en:=en) (p:=p) hc).mono fun k e v a' ee d'=>⟨rfl,by simp only [go_sem,fw,cM hc,dE hc,lq hc,fh hc,dR hc,b8 hc,eG hc,eS hc,jm hc,bg,aa,e.1,e.2.1,e.2.2,true_and,and_self,Int.natCast_nonneg]⟩)
  obtain⟨q11,q12,rfl,q13,JS,M1,N0,N3,Mm,q19⟩:=g1;have c1:a1≤4000000000000000000:=by omega
  have Mr:a1 + 1≤4000000000000000000:=by omega
  have m1:mE.length≤4000000:=by omega
  cases h2:aM ts (a1) [46,46] with
  |false=>simp only [go_sem,aL c1,ai hs (w:=[46,46]) rfl c1,h2,aa,am,aQ,bg,aP,Option.bind_assoc,reduceIte];exact BS.er (c:=6) (p:=pl ts en (a1)) (by decide) ((fb (ts:=ts) (en:=en) (c:=6) (p:=pl ts en (a1)) (by decide)).mono fun k e=>⟨rfl,by have hc:(6:Int)≠0:=(by decide);simp only [go_sem,fw,cM hc,dE hc,lq hc,fh hc,dR hc,b8 hc,eG hc,eS hc,jm hc,bg,aa,e.1,e.2.1,e.2.2,true_and,and_self,Int.natCast_nonneg]⟩)
  |true=>
  have QU:=bw h2;simp only [go_sem,aL c1,ai hs (w:=[46,46]) rfl c1,h2,aa,am,aQ,bg,aP,Option.bind_assoc,reduceIte];refine BS.bind (Ef hs (a:=a1 + 1) ⟨by omega,p2,by omega,M1⟩) (fun x2 a2 d2 pQ g2=>?_) (fun c p hc=>(fb (ts:=ts) (en:=en) (p:=p) hc).mono fun k e v a' ee d'=>⟨rfl,by simp only [go_sem,fw,cM hc,dE hc,lq hc,fh hc,dR hc,b8 hc,eG hc,eS hc,jm hc,bg,aa,e.1,e.2.1,e.2.2,true_and,and_self,Int.natCast_nonneg]⟩)
  obtain⟨q21,q22,rfl,q23,LX,q25,q26,q27,q28,q29⟩:=g2;have c2:a2≤4000000000000000000:=by omega
  have c21:a2 + 1≤4000000000000000000:=by omega
  have m2:pQ.length≤4000000:=by omega
  simp only [go_sem,aa,am,aQ,bg,aP,Option.bind_assoc,reduceIte];refine BS.bind (IH (a2) _ _ (by omega) ⟨by omega,p2,by omega,q25⟩) (fun x3 a3 d3 Ke g3=>?_) (fun c p hc=>(fb (ts:=ts) (en:=en) (p:=p) hc).mono fun k e v a' ee d'=>⟨rfl,by simp only [go_sem,fw,cM hc,dE hc,lq hc,fh hc,dR hc,b8 hc,eG hc,eS hc,jm hc,bg,aa,e.1,e.2.1,e.2.2,true_and,and_self,Int.natCast_nonneg]⟩)
  obtain⟨q31,q32,rfl,q33,q34,q35,q36,q37,q38,q39⟩:=g3;have c3:a3≤4000000000000000000:=by omega
  have c31:a3 + 1≤4000000000000000000:=by omega
  have m3:Ke.length≤4000000:=by omega
  simp only [go_sem,aa,am,aQ,bg,aP,Option.bind_assoc,reduceIte,gY m3,dN m3];exact BS.ok (kx (by omega) (by omega) (by omega) (JS.trans (LX.trans q34)) q35 ⟨by simp;have:=LX.length_le;have:=q34.length_le;omega,by simp [bZ,Mm,q28,beq_iff_eq.1 q38,pX (LX.trans q34) N0 N3,pX q34 q26 q27],by simp⟩ rfl (by rw [NG,qQ (LX.trans q34) N0 N3,qQ q34 q26 q27];omega))
 |false=>
 refine BS.succ ?_;cases og:aM ts a [114,101,97,100] with
 |true=>
  have hl0:=bw og;cases hm:sY ts (a + 1) 1 with
  |false=>
   simp only [go_sem,nz,nI,bo,bN,aa,am,aQ,bg,aP,Option.bind_assoc,reduceIte,hn,aI b0,bX hs (w:=[42]) rfl,ab hs (w:=[42]) rfl b0,bX hs (w:=[105,102]) rfl,ab hs (w:=[105,102]) rfl b0,bX hs (w:=[119,104,105,108,101]) rfl,ab hs (w:=[119,104,105,108,101]) rfl b0,bX hs (w:=[102,111,114]) rfl,ab hs (w:=[102,111,114]) rfl b0,bX hs (w:=[114,101,97,100]) rfl,ab hs (w:=[114,101,97,100]) rfl b0,bX hs (w:=[112,114,105,110,116]) rfl,ab hs (w:=[112,114,105,110,116]) rfl b0,bX hs (w:=[97,115,115,101,114,116]) rfl,ab hs (w:=[97,115,115,101,114,116]) rfl b0,bX hs (w:=[115,116,111,112]) rfl,ab hs (w:=[115,116,111,112]) rfl b0,bX hs (w:=[114,101,116,117,114,110]) rfl,ab hs (w:=[114,101,116,117,114,110]) rfl b0,show aM ts a [42]=false from aC og rfl,show aM ts a [105,102]=false from aC og rfl,show aM ts a [119,104,105,108,101]=false from aC og rfl,show aM ts a [102,111,114]=false from aC og rfl,show aM ts a [112,114,105,110,116]=false from aC og rfl,show aM ts a [97,115,115,101,114,116]=false from aC og rfl,show aM ts a [115,116,111,112]=false from aC og rfl,show aM ts a [114,101,116,117,114,110]=false from aC og rfl,og,bL b1,cU b1,hm]
   exact BS.er (c:=6) (p:=pl ts en (a + 1)) (by decide) ((fb (ts:=ts) (en:=en) (c:=6) (p:=pl ts en (a + 1)) (by decide)).mono fun k e=>⟨rfl,by have hc:(6:Int)≠0:=(by decide);simp only [go_sem,fw,cM hc,dE hc,lq hc,fh hc,dR hc,b8 hc,eG hc,eS hc,jm hc,bg,aa,e.1,e.2.1,e.2.2,true_and,and_self,Int.natCast_nonneg]⟩)
  |true=>
  have hl1:=jz hm;simp only [go_sem,nz,nI,bo,bN,aa,am,aQ,bg,aP,Option.bind_assoc,reduceIte,hn,aI b0,bX hs (w:=[42]) rfl,ab hs (w:=[42]) rfl b0,bX hs (w:=[105,102]) rfl,ab hs (w:=[105,102]) rfl b0,bX hs (w:=[119,104,105,108,101]) rfl,ab hs (w:=[119,104,105,108,101]) rfl b0,bX hs (w:=[102,111,114]) rfl,ab hs (w:=[102,111,114]) rfl b0,bX hs (w:=[114,101,97,100]) rfl,ab hs (w:=[114,101,97,100]) rfl b0,bX hs (w:=[112,114,105,110,116]) rfl,ab hs (w:=[112,114,105,110,116]) rfl b0,bX hs (w:=[97,115,115,101,114,116]) rfl,ab hs (w:=[97,115,115,101,114,116]) rfl b0,bX hs (w:=[115,116,111,112]) rfl,ab hs (w:=[115,116,111,112]) rfl b0,bX hs (w:=[114,101,116,117,114,110]) rfl,ab hs (w:=[114,101,116,117,114,110]) rfl b0,show aM ts a [42]=false from aC og rfl,show aM ts a [105,102]=false from aC og rfl,show aM ts a [119,104,105,108,101]=false from aC og rfl,show aM ts a [102,111,114]=false from aC og rfl,show aM ts a [112,114,105,110,116]=false from aC og rfl,show aM ts a [97,115,115,101,114,116]=false from aC og rfl,show aM ts a [115,116,111,112]=false from aC og rfl,show aM ts a [114,101,116,117,114,110]=false from aC og rfl,og,bL b1,cU b1,hm,kf (d:=a + 1) b1,bh (im hl1),sk hl1]
  cases h2:aM ts (a + 1 + 1) [59] with
  |false=>simp only [go_sem,aL b2,ai hs (w:=[59]) rfl b2,h2,aa,am,aQ,bg,aP,Option.bind_assoc,reduceIte];exact BS.er (c:=6) (p:=pl ts en (a + 1 + 1)) (by decide) ((fb (ts:=ts) (en:=en) (c:=6) (p:=pl ts en (a + 1 + 1)) (by decide)).mono fun k e=>⟨rfl,by have hc:(6:Int)≠0:=(by decide);simp only [go_sem,fw,cM hc,dE hc,lq hc,fh hc,dR hc,b8 hc,eG hc,eS hc,jm hc,bg,aa,e.1,e.2.1,e.2.2,true_and,and_self,Int.natCast_nonneg]⟩)
  |true=>
  have QU:=bw h2;simp only [go_sem,aL b2,ai hs (w:=[59]) rfl b2,h2,aa,am,aQ,bg,aP,Option.bind_assoc,reduceIte];simp only [go_sem,gY bn,dN bn];exact BS.ok (kx (by omega) (by omega) (by omega) (List.prefix_refl _) p4 (rM rfl (by decide)) rfl (by simp [ju]))
 |false=>
 cases sO:aM ts a [112,114,105,110,116] with
 |true=>
  have hl0:=bw sO;simp only [go_sem,nz,nI,bo,bN,aa,am,aQ,bg,aP,Option.bind_assoc,reduceIte,hn,aI b0,bX hs (w:=[42]) rfl,ab hs (w:=[42]) rfl b0,bX hs (w:=[105,102]) rfl,ab hs (w:=[105,102]) rfl b0,bX hs (w:=[119,104,105,108,101]) rfl,ab hs (w:=[119,104,105,108,101]) rfl b0,bX hs (w:=[102,111,114]) rfl,ab hs (w:=[102,111,114]) rfl b0,bX hs (w:=[114,101,97,100]) rfl,ab hs (w:=[114,101,97,100]) rfl b0,bX hs (w:=[112,114,105,110,116]) rfl,ab hs (w:=[112,114,105,110,116]) rfl b0,bX hs (w:=[97,115,115,101,114,116]) rfl,ab hs (w:=[97,115,115,101,114,116]) rfl b0,bX hs (w:=[115,116,111,112]) rfl,ab hs (w:=[115,116,111,112]) rfl b0,bX hs (w:=[114,101,116,117,114,110]) rfl,ab hs (w:=[114,101,116,117,114,110]) rfl b0,show aM ts a [42]=false from aC sO rfl,show aM ts a [105,102]=false from aC sO rfl,show aM ts a [119,104,105,108,101]=false from aC sO rfl,show aM ts a [102,111,114]=false from aC sO rfl,show aM ts a [114,101,97,100]=false from aC sO rfl,show aM ts a [97,115,115,101,114,116]=false from aC sO rfl,show aM ts a [115,116,111,112]=false from aC sO rfl,show aM ts a [114,101,116,117,114,110]=false from aC sO rfl,sO]
  refine BS.bind (Ef hs (a:=a + 1) ⟨by omega,p2,by omega,p4⟩) (fun x1 a1 d1 mE g1=>?_) (fun c p hc=>(fb (ts:=ts) (en:=en) (p:=p) hc).mono fun k e v a' ee d'=>⟨rfl,by simp only [go_sem,fw,cM hc,dE hc,lq hc,fh hc,dR hc,b8 hc,eG hc,eS hc,jm hc,bg,aa,e.1,e.2.1,e.2.2,true_and,and_self,Int.natCast_nonneg]⟩)
  obtain⟨q11,q12,rfl,q13,JS,M1,N0,N3,Mm,q19⟩:=g1;have c1:a1≤4000000000000000000:=by omega
  have Mr:a1 + 1≤4000000000000000000:=by omega
  have m1:mE.length≤4000000:=by omega
  cases h2:aM ts (a1) [59] with
  |false=>simp only [go_sem,aL c1,ai hs (w:=[59]) rfl c1,h2,aa,am,aQ,bg,aP,Option.bind_assoc,reduceIte];exact BS.er (c:=6) (p:=pl ts en (a1)) (by decide) ((fb (ts:=ts) (en:=en) (c:=6) (p:=pl ts en (a1)) (by decide)).mono fun k e=>⟨rfl,by have hc:(6:Int)≠0:=(by decide);simp only [go_sem,fw,cM hc,dE hc,lq hc,fh hc,dR hc,b8 hc,eG hc,eS hc,jm hc,bg,aa,e.1,e.2.1,e.2.2,true_and,and_self,Int.natCast_nonneg]⟩)
  |true=>
  have QU:=bw h2;simp only [go_sem,aL c1,ai hs (w:=[59]) rfl c1,h2,aa,am,aQ,bg,aP,Option.bind_assoc,reduceIte];simp only [go_sem,gY m1,dN m1];exact BS.ok (kx (by omega) (by omega) (by omega) JS M1 ⟨by simp;omega,by simpa [bZ] using Mm,by simp⟩ rfl (by rw [oC];exact q19))
 |false=>
 cases pT:aM ts a [97,115,115,101,114,116] with
 |true=>
  have hl0:=bw pT;simp only [go_sem,nz,nI,bo,bN,aa,am,aQ,bg,aP,Option.bind_assoc,reduceIte,hn,aI b0,bX hs (w:=[42]) rfl,ab hs (w:=[42]) rfl b0,bX hs (w:=[105,102]) rfl,ab hs (w:=[105,102]) rfl b0,bX hs (w:=[119,104,105,108,101]) rfl,ab hs (w:=[119,104,105,108,101]) rfl b0,bX hs (w:=[102,111,114]) rfl,ab hs (w:=[102,111,114]) rfl b0,bX hs (w:=[114,101,97,100]) rfl,ab hs (w:=[114,101,97,100]) rfl b0,bX hs (w:=[112,114,105,110,116]) rfl,ab hs (w:=[112,114,105,110,116]) rfl b0,bX hs (w:=[97,115,115,101,114,116]) rfl,ab hs (w:=[97,115,115,101,114,116]) rfl b0,bX hs (w:=[115,116,111,112]) rfl,ab hs (w:=[115,116,111,112]) rfl b0,bX hs (w:=[114,101,116,117,114,110]) rfl,ab hs (w:=[114,101,116,117,114,110]) rfl b0,show aM ts a [42]=false from aC pT rfl,show aM ts a [105,102]=false from aC pT rfl,show aM ts a [119,104,105,108,101]=false from aC pT rfl,show aM ts a [102,111,114]=false from aC pT rfl,show aM ts a [114,101,97,100]=false from aC pT rfl,show aM ts a [112,114,105,110,116]=false from aC pT rfl,show aM ts a [115,116,111,112]=false from aC pT rfl,show aM ts a [114,101,116,117,114,110]=false from aC pT rfl,pT]
  refine BS.bind (VN hs (a:=a + 1) ⟨by omega,p2,by omega,p4⟩) (fun x1 a1 d1 mE g1=>?_) (fun c p hc=>(fb (ts:=ts) (en:=en) (p:=p) hc).mono fun k e v a' ee d'=>⟨rfl,by simp only [go_sem,fw,cM hc,dE hc,lq hc,fh hc,dR hc,b8 hc,eG hc,eS hc,jm hc,bg,aa,e.1,e.2.1,e.2.2,true_and,and_self,Int.natCast_nonneg]⟩)
  obtain⟨q11,q12,rfl,q13,JS,M1,N0,N3,Mm,q19⟩:=g1;have c1:a1≤4000000000000000000:=by omega
  have Mr:a1 + 1≤4000000000000000000:=by omega
  have m1:mE.length≤4000000:=by omega
  cases h2:aM ts (a1) [59] with
  |false=>simp only [go_sem,aL c1,ai hs (w:=[59]) rfl c1,h2,aa,am,aQ,bg,aP,Option.bind_assoc,reduceIte];exact BS.er (c:=6) (p:=pl ts en (a1)) (by decide) ((fb (ts:=ts) (en:=en) (c:=6) (p:=pl ts en (a1)) (by decide)).mono fun k e=>⟨rfl,by have hc:(6:Int)≠0:=(by decide);simp only [go_sem,fw,cM hc,dE hc,lq hc,fh hc,dR hc,b8 hc,eG hc,eS hc,jm hc,bg,aa,e.1,e.2.1,e.2.2,true_and,and_self,Int.natCast_nonneg]⟩)
  |true=>
  have QU:=bw h2;simp only [go_sem,aL c1,ai hs (w:=[59]) rfl c1,h2,aa,am,aQ,bg,aP,Option.bind_assoc,reduceIte];simp only [go_sem,gY m1,dN m1];exact BS.ok (kx (by omega) (by omega) (by omega) JS M1 ⟨by simp;omega,by simpa [bZ] using Mm,by simp⟩ rfl (by rw [oC];exact q19))
 |false=>
 cases wY:aM ts a [115,116,111,112] with
 |true=>
  have hl0:=bw wY;simp only [go_sem,nz,nI,bo,bN,aa,am,aQ,bg,aP,Option.bind_assoc,reduceIte,hn,aI b0,bX hs (w:=[42]) rfl,ab hs (w:=[42]) rfl b0,bX hs (w:=[105,102]) rfl,ab hs (w:=[105,102]) rfl b0,bX hs (w:=[119,104,105,108,101]) rfl,ab hs (w:=[119,104,105,108,101]) rfl b0,bX hs (w:=[102,111,114]) rfl,ab hs (w:=[102,111,114]) rfl b0,bX hs (w:=[114,101,97,100]) rfl,ab hs (w:=[114,101,97,100]) rfl b0,bX hs (w:=[112,114,105,110,116]) rfl,ab hs (w:=[112,114,105,110,116]) rfl b0,bX hs (w:=[97,115,115,101,114,116]) rfl,ab hs (w:=[97,115,115,101,114,116]) rfl b0,bX hs (w:=[115,116,111,112]) rfl,ab hs (w:=[115,116,111,112]) rfl b0,bX hs (w:=[114,101,116,117,114,110]) rfl,ab hs (w:=[114,101,116,117,114,110]) rfl b0,show aM ts a [42]=false from aC wY rfl,show aM ts a [105,102]=false from aC wY rfl,show aM ts a [119,104,105,108,101]=false from aC wY rfl,show aM ts a [102,111,114]=false from aC wY rfl,show aM ts a [114,101,97,100]=false from aC wY rfl,show aM ts a [112,114,105,110,116]=false from aC wY rfl,show aM ts a [97,115,115,101,114,116]=false from aC wY rfl,show aM ts a [114,101,116,117,114,110]=false from aC wY rfl,wY]
  cases h2:aM ts (a + 1) [59] with
  |false=>simp only [go_sem,aL b1,ai hs (w:=[59]) rfl b1,h2,aa,am,aQ,bg,aP,Option.bind_assoc,reduceIte];exact BS.er (c:=6) (p:=pl ts en (a + 1)) (by decide) ((fb (ts:=ts) (en:=en) (c:=6) (p:=pl ts en (a + 1)) (by decide)).mono fun k e=>⟨rfl,by have hc:(6:Int)≠0:=(by decide);simp only [go_sem,fw,cM hc,dE hc,lq hc,fh hc,dR hc,b8 hc,eG hc,eS hc,jm hc,bg,aa,e.1,e.2.1,e.2.2,true_and,and_self,Int.natCast_nonneg]⟩)
  |true=>
  have QU:=bw h2;simp only [go_sem,aL b1,ai hs (w:=[59]) rfl b1,h2,aa,am,aQ,bg,aP,Option.bind_assoc,reduceIte];simp only [go_sem,gY bn,dN bn];exact BS.ok (kx (by omega) (by omega) (by omega) (List.prefix_refl _) p4 (rM rfl (by decide)) rfl (by simp [ju]))
 |false=>
 cases pU:aM ts a [114,101,116,117,114,110] with
 |true=>
  have hl0:=bw pU;simp only [go_sem,nz,nI,bo,bN,aa,am,aQ,bg,aP,Option.bind_assoc,reduceIte,hn,aI b0,bX hs (w:=[42]) rfl,ab hs (w:=[42]) rfl b0,bX hs (w:=[105,102]) rfl,ab hs (w:=[105,102]) rfl b0,bX hs (w:=[119,104,105,108,101]) rfl,ab hs (w:=[119,104,105,108,101]) rfl b0,bX hs (w:=[102,111,114]) rfl,ab hs (w:=[102,111,114]) rfl b0,bX hs (w:=[114,101,97,100]) rfl,ab hs (w:=[114,101,97,100]) rfl b0,bX hs (w:=[112,114,105,110,116]) rfl,ab hs (w:=[112,114,105,110,116]) rfl b0,bX hs (w:=[97,115,115,101,114,116]) rfl,ab hs (w:=[97,115,115,101,114,116]) rfl b0,bX hs (w:=[115,116,111,112]) rfl,ab hs (w:=[115,116,111,112]) rfl b0,bX hs (w:=[114,101,116,117,114,110]) rfl,ab hs (w:=[114,101,116,117,114,110]) rfl b0,show aM ts a [42]=false from aC pU rfl,show aM ts a [105,102]=false from aC pU rfl,show aM ts a [119,104,105,108,101]=false from aC pU rfl,show aM ts a [102,111,114]=false from aC pU rfl,show aM ts a [114,101,97,100]=false from aC pU rfl,show aM ts a [112,114,105,110,116]=false from aC pU rfl,show aM ts a [97,115,115,101,114,116]=false from aC pU rfl,show aM ts a [115,116,111,112]=false from aC pU rfl,pU]
  refine BS.bind (Ef hs (a:=a + 1) ⟨by omega,p2,by omega,p4⟩) (fun x1 a1 d1 mE g1=>?_) (fun c p hc=>(fb (ts:=ts) (en:=en) (p:=p) hc).mono fun k e v a' ee d'=>⟨rfl,by simp only [go_sem,fw,cM hc,dE hc,lq hc,fh hc,dR hc,b8 hc,eG hc,eS hc,jm hc,bg,aa,e.1,e.2.1,e.2.2,true_and,and_self,Int.natCast_nonneg]⟩)
  obtain⟨q11,q12,rfl,q13,JS,M1,N0,N3,Mm,q19⟩:=g1;have c1:a1≤4000000000000000000:=by omega
  have Mr:a1 + 1≤4000000000000000000:=by omega
  have m1:mE.length≤4000000:=by omega
  cases h2:aM ts (a1) [59] with
  |false=>simp only [go_sem,aL c1,ai hs (w:=[59]) rfl c1,h2,aa,am,aQ,bg,aP,Option.bind_assoc,reduceIte];exact BS.er (c:=6) (p:=pl ts en (a1)) (by decide) ((fb (ts:=ts) (en:=en) (c:=6) (p:=pl ts en (a1)) (by decide)).mono fun k e=>⟨rfl,by have hc:(6:Int)≠0:=(by decide);simp only [go_sem,fw,cM hc,dE hc,lq hc,fh hc,dR hc,b8 hc,eG hc,eS hc,jm hc,bg,aa,e.1,e.2.1,e.2.2,true_and,and_self,Int.natCast_nonneg]⟩)
  |true=>
  have QU:=bw h2;simp only [go_sem,aL c1,ai hs (w:=[59]) rfl c1,h2,aa,am,aQ,bg,aP,Option.bind_assoc,reduceIte];simp only [go_sem,gY m1,dN m1];exact BS.ok (kx (by omega) (by omega) (by omega) JS M1 ⟨by simp;omega,by simpa [bZ] using Mm,by simp⟩ rfl (by rw [oC];exact q19))
 |false=>simp only [go_sem,nz,nI,bo,bN,aa,am,aQ,bg,aP,Option.bind_assoc,reduceIte,hn,aI b0,bX hs (w:=[42]) rfl,ab hs (w:=[42]) rfl b0,bX hs (w:=[105,102]) rfl,ab hs (w:=[105,102]) rfl b0,bX hs (w:=[119,104,105,108,101]) rfl,ab hs (w:=[119,104,105,108,101]) rfl b0,bX hs (w:=[102,111,114]) rfl,ab hs (w:=[102,111,114]) rfl b0,bX hs (w:=[114,101,97,100]) rfl,ab hs (w:=[114,101,97,100]) rfl b0,bX hs (w:=[112,114,105,110,116]) rfl,ab hs (w:=[112,114,105,110,116]) rfl b0,bX hs (w:=[97,115,115,101,114,116]) rfl,ab hs (w:=[97,115,115,101,114,116]) rfl b0,bX hs (w:=[115,116,111,112]) rfl,ab hs (w:=[115,116,111,112]) rfl b0,bX hs (w:=[114,101,116,117,114,110]) rfl,ab hs (w:=[114,101,116,117,114,110]) rfl b0,oi,K5,sP,sa,og,sO,pT,wY,pU,oQ,IC];exact BS.er (c:=6) (p:=pl ts en a) (by decide) ((fb (ts:=ts) (en:=en) (c:=6) (p:=pl ts en a) (by decide)).mono fun k e=>⟨rfl,by have hc:(6:Int)≠0:=(by decide);simp only [go_sem,fw,cM hc,dE hc,lq hc,fh hc,dR hc,b8 hc,eG hc,eS hc,jm hc,bg,aa,e.1,e.2.1,e.2.2,true_and,and_self,Int.natCast_nonneg]⟩)
theorem VB(hs:oM ts):∀ m a,ts.length - a≤m→∀ a',a≤a'→∀ d ns,wI ts a' d ns→StB ts en a' d ns∧BlB ts en a' d ns:=by
 intro m;induction m with
 |zero=>intro a hm a' ha d ns hp;exact⟨Og hs hp fun a2 d2 pQ h2 p2=>by have:=p2.hi;have:=hp.hi;omega,Kz hs hp fun a2 d2 pQ h2 p2=>by have:=p2.hi;have:=hp.hi;omega⟩
 |succ m ih=>intro a hm a' ha d ns hp;exact⟨Og hs hp fun a2 d2 pQ h2 p2=>(ih (a + 1) (by omega) a2 (by omega) d2 pQ p2).2,Kz hs hp fun a2 d2 pQ h2 p2=>(ih (a + 1) (by omega) a2 (by omega) d2 pQ p2).1⟩
theorem Ye(hs:oM ts)(hp:wI ts a d ns):StB ts en a d ns:=(VB hs _ a (Nat.le_refl _) a (Nat.le_refl _) d ns hp).1
end
end Go.Fx.R5
namespace Go.Fx.R5
open Go Go.Fx
section
variable {ts:List yn} {en:Int} {c p:Int} {a d:Nat} {ns:List eg}
def D6(pre:XI)(r:Mq)(o:Option ((Int×List eg×XI×Unit)⊕(Int×Int×Unit))):Prop:=match r with
 |.ok l a ns=>o=some (.inl ((a:Int),ns,pre ++ l,()))
 |.er c p=>o=some (.inr (c,p,()))
def D7(r:Mq)(o:Option (Int×List eg×Int×Int×XI×Unit)):Prop:=match r with
 |.ok l a ns=>o=some ((a:Int),ns,0,0,l,())
 |.er c p=>∃(l:XI) (a:Nat) (ns:List eg),o=some ((a:Int),ns,c,p,l,())∧l.length≤2000000
theorem AR{w:ao}(h:¬ a < ts.length):aM ts a w=false:=by
 cases h':aM ts a w with
 |false=>rfl
 |true=>exact absurd (bw h') h
theorem Pf{k:Int}(hk:vm k=true)(hs0:bZ k []=true)(h4:k≠4){l:XI}{y:eg}(hy:y.1=k)(If:y.2.2.2.2 = [])(h:iK vm ns l)(hp:jh ns):
  jh (ns ++ [y])∧iK vm (ns ++ [y]) (l ++ [(ns.length:Int)]):=by
 obtain⟨k',a',n',s',l'⟩:=y;simp only at hy If;subst hy;subst If;refine⟨hp.add (rM hs0 h4),(h.up (List.prefix_append _ _)).add (by omega) (by simp;omega) (by rw [qs];exact hk)⟩
theorem RK(hs:oM ts):∀ m a (ns:List eg) (l:XI),ts.length - a≤m→wI ts a d ns→iK vm ns l→1≤l.length→l.length≤a→
  ∃ r,Mp ts vm a ns l.length (ju ns l) r∧cm fun q k=>D6 [] r (bW q k ts en (a:Int) ns l)∧D7 (pR ts en [41] r) (au q k ts en (a:Int) ns 0 0 l):=by
 have h7:=hs.len;intro m;induction m with
 |zero=>
  intro a ns l hm hp hk hl P7;have bq:¬ a < ts.length:=by omega
  have b0:a≤4000000000000000000:=by have:=hp.hi;omega
  have bk:l.length≤4000000:=by have:=hp.hi;omega
  have bl:(l.length:Int) > 0:=by omega
  have hc:(6:Int)≠0:=by decide
  refine⟨.ok l a ns,⟨by omega,hp.hi,by omega,List.prefix_refl _,hp.all,hk,by omega,by omega⟩,cm.succ (cm.succ (cm.of fun q k=>⟨?_,?_⟩))⟩
  ·simp only [go_sem,D6,List.nil_append,bW,aI b0,AR bq,reduceIte]
  ·simp only [go_sem,pR,AR bq,reduceIte]
   refine⟨l ++ [0],a,ns,?_,by have:=hp.hi;simp;omega⟩
   rw [au];simp only [go_sem,aa,bX hs (w:=[41]) rfl,AR bq,bl,ai hs (w:=[44]) rfl b0,reduceIte,bg,dR hc,b8 hc,cp bk];rw [au];simp only [go_sem,aa,show((6:Int) == 0)=false from rfl]
 |succ m ih=>
  intro a ns l hm hp hk hl P7;obtain⟨p1,p2,p3,p4⟩:=hp;have b0:a≤4000000000000000000:=by omega
  have b1:a + 1≤4000000000000000000:=by omega
  have bn:ns.length≤4000000:=by omega
  have bk:l.length≤4000000:=by omega
  have bl:(l.length:Int) > 0:=by omega
  have hc:(6:Int)≠0:=by decide
  cases Em:aM ts a [44] with
  |true=>
   have l7:aM ts a [41]=false:=aC Em rfl;have bq:=bw Em;cases hn:sY ts (a + 1) 1 with
   |false=>
    refine⟨.er 6 (pl ts en (a + 1)),hc,cm.succ (cm.succ (cm.of fun q k=>⟨?_,l ++ [0],a + 1,ns,?_,by simp;omega⟩))⟩
    ·simp only [go_sem,D6,bW,aI b0,Em,reduceIte,fN b1 bn,hn]
    ·rw [au]
     simp only [go_sem,aa,bX hs (w:=[41]) rfl,l7,Em,bl,ai hs (w:=[44]) rfl b0,reduceIte,bg,cU b1,hn,b8 hc,cp bk];rw [au];simp only [go_sem,aa,show((6:Int) == 0)=false from rfl]
   |true=>
    have QV:=jz hn;obtain⟨x1,x2⟩:=Pf (k:=5) (y:=(5,(tk ts (a + 1)).2.1,0,(tk ts (a + 1)).2.2.1,[])) rfl rfl (by decide) rfl rfl hk p4
    obtain⟨r,gi,gr⟩:=ih (a + 1 + 1) (ns ++ [(5,(tk ts (a + 1)).2.1,0,(tk ts (a + 1)).2.2.1,[])]) (l ++ [(ns.length:Int)]) (by omega) ⟨by omega,p2,by simp;omega,x1⟩ x2 (by simp) (by simp;omega)
    refine⟨r,gi.from (by omega) (by simp;omega) (List.prefix_append _ _) (by simp;omega) (by rw [pY,oC,nJ,yy,pp (List.prefix_append _ _) hk.v];simp;omega),cm.succ (gr.mono fun q k e=>⟨?_,?_⟩)⟩
    ·simp only [go_sem,bW,aI b0,Em,reduceIte,fN b1 bn,hn,cp bk]
     exact e.1
    ·simp only [go_sem,au,aa,bX hs (w:=[41]) rfl,l7,Em,bl,ai hs (w:=[44]) rfl b0,reduceIte,bg,cU b1,hn,sk QV,dN bn,cp bk]
     exact e.2
  |false=>
   cases l7:aM ts a [41] with
   |true=>
    refine⟨.ok l a ns,⟨by omega,p1,by omega,List.prefix_refl _,p4,hk,by omega,by omega⟩,cm.succ (cm.of fun q k=>⟨?_,?_⟩)⟩
    ·simp only [go_sem,D6,List.nil_append,bW,aI b0,Em,reduceIte]
    ·simp only [go_sem,pR,l7,reduceIte,D7,au,aa,bX hs (w:=[41]) rfl]
   |false=>
    refine⟨.ok l a ns,⟨by omega,p1,by omega,List.prefix_refl _,p4,hk,by omega,by omega⟩,cm.succ (cm.succ (cm.of fun q k=>⟨?_,?_⟩))⟩
    ·simp only [go_sem,D6,List.nil_append,bW,aI b0,Em,reduceIte]
    ·simp only [go_sem,pR,l7,reduceIte]
     refine⟨l ++ [0],a,ns,?_,by simp;omega⟩
     rw [au];simp only [go_sem,aa,bX hs (w:=[41]) rfl,l7,Em,bl,ai hs (w:=[44]) rfl b0,reduceIte,bg,dR hc,b8 hc,cp bk];rw [au];simp only [go_sem,aa,show((6:Int) == 0)=false from rfl]
theorem RJ(hs:oM ts)(hp:wI ts a d ns):∃ r,Mp ts vm a ns 0 0 r∧(∀ l' a' ee,r = .ok l' a' ee→aM ts a' [41]=true)∧Ev fun k=>
    (∀ f:XI×Int×List eg→IT,(aa f fun cL=>(aG ts (a:Int) [41]).bind fun r5=>
      bif !r5.1 then
       (eP ts en r5.2.1 ns 5).bind fun r=>match r with
       |.inl r6=>
        (lM ([]:XI) ([r6.1])).bind fun l=>
        (bW k k ts en r6.2.1 r6.2.2.1 l).bind fun r=>match r with
        |.inl o=>
         (a7 ts en o.1 ([41]:ao)).bind fun r=>match r with
         |.inl r8=>
          cL (o.2.2.1,r8.1,o.2.1)
         |.inr r9=>
          some (.inr (r9.1,r9.2.1,()))
        |.inr o2=>
         some (.inr (o2.1,o2.2.1,()))
       |.inr r7=>
        some (.inr (r7.1,r7.2.1,()))
      else
       cL ([],r5.2.1,ns))=match r with | .ok l' a' ee=>f (l',((a' + 1:Nat):Int),ee) | .er c p=>some (.inr (c,p,())))∧D7 r (au k k ts en (a:Int) ns 0 0 []):=by
  have h7:=hs.len;obtain⟨p1,p2,p3,p4⟩:=hp;have b0:a≤4000000000000000000:=by omega
  have bn:ns.length≤4000000:=by omega
  have hc:(6:Int)≠0:=by decide
  have a0:∀ v:Int,lM ([]:XI) [v]=some [v]:=fun v=>by simp [lM]
  cases l7:aM ts a [41] with
  |true=>
    have hS:Ev fun k=>D7 (.ok [] a ns) (au k k ts en (a:Int) ns 0 0 []):=
      cm.jI (p2:=fun q k=>D7 (.ok [] a ns) (au q k ts en (a:Int) ns 0 0 [])) (cm.succ (cm.of fun q k=>by
        simp only [go_sem,D7,au,aa,bX hs (w:=[41]) rfl,l7]))
    refine⟨.ok [] a ns,⟨by omega,p1,by omega,List.prefix_refl _,p4,iK.nil,by simp,by simp [ju]⟩,(fun _ _ _ h=>by cases h;exact l7),hS.mono fun k e=>⟨fun f=>?_,e⟩⟩
    simp only [go_sem,aa,aI b0,l7,reduceIte]
  |false=>
  cases hn:sY ts a 1 with
  |false=>
    have hL:Ev fun k=>D7 (.er 6 (pl ts en a)) (au k k ts en (a:Int) ns 0 0 []):=
      cm.jI (p2:=fun q k=>D7 (.er 6 (pl ts en a)) (au q k ts en (a:Int) ns 0 0 [])) (cm.succ (cm.succ (cm.of fun q k=>by
        refine⟨[0],a,ns,?_,by simp⟩
        rw [au];simp only [go_sem,aa,bX hs (w:=[41]) rfl,l7,List.length_nil,show(((0:Nat):Int) > 0)=False from by simp,bg,cU b0,hn,reduceIte,b8 hc,a0]
        rw [au];simp only [go_sem,aa,show((6:Int) == 0)=false from rfl])))
    refine⟨.er 6 (pl ts en a),hc,(fun _ _ _ h=>by cases h),hL.mono fun k e=>⟨fun f=>?_,e⟩⟩
    simp only [go_sem,aa,aI b0,l7,reduceIte,fN b0 bn,hn]
  |true=>
    have bq:=jz hn;obtain⟨x1,x2⟩:=Pf (k:=5) (y:=(5,(tk ts a).2.1,0,(tk ts a).2.2.1,[])) rfl rfl (by decide) rfl rfl (iK.nil (ns:=ns)) p4
    obtain⟨r,gi,gr⟩:=RK (en:=en) (d:=d) hs _ (a + 1) (ns ++ [(5,(tk ts a).2.1,0,(tk ts a).2.2.1,[])]) ([] ++ [(ns.length:Int)]) (Nat.le_refl _) ⟨by omega,p2,by simp;omega,x1⟩ x2 (by simp) (by simp)
    have hI:Ev fun k=>D6 [] r (bW k k ts en ((a + 1:Nat):Int) (ns ++ [(5,(tk ts a).2.1,0,(tk ts a).2.2.1,[])]) [(ns.length:Int)]):=(gr.mono fun q k e=>e.1).jI;have hS:Ev fun k=>D7 (pR ts en [41] r) (au k k ts en (a:Int) ns 0 0 []):=
      cm.jI (p2:=fun q k=>D7 (pR ts en [41] r) (au q k ts en (a:Int) ns 0 0 [])) (cm.succ (gr.mono fun q k e=>by
        simp only [go_sem,au,aa,bX hs (w:=[41]) rfl,l7,List.length_nil,show(((0:Nat):Int) > 0)=False from by simp,bg,cU b0,hn,reduceIte,sk bq,dN bn,a0]
        exact e.2))
    have hE:=hI.and hS;cases r with
    |er c p=>
      refine⟨.er c p,gi,(fun _ _ _ h=>by cases h),hE.mono fun k e=>⟨fun f=>?_,e.2⟩⟩
      simp only [go_sem,aa,aI b0,l7,reduceIte,fN b0 bn,hn,a0];rw [show bW k k ts en ((a + 1:Nat):Int) _ [(ns.length:Int)]=_ from e.1]
      rfl
    |ok l' a' ee=>
      have gi':LOk ts vm (a + 1) (ns ++ [(5,(tk ts a).2.1,0,(tk ts a).2.2.1,[])]) ([] ++ [(ns.length:Int)]).length (ju (ns ++ [(5,(tk ts a).2.1,0,(tk ts a).2.2.1,[])]) ([] ++ [(ns.length:Int)])) l' a' ee:=gi;obtain⟨g1,g2,g3,g4,g5,g6,g7,g8⟩:=gi';rw [List.nil_append,oC,nJ,yy] at g8;simp only [List.length_append,List.length_cons,List.length_nil] at g3 g7 g8;have b4:a'≤4000000000000000000:=by omega
      cases h3:aM ts a' [41] with
      |true=>
        refine⟨.ok l' a' ee,⟨by omega,g2,by omega,(List.prefix_append _ _).trans g4,g5,g6,by omega,by omega⟩,(fun _ _ _ h=>by cases h;exact h3),hE.mono fun k e=>⟨fun f=>?_,?_⟩⟩
        · simp only [go_sem,aa,aI b0,l7,reduceIte,fN b0 bn,hn,a0]
          rw [show bW k k ts en ((a + 1:Nat):Int) _ [(ns.length:Int)]=_ from e.1]
          simp only [go_sem,aL b4,h3,reduceIte,List.nil_append]
        · have e2:=e.2
          simp only [pR,h3,reduceIte] at e2;exact e2
      |false=>
        refine⟨.er 6 (pl ts en a'),hc,(fun _ _ _ h=>by cases h),hE.mono fun k e=>⟨fun f=>?_,?_⟩⟩
        · simp only [go_sem,aa,aI b0,l7,reduceIte,fN b0 bn,hn,a0]
          rw [show bW k k ts en ((a + 1:Nat):Int) _ [(ns.length:Int)]=_ from e.1]
          simp only [go_sem,aL b4,h3,reduceIte]
        · have e2:=e.2
          simp only [go_sem,pR,h3,reduceIte] at e2;exact e2
theorem SW(hs:oM ts){kk:Int}(hk1:vm kk=true)(hk2:bZ kk []=true)(hk4:kk≠4)(pre:XI)(acH:pre.length≤1000000):∀ m a (ns:List eg) (l:XI),ts.length - a≤m→wI ts a d ns→iK vm ns l→l.length≤a→
  ∃ r,Mp ts vm a ns l.length (ju ns l) r∧cm fun q k=>D6 pre r (cE q k ts en kk (a:Int) ns (pre ++ l))∧D7 r (cQ q k ts en kk (a:Int) ns 0 0 l):=by
 have h7:=hs.len;intro m;induction m with
 |zero=>
  intro a ns l hm hp hk P7;have bq:¬ a < ts.length:=by omega
  have b0:a≤4000000000000000000:=by have:=hp.hi;omega
  refine⟨.ok l a ns,⟨by omega,hp.hi,by omega,List.prefix_refl _,hp.all,hk,by omega,by omega⟩,cm.succ (cm.of fun q k=>⟨?_,?_⟩)⟩
  ·simp only [go_sem,D6,cE,aI b0,AR bq,reduceIte]
  ·simp only [go_sem,D7,cQ,ab hs (w:=[44]) rfl b0,AR bq,reduceIte]
 |succ m ih=>
  intro a ns l hm hp hk P7;obtain⟨p1,p2,p3,p4⟩:=hp;have b0:a≤4000000000000000000:=by omega
  have b1:a + 1≤4000000000000000000:=by omega
  have bn:ns.length≤4000000:=by omega
  have bk:l.length≤4000000:=by omega
  have bp:(pre ++ l).length≤4000000:=by simp;omega
  have hc:(6:Int)≠0:=by decide
  cases Em:aM ts a [44] with
  |false=>
   refine⟨.ok l a ns,⟨by omega,p1,by omega,List.prefix_refl _,p4,hk,by omega,by omega⟩,cm.succ (cm.of fun q k=>⟨?_,?_⟩)⟩
   ·simp only [go_sem,D6,cE,aI b0,Em,reduceIte]
   ·simp only [go_sem,D7,cQ,ab hs (w:=[44]) rfl b0,Em,reduceIte]
  |true=>
   have bq:=bw Em;cases hn:sY ts (a + 1) 1 with
   |false=>
    refine⟨.er 6 (pl ts en (a + 1)),hc,cm.succ (cm.succ (cm.of fun q k=>⟨?_,l ++ [0],a + 1,ns,?_,by simp;omega⟩))⟩
    ·simp only [go_sem,D6,cE,aI b0,Em,reduceIte,fN b1 bn,hn]
    ·rw [cQ]
     simp only [go_sem,ab hs (w:=[44]) rfl b0,Em,reduceIte,bg,cU b1,hn,b8 hc,cp bk];rw [cQ];simp only [go_sem,dE hc]
   |true=>
    have QV:=jz hn;obtain⟨x1,x2⟩:=Pf (k:=kk) (y:=(kk,(tk ts (a + 1)).2.1,0,(tk ts (a + 1)).2.2.1,[])) hk1 hk2 hk4 rfl rfl hk p4;obtain⟨r,gi,gr⟩:=ih (a + 1 + 1) (ns ++ [(kk,(tk ts (a + 1)).2.1,0,(tk ts (a + 1)).2.2.1,[])]) (l ++ [(ns.length:Int)]) (by omega) ⟨by omega,p2,by simp;omega,x1⟩ x2 (by simp;omega)
    refine⟨r,gi.from (by omega) (by simp;omega) (List.prefix_append _ _) (by simp;omega) (by rw [pY,oC,nJ,yy,pp (List.prefix_append _ _) hk.v];simp;omega),cm.succ (gr.mono fun q k e=>⟨?_,?_⟩)⟩
    ·simp only [go_sem,cE,aI b0,Em,reduceIte,fN b1 bn,hn,cp bp,List.append_assoc]
     exact e.1
    ·simp only [go_sem,cQ,ab hs (w:=[44]) rfl b0,Em,reduceIte,bg,cU b1,hn,sk QV,dN bn,cp bk]
     exact e.2
theorem Ri(hs:oM ts)(pre:XI)(acH:pre.length≤1000000):∀ m a (ns:List eg) (l:XI),ts.length - a≤m→wI ts a d ns→iK vm ns l→l.length≤a→
  ∃ r,Mp ts vm a ns l.length (ju ns l) r∧cm fun q k=>D6 pre r (cq q k ts en (a:Int) ns (pre ++ l))∧D7 r (cP q k ts en (a:Int) ns 0 0 l):=by
 have h7:=hs.len;intro m;induction m with
 |zero=>
  intro a ns l hm hp hk P7;have bq:¬ a < ts.length:=by omega
  have b0:a≤4000000000000000000:=by have:=hp.hi;omega
  refine⟨.ok l a ns,⟨by omega,hp.hi,by omega,List.prefix_refl _,hp.all,hk,by omega,by omega⟩,cm.succ (cm.of fun q k=>⟨?_,?_⟩)⟩
  ·simp only [go_sem,D6,cq,aa,rU b0,AR bq]
  ·simp only [go_sem,D7,cP,aa,bX hs (w:=[118,97,114]) rfl,bX hs (w:=[114,101,102]) rfl,AR bq]
 |succ m ih=>
  intro a ns l hm hp hk P7;obtain⟨p1,p2,p3,p4⟩:=hp;have b0:a≤4000000000000000000:=by omega
  have b1:a + 1≤4000000000000000000:=by omega
  have bn:ns.length≤4000000:=by omega
  have bk:l.length≤4000000:=by omega
  have bp:(pre ++ l).length≤4000000:=by simp;omega
  have hc:(6:Int)≠0:=by decide
  by_cases hv:aM ts a [118,97,114]=true∨aM ts a [114,101,102]=true
  ·have bq:a < ts.length:=hv.elim bw bw
   obtain⟨kk,hk1,hk2,hk4,UF,UG⟩:∃ kk:Int,vm kk=true∧bZ kk []=true∧kk≠4∧
     (∀ q k,cq q (k + 1) ts en (a:Int) ns (pre ++ l)=(eP ts en ((a + 1:Nat):Int) ns kk).bind fun r=>match r with
      |.inl so=>(lM (pre ++ l) ([so.1])).bind fun l2=>(cE q q ts en kk so.2.1 so.2.2.1 l2).bind fun r=>match r with
       |.inl o3=>(a7 ts en o3.1 ([59]:ao)).bind fun r=>match r with
        |.inl xJ=>cq q k ts en xJ.1 o3.2.1 o3.2.2.1
        |.inr Aq=>some (.inr (Aq.1,Aq.2.1,()))
       |.inr o4=>some (.inr (o4.1,o4.2.1,()))
      |.inr sy=>some (.inr (sy.1,sy.2.1,())))∧
     (∀ q k,cP q (k + 1) ts en (a:Int) ns 0 0 l=(cZ ts ((a + 1:Nat):Int) en).bind fun r4=>(dz ts ((a + 1:Nat):Int) en 0 0).bind fun r5=>
      (aV ns r5.2.2.1 (kk,r4.1,0,r5.1,[])).bind fun r6=>(lM l ([r6.1])).bind fun l2=>
      (cQ q q ts en kk r5.2.1 r6.2.1 r5.2.2.1 r5.2.2.2.1 l2).bind fun o=>(aN ts o.1 en o.2.2.1 o.2.2.2.1 ([59]:ao)).bind fun r7=>
      cP q k ts en r7.1 o.2.1 r7.2.1 r7.2.2.1 o.2.2.2.2.1):=by
    rcases hv with hv | hv
    ·have hr:aM ts a [114,101,102]=false:=aC hv rfl
     exact⟨6,rfl,rfl,by decide,fun q k=>by simp only [go_sem,cq,aa,rU b0,hv,hr,ag (show a < _ by omega)];rfl,
      fun q k=>by simp only [go_sem,cP,aa,bX hs (w:=[118,97,114]) rfl,bX hs (w:=[114,101,102]) rfl,hv,hr,ag (show a < _ by omega)]⟩
    ·have hr:aM ts a [118,97,114]=false:=aC hv rfl
     exact⟨7,rfl,rfl,by decide,fun q k=>by simp only [go_sem,cq,aa,rU b0,hv,hr,ag (show a < _ by omega)];rfl,
      fun q k=>by simp only [go_sem,cP,aa,bX hs (w:=[118,97,114]) rfl,bX hs (w:=[114,101,102]) rfl,hv,hr,ag (show a < _ by omega)]⟩
   cases hn:sY ts (a + 1) 1 with
   |false=>
    refine⟨.er 6 (pl ts en (a + 1)),hc,?_⟩;have hL:Ev fun q=>∃ l',cQ q q ts en kk ((a + 1:Nat):Int) ns 6 (pl ts en (a + 1)) (l ++ [0])=some (((a + 1:Nat):Int),ns,6,pl ts en (a + 1),l',())∧l'.length≤2000000:=
     cm.jI (p2:=fun q k=>∃ l',cQ q k ts en kk ((a + 1:Nat):Int) ns 6 (pl ts en (a + 1)) (l ++ [0])=some (((a + 1:Nat):Int),ns,6,pl ts en (a + 1),l',())∧l'.length≤2000000) (cm.succ (cm.of fun q k=>⟨l ++ [0],by simp only [go_sem,cQ,dE hc],by simp;omega⟩))
    refine cm.succ (cm.succ (hL.tw.mono fun q k e=>?_));obtain⟨l',e,J7⟩:=e;refine⟨?_,l',a + 1,ns,?_,J7⟩
    ·simp only [go_sem,D6,UF,fN b1 bn,hn,reduceIte]
    ·rw [UG]
     simp only [go_sem,bg,cU b1,hn,reduceIte,b8 hc,cp bk,e,cM hc];rw [cP];simp only [go_sem,aa,lq hc]
   |true=>
    have QV:=jz hn;obtain⟨x1,x2⟩:=Pf (k:=kk) (y:=(kk,(tk ts (a + 1)).2.1,0,(tk ts (a + 1)).2.2.1,[])) hk1 hk2 hk4 rfl rfl hk p4;obtain⟨r,gi,gr⟩:=SW (en:=en) (d:=d) hs hk1 hk2 hk4 pre acH _ (a + 1 + 1) (ns ++ [(kk,(tk ts (a + 1)).2.1,0,(tk ts (a + 1)).2.2.1,[])]) (l ++ [(ns.length:Int)]) (Nat.le_refl _) ⟨by omega,p2,by simp;omega,x1⟩ x2 (by simp;omega)
    have gr:=gr.jI;cases r with
    |er c p=>
     have hc:c≠0:=gi;refine⟨.er c p,gi,cm.succ (cm.succ (gr.tw.mono fun q k e=>?_))⟩;obtain⟨e1,l',a',ee,e2,J7⟩:=e;refine⟨?_,l',a',ee,?_,J7⟩
     ·simp only [go_sem,D6,UF,fN b1 bn,hn,reduceIte,cp bp,List.append_assoc]
      rw [show cE q q ts en kk _ _ _=_ from e1];rfl
     ·rw [UG]
      simp only [go_sem,bg,cU b1,hn,reduceIte,sk QV,dN bn,cp bk,e2,cM hc];rw [cP];simp only [go_sem,aa,lq hc]
    |ok l' a' ee=>
     have gi':LOk ts vm (a + 1 + 1) (ns ++ [(kk,(tk ts (a + 1)).2.1,0,(tk ts (a + 1)).2.2.1,[])]) (l ++ [(ns.length:Int)]).length (ju (ns ++ [(kk,(tk ts (a + 1)).2.1,0,(tk ts (a + 1)).2.2.1,[])]) (l ++ [(ns.length:Int)])) l' a' ee:=gi;obtain⟨g1,g2,g3,g4,g5,g6,g7,g8⟩:=gi';rw [pY,oC,nJ,yy,pp (List.prefix_append _ _) hk.v] at g8;simp only [List.length_append,List.length_cons,List.length_nil] at g3 g7 g8;have b4:a'≤4000000000000000000:=by omega
     cases Id:aM ts a' [59] with
     |false=>
      refine⟨.er 6 (pl ts en a'),hc,cm.succ (cm.succ (gr.tw.mono fun q k e=>?_))⟩;obtain⟨e1,e2⟩:=e;refine⟨?_,l',a',ee,?_,by omega⟩
      ·simp only [go_sem,D6,UF,fN b1 bn,hn,reduceIte,cp bp,List.append_assoc]
       rw [show cE q q ts en kk _ _ _=_ from e1]
       simp only [go_sem,aL b4,Id,reduceIte]
      ·rw [UG]
       simp only [go_sem,bg,cU b1,hn,reduceIte,sk QV,dN bn,cp bk];rw [show cQ q q ts en kk _ _ 0 0 _=_ from e2]
       simp only [go_sem,ai hs (w:=[59]) rfl b4,Id,reduceIte];rw [cP];simp only [go_sem,aa,lq hc]
     |true=>
      have ad0:=bw Id;obtain⟨r,fi,fr⟩:=ih (a' + 1) ee l' (by omega) ⟨by omega,p2,by omega,g5⟩ g6 (by omega)
      refine⟨r,fi.from (by omega) (by omega) ((List.prefix_append _ _).trans g4) (by omega) (by omega),cm.succ ((gr.tw.and fr).mono fun q k e=>?_)⟩
      obtain⟨⟨e1,e2⟩,e3,e4⟩:=e;refine⟨?_,?_⟩
      ·simp only [go_sem,UF,fN b1 bn,hn,reduceIte,cp bp,List.append_assoc]
       rw [show cE q q ts en kk _ _ _=_ from e1]
       simp only [go_sem,aL b4,Id,reduceIte];exact e3
      ·rw [UG]
       simp only [go_sem,bg,cU b1,hn,reduceIte,sk QV,dN bn,cp bk];rw [show cQ q q ts en kk _ _ 0 0 _=_ from e2]
       simp only [go_sem,ai hs (w:=[59]) rfl b4,Id,reduceIte];exact e4
  ·simp only [not_or,Bool.not_eq_true] at hv
   refine⟨.ok l a ns,⟨by omega,p1,by omega,List.prefix_refl _,p4,hk,by omega,by omega⟩,cm.succ (cm.of fun q k=>⟨?_,?_⟩)⟩
   ·simp only [go_sem,D6,cq,aa,rU b0,hv.1,hv.2]
   ·simp only [go_sem,D7,cP,aa,bX hs (w:=[118,97,114]) rfl,bX hs (w:=[114,101,102]) rfl,hv.1,hv.2]
end
end Go.Fx.R5
namespace Go.Fx.R5
open Go Go.Fx
section
variable {ts:List yn} {en:Int} {c p:Int} {a d:Nat} {ns:List eg}
theorem Ng(l:XI)(q:Nat):∀(m i k:Nat) (cA:XI),m + i=l.length→m < k→cA.length + m≤4000000→l.length≤4000000→eC q k l cA (i:Int)=some (cA ++ l.drop i,())
 |0,i,k + 1,cA,h,_,h2,_=>by
  have:¬ i < l.length:=by omega
  have e:l.drop i = []:=by simp;omega
  rw [e];simp [eC,this]
 |m + 1,i,k + 1,cA,h,hk,h2,h3=>by
  have bq:i < l.length:=by omega
  have e:l.drop i=l[i] :: l.drop (i + 1):=List.drop_eq_getElem_cons bq;have e2:=Ng l q m (i + 1) k (cA ++ [l[i]]) (by omega) (by omega) (by simp;omega) h3
  simp only [go_sem,eC,Int.ofNat_lt,bq,cV bq,Int.toNat_natCast,cp (show cA.length≤4000000 by omega),ag (show i < _ by omega),e2,e]
  simp
theorem QC(l cA:XI)(k:Nat)(hk:l.length < k)(h:cA.length + l.length≤4000000):eC k k l cA 0=some (cA ++ l,()):=
 Ng l k l.length 0 k cA rfl hk h (by omega)
theorem adF(l cA:XI)(h:cA.length + l.length≤4000000):Ev fun k=>eC k k l cA 0=some (cA ++ l,()):=⟨l.length + 1,fun k hk=>QC l cA k (by omega) h⟩
theorem T7(q:Nat):∀ k t e p n d c a b,eD q k t e p n d c a b=dY (eu q) (lA q) (iO q) q k t e p n d c a b
 |0,_,_,_,_,_,_,_,_=>rfl
 |k + 1,t,e,p,n,d,c,a,b=>by simp only [eD,dY,T7 q k]
theorem aca(hc:c≠0):Ev fun k=>(∀(a:Nat) (ns:List eg) (l:XI),au k k ts en (a:Int) ns c p l=some ((a:Int),ns,c,p,l,()))∧
  (∀(a:Nat) (ns:List eg) (d:Int) (l:XI),eD k k ts en (a:Int) ns d c p l=some ((a:Int),ns,d,c,p,l,())):=
 cm.jI (p2:=fun q k=>(∀(a:Nat) (ns:List eg) (l:XI),au q k ts en (a:Int) ns c p l=some ((a:Int),ns,c,p,l,()))∧
  (∀(a:Nat) (ns:List eg) (d:Int) (l:XI),eD q k ts en (a:Int) ns d c p l=some ((a:Int),ns,d,c,p,l,()))) (cm.succ (cm.of fun q k=>⟨fun a ns l=>by
   simp only [go_sem,au,aa,beq_eq_false_iff_ne.2 hc],fun a ns d l=>by
   simp only [go_sem,eD,aa,beq_eq_false_iff_ne.2 hc]⟩))
theorem KV(hc:c≠0):Ev fun k=>(∀(a:Nat) (ns:List eg) (l:XI),au k k ts en (a:Int) ns c p l=some ((a:Int),ns,c,p,l,())):=(aca hc).mono fun _ e=>e.1
theorem adC(hs:oM ts)(hp:wI ts a d ns):BS (wH ts (· == 4) 1 a d ns) (fun k=>cS k ts en (a:Int) (d:Int) ns) (fun k=>df k ts (a:Int) en ns (d:Int) 0 0):=by
 have h7:=hs.len;obtain⟨p1,p2,p3,p4⟩:=hp;have b0:a≤4000000000000000000:=by omega
 have b1:a + 1≤4000000000000000000:=by omega
 have hc:(6:Int)≠0:=by decide
 cases hn:sY ts a 1 with
 |false=>
  refine BS.er (c:=6) (p:=pl ts en a) hc ((KV (ts:=ts) (en:=en) (p:=pl ts en a) hc).mono fun k e=>⟨?_,?_⟩)
  ·simp only [go_sem,cS,bL b0,hn,reduceIte]
  ·simp only [go_sem,df,bg,cU b0,hn,reduceIte,cM hc,e,eG hc,fw,Int.natCast_nonneg,and_self]
 |true=>
 have bq:=jz hn;cases mb:aM ts (a + 1) [40] with
 |false=>
  refine BS.er (c:=6) (p:=pl ts en (a + 1)) hc ((KV (ts:=ts) (en:=en) (p:=pl ts en (a + 1)) hc).mono fun k e=>⟨?_,?_⟩)
  ·simp only [go_sem,cS,bL b0,hn,aL b1,mb,reduceIte]
  ·simp only [go_sem,df,bg,cU b0,hn,ai hs (w:=[40]) rfl b1,mb,reduceIte,cM hc,e,eG hc,fw,Int.natCast_nonneg,and_self]
 |true=>
 have QV:=bw mb;obtain⟨r,hi,hx,hr⟩:=RJ (en:=en) hs (a:=a + 1 + 1) (d:=d) (ns:=ns) ⟨by omega,p2,by omega,p4⟩
 cases r with
 |er c p=>
  have hc:c≠0:=hi;refine BS.er (c:=c) (p:=p) hc (hr.mono fun k e=>?_);obtain⟨e1,l',a',ee,e2,_⟩:=e;refine⟨?_,?_⟩
  ·simp only [go_sem,cS,bL b0,hn,aL b1,mb,reduceIte]
   exact e1 _
  ·simp only [go_sem,df,bg,cU b0,hn,ai hs (w:=[40]) rfl b1,mb,reduceIte,e2,cM hc,eG hc,fw,Int.natCast_nonneg,and_self]
 |ok l1 a1 mE=>
  have l7:=hx _ _ _ rfl;have hi':LOk ts vm (a + 1 + 1) ns 0 0 l1 a1 mE:=hi;obtain⟨g1,g2,g3,g4,g5,g6,g7,g8⟩:=hi';have Lg:=bw l7;have c1:a1≤4000000000000000000:=by omega
  have c2:a1 + 1≤4000000000000000000:=by omega
  cases pP:aM ts (a1 + 1) [123] with
  |false=>
   refine BS.er (c:=6) (p:=pl ts en (a1 + 1)) hc (hr.mono fun k e=>?_);obtain⟨e1,e2⟩:=e;refine⟨?_,?_⟩
   ·simp only [go_sem,cS,bL b0,hn,aL b1,mb,reduceIte]
    refine(e1 _).trans ?_;simp only [go_sem,reduceIte,am,aL c2,pP]
   ·simp only [go_sem,df,bg,cU b0,hn,ai hs (w:=[40]) rfl b1,mb,reduceIte,show au k k ts en ((a + 1 + 1:Nat):Int) ns 0 0 []=_ from e2,ai hs (w:=[41]) rfl c1,l7,ai hs (w:=[123]) rfl c2,pP,eG hc,fw,Int.natCast_nonneg,and_self]
  |true=>
  have aeK:=bw pP;by_cases hd:d < 10
  rotate_left
  ·refine BS.er (c:=7) (p:=pl ts en (a1 + 1 + 1)) (by decide) (hr.mono fun k e=>?_)
   obtain⟨e1,e2⟩:=e;refine⟨?_,?_⟩
   ·simp only [go_sem,cS,bL b0,hn,aL b1,mb,reduceIte]
    refine(e1 _).trans ?_;simp only [go_sem,reduceIte,am,aL c2,pP,gD p2,hd]
   ·simp only [go_sem,df,bg,cU b0,hn,ai hs (w:=[40]) rfl b1,mb,reduceIte,show au k k ts en ((a + 1 + 1:Nat):Int) ns 0 0 []=_ from e2,ai hs (w:=[41]) rfl c1,l7,ai hs (w:=[123]) rfl c2,pP,lu p2,hd,fw,Int.natCast_nonneg,and_self]
  obtain⟨r,gi,gr⟩:=Ri (en:=en) (d:=d) hs l1 (by omega) _ (a1 + 1 + 1) mE [] (Nat.le_refl _) ⟨by omega,p2,by omega,g5⟩ iK.nil (by simp)
  have gr:=gr.jI;simp only [List.append_nil] at gr;cases r with
  |er c p=>
   have hc:c≠0:=gi;obtain⟨K,gr⟩:=gr;refine BS.er (c:=c) (p:=p) hc ?_;have cpn:Ev fun k=>∀ l':XI,l'.length≤2000000→eC k k l' l1 0=some (l1 ++ l',()):=
    ⟨2000002,fun k hk l' h=>QC l' l1 k (by omega) (by omega)⟩
   refine((((hr.and ⟨K,gr⟩).and cpn).and (aca (ts:=ts) (en:=en) (p:=p) hc))).mono fun k e=>?_;obtain⟨⟨⟨⟨e1,e2⟩,e3,l',a',ee,e4,J7⟩,e5⟩,_,e6⟩:=e;refine⟨?_,?_⟩
   ·simp only [go_sem,cS,bL b0,hn,aL b1,mb,reduceIte]
    refine(e1 _).trans ?_;simp only [go_sem,reduceIte,am,aL c2,pP,gD p2,hd,show cq k k ts en ((a1 + 1 + 1:Nat):Int) mE l1=_ from e3]
   ·simp only [go_sem,df,bg,cU b0,hn,ai hs (w:=[40]) rfl b1,mb,reduceIte,show au k k ts en ((a + 1 + 1:Nat):Int) ns 0 0 []=_ from e2,ai hs (w:=[41]) rfl c1,l7,ai hs (w:=[123]) rfl c2,pP,lu p2,hd,pq,e4,e5 l' J7,e6,cM hc,b8 hc,cp (show(l1 ++ l').length≤4000000 by simp;omega),fw,Int.natCast_nonneg,and_self]
  |ok l2 a2 pQ=>
   have gi':LOk ts vm (a1 + 1 + 1) mE ([]:XI).length (ju mE []) l2 a2 pQ:=gi;obtain⟨k1,k2,k3,k4,k5,k6,k7,k8⟩:=gi';rw [yy] at k8;simp only [List.length_nil] at k7;obtain⟨r,fi,fx,fr⟩:=L5 (en:=en) hs (d:=d + 1) (by omega) (a0:=0) (fun a' ee h p=>Ye hs p) _ a2 pQ [] (Nat.le_refl _) (by omega) ⟨k2,by omega,by omega,k5⟩ iK.nil (by simp)
   have fI:Ev fun k=>WZ r (d + 1:Nat) (bQ (dc k) (cW k) (gZ k) (gl k) k k ts en (a2:Int) ((d + 1:Nat):Int) pQ []):=(fr.mono fun _ _ e=>e.1).jI;have fS:Ev fun k=>MH [] r (d + 1:Nat) (eD k k ts en (a2:Int) pQ ((d + 1:Nat):Int) 0 0 []):=(fr.mono fun _ _ e=>e.2).jI.mono fun k e=>by rw [T7];exact e
   have hcp:Ev fun k=>eC k k l2 l1 0=some (l1 ++ l2,()):=adF l2 l1 (by omega)
   cases r with
   |er c p=>
    have hc:c≠0:=fi;have fI2:Ev fun k=>dc k ts en (a2:Int) ((d + 1:Nat):Int) pQ (pl ts en (a1 + 1))=some (.inr (c,p,())):=Ev.succ (fI.mono fun k e=>by
     rw [GJ,fE,show bQ _ _ _ _ k k ts en (a2:Int) ((d + 1:Nat):Int) pQ []=_ from e];rfl)
    refine BS.er (c:=c) (p:=p) hc (((((hr.and gr).and fI2).and fS).and hcp).mono fun k e=>?_);obtain⟨⟨⟨⟨⟨e1,e2⟩,e3,e4⟩,e5⟩,l',a',ee,d',e6⟩,e7⟩:=e;refine⟨?_,?_⟩
    ·simp only [go_sem,cS,bL b0,hn,aL b1,mb,reduceIte]
     refine(e1 _).trans ?_;simp only [go_sem,reduceIte,am,aL c2,pP,gD p2,hd,show cq k k ts en ((a1 + 1 + 1:Nat):Int) mE l1=_ from e3,e5]
    ·simp only [go_sem,df,bg,cU b0,hn,ai hs (w:=[40]) rfl b1,mb,reduceIte,show au k k ts en ((a + 1 + 1:Nat):Int) ns 0 0 []=_ from e2,ai hs (w:=[41]) rfl c1,l7,ai hs (w:=[123]) rfl c2,pP,lu p2,hd,pq,show cP k k ts en ((a1 + 1 + 1:Nat):Int) mE 0 0 []=_ from e4,e7,e6,cM hc,b8 hc,cp (show(l1 ++ l2).length≤4000000 by simp;omega),fw,Int.natCast_nonneg,and_self]
   |ok l3 a3 Ke=>
    have acm:=fx _ _ _ rfl;have ad0:=bw acm;have fi':LOk ts MI a2 pQ ([]:XI).length (ju pQ []) l3 a3 Ke:=fi;obtain⟨j1,j2,j3,j4,j5,j6,j7,j8⟩:=fi';rw [yy] at j8;have c3:a3≤4000000000000000000:=by omega
    have m3:Ke.length≤4000000:=by omega
    have ss:jh (Ke ++ [(8,pl ts en (a1 + 1),0,[],l3)]):=j5.add ⟨j6.v,Ya j6,by simp,by simp at j7 ⊢;omega⟩
    have m4:(Ke ++ [(8,pl ts en (a1 + 1),0,[],l3)]:List eg).length≤4000000:=by simp;omega
    have fI2:Ev fun k=>dc k ts en (a2:Int) ((d + 1:Nat):Int) pQ (pl ts en (a1 + 1))=some (.inl ((Ke.length:Int),((a3 + 1:Nat):Int),(d:Int),Ke ++ [(8,pl ts en (a1 + 1),0,[],l3)],())):=Ev.succ (fI.mono fun k e=>by
     rw [GJ,fE,show bQ _ _ _ _ k k ts en (a2:Int) ((d + 1:Nat):Int) pQ []=_ from e]
     simp only [go_sem,gY m3,kf (show d≤_ by omega)])
    have kk:iK vm (Ke ++ [(8,pl ts en (a1 + 1),0,[],l3)]) (l1 ++ l2):=by
     have q1:=g6.up (k4.trans (j4.trans (List.prefix_append Ke [(8,pl ts en (a1 + 1),0,[],l3)])));have q2:=k6.up (j4.trans (List.prefix_append Ke [(8,pl ts en (a1 + 1),0,[],l3)]));refine⟨fun j hj=>?_,fun j hj=>?_⟩
     ·rcases List.mem_append.1 hj with hj | hj
      ·exact q1.v j hj
      ·exact q2.v j hj
     ·rcases List.mem_append.1 hj with hj | hj
      ·exact q1.c j hj
      ·exact q2.c j hj
    have bk:(l1 ++ l2).length≤4000000:=by simp;omega
    refine⟨.ok _ (a3 + 1) d ((Ke ++ [(8,pl ts en (a1 + 1),0,[],l3)]) ++ [(4,(tk ts a).2.1,0,(tk ts a).2.2.1,l1 ++ l2 ++ [(Ke.length:Int)])]),kx (by omega) (by omega) (by simp;omega) (g4.trans (k4.trans (j4.trans (List.prefix_append _ _)))) ss ⟨?_,?_,fun _=>?_,by simp;omega⟩ rfl (by rw [pY,pY,oC,nJ,pp (k4.trans (j4.trans (List.prefix_append _ _))) g6.v,pp (j4.trans (List.prefix_append _ _)) k6.v];simp;omega),((((hr.and gr).and fI2).and fS).and hcp).mono fun k e=>?_⟩
    ·intro j hj
     rcases List.mem_append.1 hj with hj | hj
     ·exact kk.v j hj
     ·rw [List.mem_singleton.1 hj];simp;omega
    ·have:(l1 ++ l2).all (fun j=>vm (kd (Ke ++ [(8,pl ts en (a1 + 1),0,[],l3)]) j))=true:=List.all_eq_true.2 kk.c
     have:((l1 ++ l2).map (kd (Ke ++ [(8,pl ts en (a1 + 1),0,[],l3)]))).all vm=true:=by rw [List.all_map];exact this
     rw [show List.map (kd (Ke ++ [(8,pl ts en (a1 + 1),0,[],l3)])) (l1 ++ l2 ++ [(Ke.length:Int)])=(l1 ++ l2).map (kd (Ke ++ [(8,pl ts en (a1 + 1),0,[],l3)])) ++ [8] by simp [qs]]
     show((_:XI).dropLast.all vm && _)=true;rw [List.dropLast_concat,this];simp
    ·rcases(Om hs bq).k with ⟨_,_,_,h⟩ |⟨h,_⟩ |⟨h,_⟩ |⟨h,_⟩
     ·exact h
     ·rw [Ig hn] at h;cases h
     ·rw [Ig hn] at h;cases h
     ·rw [Ig hn] at h;cases h
    ·obtain⟨⟨⟨⟨e1,e2⟩,e3,e4⟩,e5⟩,e6⟩:=e.1
     have e7:=e.2;refine⟨?_,?_⟩
     ·simp only [go_sem,tx,cS,bL b0,hn,aL b1,mb,reduceIte]
      refine(e1 _).trans ?_;simp only [go_sem,reduceIte,am,aL c2,pP,gD p2,hd,show cq k k ts en ((a1 + 1 + 1:Nat):Int) mE l1=_ from e3,e5,cp bk,gY m4]
     ·simp only [go_sem,Ka,df,bg,cU b0,hn,ai hs (w:=[40]) rfl b1,mb,reduceIte,show au k k ts en ((a + 1 + 1:Nat):Int) ns 0 0 []=_ from e2,ai hs (w:=[41]) rfl c1,l7,ai hs (w:=[123]) rfl c2,pP,lu p2,hd,pq,show cP k k ts en ((a1 + 1 + 1:Nat):Int) mE 0 0 []=_ from e4,e7,show eD k k ts en (a2:Int) pQ ((d + 1:Nat):Int) 0 0 []=_ from e6,ai hs (w:=[125]) rfl c3,acm,dN m3,List.nil_append,cp bk,dN m4,sk bq,kf (show d≤_ by omega)]
end
end Go.Fx.R5
namespace Go.Fx.R5
open Go Go.Fx
section
variable {ts:List yn} {en:Int} {a d:Nat} {ns:List eg}
def JJ(r:Mq)(d:Int)(o:Option ((Int×Int×List eg×XI×Unit)⊕(Int×Int×Unit))):Prop:=match r with
 |.ok l a ns=>o=some (.inl ((a:Int),d,ns,l,()))
 |.er c p=>o=some (.inr (c,p,()))
theorem Wd{k:Int}(hk:D5 k=true)(hs0:bZ k []=true)(h4:k≠4){l:XI}{y:eg}(hy:y.1=k)(If:y.2.2.2.2 = [])(h:iK D5 ns l)(hp:jh ns):
  jh (ns ++ [y])∧iK D5 (ns ++ [y]) (l ++ [(ns.length:Int)]):=by
 obtain⟨k',a',n',s',l'⟩:=y;simp only at hy If;subst hy;subst If;exact⟨hp.add (rM hs0 h4),(h.up (List.prefix_append _ _)).add (by omega) (by simp;omega) (by rw [qs];exact hk)⟩
theorem ab8{c p:Int}(hc:c≠0):Ev fun k=>∀(a:Nat) (ns:List eg) (d:Int),fw c p (df k ts (a:Int) en ns d c p):=
 (KV (ts:=ts) (en:=en) (p:=p) hc).mono fun k e a ns d=>by simp only [go_sem,df,bg,dR hc,cM hc,e,eG hc,fw,Int.natCast_nonneg,and_self]
theorem PG(hs:oM ts):∀ m a (ns:List eg) (l:XI),ts.length - a≤m→wI ts a 0 ns→iK D5 ns l→l.length≤a→
  ∃ r,Mp ts D5 a ns l.length (ju ns l) r∧cm fun q k=>JJ r 0 (aK q k ts en (a:Int) 0 ns l)∧MH [] r 0 (az q k ts en (a:Int) ns 0 0 0 l):=by
 have h7:=hs.len;have hc:(6:Int)≠0:=by decide
 intro m;induction m with
 |zero=>
  intro a ns l hm hp hk P7;have bq:¬ a < ts.length:=by omega
  exact⟨.ok l a ns,⟨by omega,hp.hi,by omega,List.prefix_refl _,hp.all,hk,by omega,by omega⟩,cm.succ (cm.of fun q k=>⟨by simp only [go_sem,JJ,aK,Int.ofNat_lt,bq],
   by simp only [go_sem,MH,List.nil_append,az,aa,Int.ofNat_lt,bq]⟩)⟩
 |succ m ih=>
  intro a ns l hm hp hk P7;obtain⟨p1,p2,p3,p4⟩:=hp;by_cases bq:a < ts.length
  rotate_left
  ·exact⟨.ok l a ns,⟨by omega,p1,by omega,List.prefix_refl _,p4,hk,by omega,by omega⟩,cm.succ (cm.of fun q k=>⟨by simp only [go_sem,JJ,aK,Int.ofNat_lt,bq],
    by simp only [go_sem,MH,List.nil_append,az,aa,Int.ofNat_lt,bq]⟩)⟩
  have b0:a≤4000000000000000000:=by omega
  have b1:a + 1≤4000000000000000000:=by omega
  have b2:a + 1 + 1≤4000000000000000000:=by omega
  have b3:a + 1 + 1 + 1≤4000000000000000000:=by omega
  have b4:a + 1 + 1 + 1 + 1≤4000000000000000000:=by omega
  have b5:a + 1 + 1 + 1 + 1 + 1≤4000000000000000000:=by omega
  have bn:ns.length≤4000000:=by omega
  have bk:l.length≤4000000:=by omega
  cases hA:aM ts a [97,114,114,97,121] with
  |true=>
   cases h1:sY ts (a + 1) 1 with
   |false=>
    refine⟨.er 6 (pl ts en (a + 1)),hc,cm.succ (cm.succ (cm.of fun q k=>⟨?_,l ++ [0],a + 1,ns,0,?_⟩))⟩
    ·simp only [go_sem,JJ,aK,Int.ofNat_lt,bq,aI b0,reduceIte,bL b1,bL b3,aL b2,aL b4,aL b5,fN b1 bn,gY bn,cp bk,oQ,hA,h1]
    ·rw [az]
     simp only [go_sem,aa,Int.ofNat_lt,bq,ab hs (w:=[97,114,114,97,121]) rfl b0,ab hs (w:=[118,97,114]) rfl b0,ai hs (w:=[102,117,110,99]) rfl b0,bg,cU b1,ai hs (w:=[91]) rfl b2,ou b3,ai hs (w:=[93]) rfl b4,ai hs (w:=[59]) rfl b5,ai hs (w:=[59]) rfl b2,reduceIte,dN bn,cp bk,cM hc,wW hc,b8 hc,dE hc,dR hc,hA,h1];rw [az];simp only [go_sem,aa,show((6:Int) == 0)=false from rfl]
   |true=>
   cases h2:aM ts (a + 1 + 1) [91] with
   |false=>
    refine⟨.er 6 (pl ts en (a + 1 + 1)),hc,cm.succ (cm.succ (cm.of fun q k=>⟨?_,l ++ [0],a + 1 + 1,ns,0,?_⟩))⟩
    ·simp only [go_sem,JJ,aK,Int.ofNat_lt,bq,aI b0,reduceIte,bL b1,bL b3,aL b2,aL b4,aL b5,fN b1 bn,gY bn,cp bk,oQ,hA,h1,h2]
    ·rw [az]
     simp only [go_sem,aa,Int.ofNat_lt,bq,ab hs (w:=[97,114,114,97,121]) rfl b0,ab hs (w:=[118,97,114]) rfl b0,ai hs (w:=[102,117,110,99]) rfl b0,bg,cU b1,ai hs (w:=[91]) rfl b2,ou b3,ai hs (w:=[93]) rfl b4,ai hs (w:=[59]) rfl b5,ai hs (w:=[59]) rfl b2,reduceIte,dN bn,cp bk,cM hc,wW hc,b8 hc,dE hc,dR hc,hA,h1,h2];rw [az];simp only [go_sem,aa,show((6:Int) == 0)=false from rfl]
   |true=>
   cases h3:sY ts (a + 1 + 1 + 1) 2 with
   |false=>
    refine⟨.er 6 (pl ts en (a + 1 + 1 + 1)),hc,cm.succ (cm.succ (cm.of fun q k=>⟨?_,l ++ [0],a + 1 + 1 + 1,ns,0,?_⟩))⟩
    ·simp only [go_sem,JJ,aK,Int.ofNat_lt,bq,aI b0,reduceIte,bL b1,bL b3,aL b2,aL b4,aL b5,fN b1 bn,gY bn,cp bk,oQ,hA,h1,h2,h3]
    ·rw [az]
     simp only [go_sem,aa,Int.ofNat_lt,bq,ab hs (w:=[97,114,114,97,121]) rfl b0,ab hs (w:=[118,97,114]) rfl b0,ai hs (w:=[102,117,110,99]) rfl b0,bg,cU b1,ai hs (w:=[91]) rfl b2,ou b3,ai hs (w:=[93]) rfl b4,ai hs (w:=[59]) rfl b5,ai hs (w:=[59]) rfl b2,reduceIte,dN bn,cp bk,cM hc,wW hc,b8 hc,dE hc,dR hc,hA,h1,h2,h3];rw [az];simp only [go_sem,aa,show((6:Int) == 0)=false from rfl]
   |true=>
   cases h4:aM ts (a + 1 + 1 + 1 + 1) [93] with
   |false=>
    refine⟨.er 6 (pl ts en (a + 1 + 1 + 1 + 1)),hc,cm.succ (cm.succ (cm.of fun q k=>⟨?_,l ++ [0],a + 1 + 1 + 1 + 1,ns,0,?_⟩))⟩
    ·simp only [go_sem,JJ,aK,Int.ofNat_lt,bq,aI b0,reduceIte,bL b1,bL b3,aL b2,aL b4,aL b5,fN b1 bn,gY bn,cp bk,oQ,hA,h1,h2,h3,h4]
    ·rw [az]
     simp only [go_sem,aa,Int.ofNat_lt,bq,ab hs (w:=[97,114,114,97,121]) rfl b0,ab hs (w:=[118,97,114]) rfl b0,ai hs (w:=[102,117,110,99]) rfl b0,bg,cU b1,ai hs (w:=[91]) rfl b2,ou b3,ai hs (w:=[93]) rfl b4,ai hs (w:=[59]) rfl b5,ai hs (w:=[59]) rfl b2,reduceIte,dN bn,cp bk,cM hc,wW hc,b8 hc,dE hc,dR hc,hA,h1,h2,h3,h4];rw [az];simp only [go_sem,aa,show((6:Int) == 0)=false from rfl]
   |true=>
   cases h5:aM ts (a + 1 + 1 + 1 + 1 + 1) [59] with
   |false=>
    refine⟨.er 6 (pl ts en (a + 1 + 1 + 1 + 1 + 1)),hc,cm.succ (cm.succ (cm.of fun q k=>⟨?_,l ++ [0],a + 1 + 1 + 1 + 1 + 1,ns,0,?_⟩))⟩
    ·simp only [go_sem,JJ,aK,Int.ofNat_lt,bq,aI b0,reduceIte,bL b1,bL b3,aL b2,aL b4,aL b5,fN b1 bn,gY bn,cp bk,oQ,hA,h1,h2,h3,h4,h5]
    ·rw [az]
     simp only [go_sem,aa,Int.ofNat_lt,bq,ab hs (w:=[97,114,114,97,121]) rfl b0,ab hs (w:=[118,97,114]) rfl b0,ai hs (w:=[102,117,110,99]) rfl b0,bg,cU b1,ai hs (w:=[91]) rfl b2,ou b3,ai hs (w:=[93]) rfl b4,ai hs (w:=[59]) rfl b5,ai hs (w:=[59]) rfl b2,reduceIte,dN bn,cp bk,cM hc,wW hc,b8 hc,dE hc,dR hc,hA,h1,h2,h3,h4,h5];rw [az];simp only [go_sem,aa,show((6:Int) == 0)=false from rfl]
   |true=>
   have l1:=jz h1;have l5:=bw h5;obtain⟨x1,x2⟩:=Wd (k:=2) (y:=(2,(tk ts (a + 1)).2.1,(tk ts (a + 1 + 1 + 1)).2.2.2,(tk ts (a + 1)).2.2.1,[])) rfl rfl (by decide) rfl rfl hk p4
   obtain⟨r,gi,gr⟩:=ih (a + 1 + 1 + 1 + 1 + 1 + 1) (ns ++ [(2,(tk ts (a + 1)).2.1,(tk ts (a + 1 + 1 + 1)).2.2.2,(tk ts (a + 1)).2.2.1,[])]) (l ++ [(ns.length:Int)]) (by omega) ⟨by omega,p2,by simp;omega,x1⟩ x2 (by simp;omega)
   refine⟨r,gi.from (by omega) (by simp;omega) (List.prefix_append _ _) (by simp;omega) (by rw [pY,oC,nJ,yy,pp (List.prefix_append _ _) hk.v];simp;omega),cm.succ (gr.mono fun q k e=>⟨?_,?_⟩)⟩
   ·simp only [go_sem,aK,Int.ofNat_lt,bq,aI b0,reduceIte,bL b1,bL b3,aL b2,aL b4,aL b5,fN b1 bn,gY bn,cp bk,oQ,hA,h1,h2,h3,h4,h5]
    exact e.1
   ·rw [az]
    simp only [go_sem,aa,Int.ofNat_lt,bq,ab hs (w:=[97,114,114,97,121]) rfl b0,ab hs (w:=[118,97,114]) rfl b0,ai hs (w:=[102,117,110,99]) rfl b0,bg,cU b1,ai hs (w:=[91]) rfl b2,ou b3,ai hs (w:=[93]) rfl b4,ai hs (w:=[59]) rfl b5,ai hs (w:=[59]) rfl b2,reduceIte,dN bn,cp bk,hA,h1,h2,h3,h4,h5,sk l1];exact e.2
  |false=>
  cases hV:aM ts a [118,97,114] with
  |true=>
   cases h1:sY ts (a + 1) 1 with
   |false=>
    refine⟨.er 6 (pl ts en (a + 1)),hc,cm.succ (cm.succ (cm.of fun q k=>⟨?_,l ++ [0],a + 1,ns,0,?_⟩))⟩
    ·simp only [go_sem,JJ,aK,Int.ofNat_lt,bq,aI b0,reduceIte,bL b1,bL b3,aL b2,aL b4,aL b5,fN b1 bn,gY bn,cp bk,oQ,hA,hV,h1]
    ·rw [az]
     simp only [go_sem,aa,Int.ofNat_lt,bq,ab hs (w:=[97,114,114,97,121]) rfl b0,ab hs (w:=[118,97,114]) rfl b0,ai hs (w:=[102,117,110,99]) rfl b0,bg,cU b1,ai hs (w:=[91]) rfl b2,ou b3,ai hs (w:=[93]) rfl b4,ai hs (w:=[59]) rfl b5,ai hs (w:=[59]) rfl b2,reduceIte,dN bn,cp bk,cM hc,wW hc,b8 hc,dE hc,dR hc,hA,hV,h1];rw [az];simp only [go_sem,aa,show((6:Int) == 0)=false from rfl]
   |true=>
   cases h2:aM ts (a + 1 + 1) [59] with
   |false=>
    refine⟨.er 6 (pl ts en (a + 1 + 1)),hc,cm.succ (cm.succ (cm.of fun q k=>⟨?_,l ++ [0],a + 1 + 1,ns,0,?_⟩))⟩
    ·simp only [go_sem,JJ,aK,Int.ofNat_lt,bq,aI b0,reduceIte,bL b1,bL b3,aL b2,aL b4,aL b5,fN b1 bn,gY bn,cp bk,oQ,hA,hV,h1,h2]
    ·rw [az]
     simp only [go_sem,aa,Int.ofNat_lt,bq,ab hs (w:=[97,114,114,97,121]) rfl b0,ab hs (w:=[118,97,114]) rfl b0,ai hs (w:=[102,117,110,99]) rfl b0,bg,cU b1,ai hs (w:=[91]) rfl b2,ou b3,ai hs (w:=[93]) rfl b4,ai hs (w:=[59]) rfl b5,ai hs (w:=[59]) rfl b2,reduceIte,dN bn,cp bk,cM hc,wW hc,b8 hc,dE hc,dR hc,hA,hV,h1,h2];rw [az];simp only [go_sem,aa,show((6:Int) == 0)=false from rfl]
   |true=>
   have l1:=jz h1;have l5:=bw h2;obtain⟨x1,x2⟩:=Wd (k:=3) (y:=(3,(tk ts (a + 1)).2.1,0,(tk ts (a + 1)).2.2.1,[])) rfl rfl (by decide) rfl rfl hk p4
   obtain⟨r,gi,gr⟩:=ih (a + 1 + 1 + 1) (ns ++ [(3,(tk ts (a + 1)).2.1,0,(tk ts (a + 1)).2.2.1,[])]) (l ++ [(ns.length:Int)]) (by omega) ⟨by omega,p2,by simp;omega,x1⟩ x2 (by simp;omega)
   refine⟨r,gi.from (by omega) (by simp;omega) (List.prefix_append _ _) (by simp;omega) (by rw [pY,oC,nJ,yy,pp (List.prefix_append _ _) hk.v];simp;omega),cm.succ (gr.mono fun q k e=>⟨?_,?_⟩)⟩
   ·simp only [go_sem,aK,Int.ofNat_lt,bq,aI b0,reduceIte,bL b1,bL b3,aL b2,aL b4,aL b5,fN b1 bn,gY bn,cp bk,oQ,hA,hV,h1,h2]
    exact e.1
   ·rw [az]
    simp only [go_sem,aa,Int.ofNat_lt,bq,ab hs (w:=[97,114,114,97,121]) rfl b0,ab hs (w:=[118,97,114]) rfl b0,ai hs (w:=[102,117,110,99]) rfl b0,bg,cU b1,ai hs (w:=[91]) rfl b2,ou b3,ai hs (w:=[93]) rfl b4,ai hs (w:=[59]) rfl b5,ai hs (w:=[59]) rfl b2,reduceIte,dN bn,cp bk,hA,hV,h1,h2,sk l1];exact e.2
  |false=>
  cases hF:aM ts a [102,117,110,99] with
  |false=>
   refine⟨.er 6 (pl ts en a),hc,cm.succ (cm.succ ((ab8 (ts:=ts) (en:=en) (p:=pl ts en a) hc).tw.mono fun q k e=>?_))⟩;obtain⟨v,a',ee,d',e⟩:=fw.vE (e a ns 0);refine⟨?_,l ++ [v],a',ee,d',?_⟩
   ·simp only [go_sem,JJ,aK,Int.ofNat_lt,bq,aI b0,reduceIte,bL b1,bL b3,aL b2,aL b4,aL b5,fN b1 bn,gY bn,cp bk,oQ,hA,hV,hF]
   ·rw [az]
    simp only [go_sem,aa,Int.ofNat_lt,bq,ab hs (w:=[97,114,114,97,121]) rfl b0,ab hs (w:=[118,97,114]) rfl b0,ai hs (w:=[102,117,110,99]) rfl b0,bg,cU b1,ai hs (w:=[91]) rfl b2,ou b3,ai hs (w:=[93]) rfl b4,ai hs (w:=[59]) rfl b5,ai hs (w:=[59]) rfl b2,reduceIte,dN bn,cp bk,hA,hV,hF,e];rw [az];simp only [go_sem,aa,show((6:Int) == 0)=false from rfl]
  |true=>
  obtain⟨r,hi,hr⟩:=adC (en:=en) hs (a:=a + 1) (d:=0) (ns:=ns) ⟨by omega,p2,by omega,p4⟩
  cases r with
  |er c p=>
   have hc':c≠0:=hi;refine⟨.er c p,hi,cm.succ (cm.succ (hr.tw.mono fun q k e=>?_))⟩;obtain⟨e1,v,a',ee,d',e2⟩:=e;refine⟨?_,l ++ [v],a',ee,d',?_⟩
   ·simp only [go_sem,JJ,aK,Int.ofNat_lt,bq,aI b0,reduceIte,bL b1,bL b3,aL b2,aL b4,aL b5,fN b1 bn,gY bn,cp bk,oQ,hA,hV,hF,show cS q ts en ((a + 1:Nat):Int) 0 ns=_ from e1]
   ·rw [az]
    simp only [go_sem,aa,Int.ofNat_lt,bq,ab hs (w:=[97,114,114,97,121]) rfl b0,ab hs (w:=[118,97,114]) rfl b0,ai hs (w:=[102,117,110,99]) rfl b0,bg,cU b1,ai hs (w:=[91]) rfl b2,ou b3,ai hs (w:=[93]) rfl b4,ai hs (w:=[59]) rfl b5,ai hs (w:=[59]) rfl b2,reduceIte,dN bn,cp bk,hA,hV,hF,show df q ts ((a + 1:Nat):Int) en ns 0 0 0=_ from e2]
    rw [az];simp only [go_sem,aa,beq_eq_false_iff_ne.2 hc']
  |ok v a1 d1 mE=>
   obtain⟨q1,q2,rfl,q3,q4,q5,q6,q7,q8,q9⟩:=hi;obtain⟨r,gi,gr⟩:=ih a1 mE (l ++ [v]) (by omega) ⟨q2,p2,by omega,q5⟩ ((hk.up q4).add q6 q7 (by rw [beq_iff_eq.1 q8];rfl)) (by simp;omega)
   refine⟨r,gi.from (by omega) (by omega) q4 (by simp;omega) (by rw [pY,oC,pp q4 hk.v];omega),cm.succ ((hr.tw.and gr).mono fun q k e=>?_)⟩
   obtain⟨⟨e1,e2⟩,e3,e4⟩:=e;refine⟨?_,?_⟩
   ·simp only [go_sem,aK,Int.ofNat_lt,bq,aI b0,reduceIte,bL b1,bL b3,aL b2,aL b4,aL b5,fN b1 bn,gY bn,cp bk,oQ,hA,hV,hF,show cS q ts en ((a + 1:Nat):Int) 0 ns=_ from e1]
    exact e3
   ·rw [az]
    simp only [go_sem,aa,Int.ofNat_lt,bq,ab hs (w:=[97,114,114,97,121]) rfl b0,ab hs (w:=[118,97,114]) rfl b0,ai hs (w:=[102,117,110,99]) rfl b0,bg,cU b1,ai hs (w:=[91]) rfl b2,ou b3,ai hs (w:=[93]) rfl b4,ai hs (w:=[59]) rfl b5,ai hs (w:=[59]) rfl b2,reduceIte,dN bn,cp bk,hA,hV,hF,show df q ts ((a + 1:Nat):Int) en ns 0 0 0=_ from e2]
    exact e4
structure VZ(ns:List eg):Prop where
 all:jh ns
 len:ns.length≤1401
 aeN:∃(ns0:List eg) (l:XI),ns=ns0 ++ [(1,0,0,[],l)]∧iK D5 ns0 l∧ju ns0 l≤ns0.length
theorem S5(t:ao):(∃ ns,VZ ns∧Ev fun k=>ik k t=some (ns,(0,0),())∧oX k t=some (ns,(0,0),()))∨
  ∃(c p:Int),c≠0∧Ev fun k=>ik k t=some ([],(c,p),())∧oX k t=some ([],(c,p),()):=by
 rcases W9 t with ⟨ts,hl,h7,hok,he⟩ |⟨c,p,hc,he⟩
 ·have hs:oM ts:=⟨h7,hok⟩
  obtain⟨r,hi,hr⟩:=PG (en:=(t.length:Int)) hs _ 0 [] [] (Nat.le_refl _) ⟨by omega,by omega,by simp,jh.nil⟩ iK.nil (by simp)
  have hr:=hr.jI;cases r with
  |er c p=>
   have hc:c≠0:=hi;refine .inr ⟨c,p,hc,(he.and hr).mono fun k e=>?_⟩;obtain⟨⟨e1,e2⟩,e3,l',a',ee,d',e4⟩:=e;have e3:aK k k ts (t.length:Int) 0 0 [] []=_:=e3;have e4:az k k ts (t.length:Int) 0 [] 0 0 0 []=_:=e4;refine⟨?_,?_⟩
   ·simp only [go_sem,ik,qD,e1,e4,b8 hc,bne_iff_ne.2 hc]
   ·simp only [go_sem,oX,n8,e2,e3]
  |ok l a ns=>
   have hi':LOk ts D5 0 [] 0 (ju [] []) l a ns:=hi;obtain⟨g1,g2,g3,g4,g5,g6,g7,g8⟩:=hi';rw [yy] at g8;simp only [List.length_nil] at g3 g8;have m:ns.length≤4000000:=by omega
   refine .inl ⟨ns ++ [(1,0,0,[],l)],⟨g5.add ⟨g6.v,?_,by simp,by simp at g7 ⊢;omega⟩,by simp;omega,ns,l,rfl,g6,by omega⟩,(he.and hr).mono fun k e=>?_⟩
   ·have:(l.map (kd ns)).all D5=true:=by rw [List.all_map];exact List.all_eq_true.2 g6.c
    simpa [bZ] using this
   ·obtain⟨⟨e1,e2⟩,e3,e4⟩:=e
    have e3:aK k k ts (t.length:Int) 0 0 [] []=_:=e3;have e4:az k k ts (t.length:Int) 0 [] 0 0 0 []=_:=e4;refine⟨?_,?_⟩
    ·simp only [go_sem,ik,qD,e1,e4,dN m,List.nil_append]
    ·simp only [go_sem,oX,n8,e2,e3,gY m]
 ·refine .inr ⟨c,p,hc,he.mono fun k e=>?_⟩
  simp only [go_sem,ik,oX,e.1,e.2,bne_iff_ne.2 hc,and_self]
end
end Go.Fx.R5
namespace Go.Fx.R5
open Go Go.Fx
abbrev AS:=XA
abbrev FS:=XF
abbrev xX:=AS×XS×FS
def nj{α:Type}(p:α→Bool):List α→Int→Int
 |[],_=>-1
 |x :: r,i=>bif p x then i else nj p r (i + 1)
section
variable {α:Type} {p:α→Bool}
theorem qy:∀(l:List α) (i:Int),0≤i→(nj p l i = -1∧∀ x∈l,p x=false)∨(∃ n x,nj p l i=i + (n:Nat)∧l[n]? = some x∧p x=true)
 |[],i,h=>.inl ⟨rfl,by simp⟩
 |x :: r,i,h=>by
  cases hp:p x with
  |true=>exact .inr ⟨0,x,by simp [nj,hp],rfl,hp⟩
  |false=>
   rcases qy r (i + 1) (by omega) with ⟨e,f⟩ |⟨n,y,e,f,g⟩
   ·exact .inl ⟨by simp [nj,hp,e],by simpa [hp] using f⟩
   ·exact .inr ⟨n + 1,y,by simp [nj,hp,e];omega,by simpa using f,g⟩
theorem G8{l:List α}(h:0≤nj p l 0):∃(n:Nat) (x:α),nj p l 0=(n:Int)∧l[n]? = some x∧p x=true:=by
 rcases qy (p:=p) l 0 (by omega) with ⟨e,_⟩ |⟨n,x,e,f,g⟩
 ·omega
 ·exact⟨n,x,by omega,f,g⟩
theorem Up{l:List α}(h:¬ 0≤nj p l 0):nj p l 0 = -1∧∀ x∈l,p x=false:=by
 rcases qy (p:=p) l 0 (by omega) with e |⟨n,x,e,f,g⟩
 ·exact e
 ·omega
theorem AU{l:List α}:0≤nj p l 0↔∃ x∈l,p x=true:=by
 constructor
 ·intro h
  obtain⟨n,x,_,f,g⟩:=G8 h;exact⟨x,List.mem_of_getElem? f,g⟩
 ·rintro⟨x,hx,g⟩
  apply Decidable.byContradiction;intro h;rw [(Up h).2 x hx] at g;cases g
theorem XM{l:List α}(h:0≤nj p l 0):nj p l 0 < l.length:=by obtain⟨n,x,e,f,_⟩:=G8 h;have:=(List.getElem?_eq_some_iff.1 f).1;omega
end
def PE(n:Int):Unit⊕(Int×Unit):=bif decide (0≤n) then .inr (n,()) else .inl ()
def plY(k n:Int):Unit⊕(Int×Int×Unit):=bif decide (0≤n) then .inr (k,n,()) else .inl ()
theorem xH{α:Type}{p:α→Bool}{l:List α}{i:Nat}(h:i < l.length):nj p (l.drop i) (i:Int)=bif p l[i] then(i:Int) else nj p (l.drop (i + 1)) ((i + 1:Nat):Int):=by rw [List.drop_eq_getElem_cons h];rfl
theorem Ua(l:XF)(s:ao)(hl:l.length≤1000000):∀ m i,m + i=l.length→cm fun q k=>mJ q k l s (i:Int)=some (PE (nj (fun x=>x.1 == s) (l.drop i) (i:Int)))
 |0,i,h=>by
  have h2:¬ i < l.length:=by omega
  have e:l.drop i = []:=by simp;omega
  rw [e];exact cm.succ (cm.of fun q k=>by simp only [go_sem,mJ,Int.ofNat_lt,h2];rfl)
 |m + 1,i,h=>by
  have bq:i < l.length:=by omega
  refine cm.succ ((Ua l s hl m (i + 1) (by omega)).mono fun q k e=>?_)
  simp only [go_sem,mJ,Int.ofNat_lt,bq,cV bq,ag (show i < _ by omega),e,xH (p:=fun x:(ao×Int×XS×XS×Int)=>x.1 == s) bq]
  cases (l[i].1 == s) with
  |true=>simp [PE,plY]
  |false=>simp
theorem Uc(l:XS)(s:ao)(hl:l.length≤1000000):∀ m i,m + i=l.length→cm fun q k=>lG q k l s (i:Int)=some (PE (nj (fun x=>x == s) (l.drop i) (i:Int)))
 |0,i,h=>by
  have h2:¬ i < l.length:=by omega
  have e:l.drop i = []:=by simp;omega
  rw [e];exact cm.succ (cm.of fun q k=>by simp only [go_sem,lG,Int.ofNat_lt,h2];rfl)
 |m + 1,i,h=>by
  have bq:i < l.length:=by omega
  refine cm.succ ((Uc l s hl m (i + 1) (by omega)).mono fun q k e=>?_)
  simp only [go_sem,lG,Int.ofNat_lt,bq,cV bq,ag (show i < _ by omega),e,xH (p:=fun x:ao=>x == s) bq]
  cases (l[i] == s) with
  |true=>simp [PE,plY]
  |false=>simp
theorem Xe(l:XA)(s:ao)(hl:l.length≤1000000):∀ m i,m + i=l.length→cm fun q k=>lE q k l s (i:Int)=some (PE (nj (fun x=>x.1 == s) (l.drop i) (i:Int)))
 |0,i,h=>by
  have h2:¬ i < l.length:=by omega
  have e:l.drop i = []:=by simp;omega
  rw [e];exact cm.succ (cm.of fun q k=>by simp only [go_sem,lE,Int.ofNat_lt,h2];rfl)
 |m + 1,i,h=>by
  have bq:i < l.length:=by omega
  refine cm.succ ((Xe l s hl m (i + 1) (by omega)).mono fun q k e=>?_)
  simp only [go_sem,lE,Int.ofNat_lt,bq,cV bq,ag (show i < _ by omega),e,xH (p:=fun x:(ao×Int)=>x.1 == s) bq]
  cases (l[i].1 == s) with
  |true=>simp [PE,plY]
  |false=>simp
theorem Ub(l:XF)(s:ao)(hl:l.length≤1000000):∀ m i,m + i=l.length→cm fun q k=>kp q k l (l.length:Int) (i:Int)=some (PE (nj (fun x=>x.1 == ([109,97,105,110]:ao)) (l.drop i) (i:Int)))
 |0,i,h=>by
  have h2:¬ i < l.length:=by omega
  have e:l.drop i = []:=by simp;omega
  rw [e];exact cm.succ (cm.of fun q k=>by simp only [go_sem,kp,Int.ofNat_lt,h2];rfl)
 |m + 1,i,h=>by
  have bq:i < l.length:=by omega
  refine cm.succ ((Ub l s hl m (i + 1) (by omega)).mono fun q k e=>?_)
  simp only [go_sem,kp,Int.ofNat_lt,bq,cV bq,ag (show i < _ by omega),e,xH (p:=fun x:(ao×Int×XS×XS×Int)=>x.1 == ([109,97,105,110]:ao)) bq]
  cases (l[i].1 == ([109,97,105,110]:ao)) with
  |true=>simp [PE,plY]
  |false=>simp
theorem Xf(l:XS)(s:ao)(hl:l.length≤1000000):∀ m i,m + i=l.length→cm fun q k=>jM q k s l (l.length:Int) (i:Int)=some (PE (nj (fun x=>x == s) (l.drop i) (i:Int)))
 |0,i,h=>by
  have h2:¬ i < l.length:=by omega
  have e:l.drop i = []:=by simp;omega
  rw [e];exact cm.succ (cm.of fun q k=>by simp only [go_sem,jM,Int.ofNat_lt,h2];rfl)
 |m + 1,i,h=>by
  have bq:i < l.length:=by omega
  refine cm.succ ((Xf l s hl m (i + 1) (by omega)).mono fun q k e=>?_)
  simp only [go_sem,jM,Int.ofNat_lt,bq,cV bq,ag (show i < _ by omega),e,xH (p:=fun x:ao=>x == s) bq]
  cases (l[i] == s) with
  |true=>simp [PE,plY]
  |false=>simp
theorem aae(l:XA)(s:ao)(hl:l.length≤1000000):∀ m i,m + i=l.length→cm fun q k=>jp q k s l (l.length:Int) (i:Int)=some (plY 1 (nj (fun x=>x.1 == s) (l.drop i) (i:Int)))
 |0,i,h=>by
  have h2:¬ i < l.length:=by omega
  have e:l.drop i = []:=by simp;omega
  rw [e];exact cm.succ (cm.of fun q k=>by simp only [go_sem,jp,Int.ofNat_lt,h2];rfl)
 |m + 1,i,h=>by
  have bq:i < l.length:=by omega
  refine cm.succ ((aae l s hl m (i + 1) (by omega)).mono fun q k e=>?_)
  simp only [go_sem,jp,Int.ofNat_lt,bq,cV bq,ag (show i < _ by omega),e,xH (p:=fun x:(ao×Int)=>x.1 == s) bq]
  cases (l[i].1 == s) with
  |true=>simp [PE,plY]
  |false=>simp
theorem aaf(l:XF)(s:ao)(hl:l.length≤1000000):∀ m i,m + i=l.length→cm fun q k=>jq q k s l (l.length:Int) (i:Int)=some (plY 5 (nj (fun x=>x.1 == s) (l.drop i) (i:Int)))
 |0,i,h=>by
  have h2:¬ i < l.length:=by omega
  have e:l.drop i = []:=by simp;omega
  rw [e];exact cm.succ (cm.of fun q k=>by simp only [go_sem,jq,Int.ofNat_lt,h2];rfl)
 |m + 1,i,h=>by
  have bq:i < l.length:=by omega
  refine cm.succ ((aaf l s hl m (i + 1) (by omega)).mono fun q k e=>?_)
  simp only [go_sem,jq,Int.ofNat_lt,bq,cV bq,ag (show i < _ by omega),e,xH (p:=fun x:(ao×Int×XS×XS×Int)=>x.1 == s) bq]
  cases (l[i].1 == s) with
  |true=>simp [PE,plY]
  |false=>simp
theorem adA{n:Int}{α:Type}{f:Int→Option α}{g:Option α}(h:-1≤n):(match PE n with | .inl _=>g | .inr o2=>f o2.1)=bif decide (0≤n) then f n else g:=by unfold PE;cases decide (0≤n)<;>rfl
theorem ael{α:Type}{p:α→Bool}(l:List α):-1≤nj p l 0:=by rcases qy (p:=p) l 0 (by omega) with e |⟨n,x,e,_⟩<;>omega
theorem Hg(l:XS)(s:ao)(hl:l.length≤1000000):Ev fun k=>hG k l s=some (nj (fun x=>x == s) l 0,()):=
 (Uc l s hl l.length 0 rfl).jI.mono fun k e=>by
  simp only [go_sem,hG,show lG k k l s 0=_ from e,List.drop_zero,PE]
  rcases qy (p:=fun x=>x == s) l 0 (by omega) with ⟨e,_⟩ |⟨n,x,e,_⟩<;>(simp only [Int.natCast_zero,e];simp)
theorem PK(t:xX)(s:ao)(hl:t.2.2.length≤1000000):Ev fun k=>jZ k t s=some (nj (fun x=>x.1 == s) t.2.2 0,()):=
 (Ua t.2.2 s hl t.2.2.length 0 rfl).jI.mono fun k e=>by
  simp only [go_sem,jZ,show mJ k k t.2.2 s 0=_ from e,List.drop_zero,PE]
  rcases qy (p:=fun x:ao×Int×XS×XS×Int=>x.1 == s) t.2.2 0 (by omega) with ⟨e,_⟩ |⟨n,x,e,_⟩<;>(simp only [Int.natCast_zero,e];simp)
theorem Zq(t:xX)(s:ao)(hl:t.1.length≤1000000):Ev fun k=>nH k t s=some (nj (fun x=>x.1 == s) t.1 0,()):=
 (Xe t.1 s hl t.1.length 0 rfl).jI.mono fun k e=>by
  simp only [go_sem,nH,show lE k k t.1 s 0=_ from e,List.drop_zero,PE]
  rcases qy (p:=fun x:ao×Int=>x.1 == s) t.1 0 (by omega) with ⟨e,_⟩ |⟨n,x,e,_⟩<;>(simp only [Int.natCast_zero,e];simp)
theorem abc(t:xX)(hl:t.2.2.length≤1000000):Ev fun k=>ut k t=some (nj (fun x=>x.1 == ([109,97,105,110]:ao)) t.2.2 0,()):=
 (Ub t.2.2 [] hl t.2.2.length 0 rfl).jI.mono fun k e=>by
  simp only [go_sem,ut,show kp k k t.2.2 (t.2.2.length:Int) 0=_ from e,List.drop_zero,PE]
  rcases qy (p:=fun x:ao×Int×XS×XS×Int=>x.1 == ([109,97,105,110]:ao)) t.2.2 0 (by omega) with ⟨e,_⟩ |⟨n,x,e,_⟩<;>(simp only [Int.natCast_zero,e];simp)
theorem WX(l:XS)(s:ao)(hl:l.length≤1000000):Ev fun k=>mB k l s=some (nj (fun x=>x == s) l 0,()):=
 (Xf l s hl l.length 0 rfl).jI.mono fun k e=>by
  simp only [go_sem,mB,show jM k k s l (l.length:Int) 0=_ from e,List.drop_zero,PE]
  rcases qy (p:=fun x=>x == s) l 0 (by omega) with ⟨e,_⟩ |⟨n,x,e,_⟩<;>(simp only [Int.natCast_zero,e];simp)
def ML(t:xX)(s:ao):Int×Int:=
 bif decide (0≤nj (fun x=>x.1 == s) t.1 0) then(1,nj (fun x=>x.1 == s) t.1 0) else
 bif decide (0≤nj (fun x=>x == s) t.2.1 0) then(2,nj (fun x=>x == s) t.2.1 0) else
 bif decide (0≤nj (fun x=>x.1 == s) t.2.2 0) then(5,nj (fun x=>x.1 == s) t.2.2 0) else(0,0)
def nk(t:xX)(fn s:ao):Int×Int:=
 match t.2.2.find? (fun x=>x.1 == fn) with
 |none=>ML t s
 |some x=>bif decide (0≤nj (fun y=>y == s) x.2.2.1 0) then(3,nj (fun y=>y == s) x.2.2.1 0) else
  bif decide (0≤nj (fun y=>y == s) x.2.2.2.1 0) then(4,nj (fun y=>y == s) x.2.2.2.1 0) else ML t s
structure iy(t:xX):Prop where
 a:t.1.length≤4
 g:t.2.1.length≤4
 f:t.2.2.length≤6
 i:∀ x∈t.2.2,x.2.2.1.length≤8∧x.2.2.2.1.length≤3∧0≤x.2.1∧x.2.1≤3
theorem XK{α:Type}{p:α→Bool}:∀(l:List α),(nj p l 0 = -1∧l.find? p=none)∨∃(n:Nat) (x:α),nj p l 0=(n:Int)∧l[n]? = some x∧l.find? p=some x:=by
 have key:∀(l:List α) (i:Int),0≤i→(nj p l i = -1∧l.find? p=none)∨∃(n:Nat) (x:α),nj p l i=i + (n:Int)∧l[n]? = some x∧l.find? p=some x:=by
  intro l;induction l with
  |nil=>intro i _;exact .inl ⟨rfl,rfl⟩
  |cons y r ih=>
   intro i hi;cases hp:p y with
   |true=>exact .inr ⟨0,y,by simp [nj,hp],rfl,by simp [hp]⟩
   |false=>
    rcases ih (i + 1) (by omega) with ⟨e,f⟩ |⟨n,x,e,f,g⟩
    ·exact .inl ⟨by simp [nj,hp,e],by simp [hp,f]⟩
    ·exact .inr ⟨n + 1,x,by simp [nj,hp,e];omega,by simpa using f,by simp [hp,g]⟩
 intro l;rcases key l 0 (by omega) with h |⟨n,x,e,f,g⟩
 ·exact .inl h
 ·exact .inr ⟨n,x,by omega,f,g⟩
theorem ge0(n:Int):decide (n≥0)=decide (0≤n):=rfl
theorem Tg{t:xX}(ht:iy t)(fn s:ao):Ev fun k=>cK k t fn s=some ((nk t fn s).1,(nk t fn s).2,()):=by
 have e1:=PK t fn (by have:=ht.f;omega)
 have e2:=Zq t s (by have:=ht.a;omega)
 have e3:=Hg t.2.1 s (by have:=ht.g;omega)
 have e4:=PK t s (by have:=ht.f;omega)
 have tail:∀ k,nH k t s=some (nj (fun x=>x.1 == s) t.1 0,())→hG k t.2.1 s=some (nj (fun x=>x == s) t.2.1 0,())→jZ k t s=some (nj (fun x=>x.1 == s) t.2.2 0,())→
   ((nH k t s).bind fun r6=>
   bif decide (r6.1≥0) then
    (nH k t s).bind fun r7=>
    some ((1:Int),r7.1,())
   else
    (hG k t.2.1 s).bind fun r8=>
    bif decide (r8.1≥0) then
     (hG k t.2.1 s).bind fun r9=>
     some (2,r9.1,())
    else
     (jZ k t s).bind fun mU=>
     bif decide (mU.1≥0) then
      (jZ k t s).bind fun pK=>
      some (5,pK.1,())
     else
      some (0,0,()))=some ((ML t s).1,(ML t s).2,()):=by
  intro k a1 a2 a3;simp only [go_sem,a1,a2,a3,ML,ge0];cases decide (0≤nj (fun x=>x.1 == s) t.1 0)<;>cases decide (0≤nj (fun x=>x == s) t.2.1 0)<;>cases decide (0≤nj (fun x=>x.1 == s) t.2.2 0)<;>rfl
 rcases XK (p:=fun x:ao×Int×XS×XS×Int=>x.1 == fn) t.2.2 with ⟨f1,f2⟩ |⟨n,x,f1,f2,f3⟩
 ·refine((e1.and e2).and (e3.and e4)).mono fun k e=>?_
  simp only [go_sem,cK,e.1.1,f1,aa,ge0,show decide ((0:Int)≤-1)=false from rfl,nk,f2]
  exact tail k e.1.2 e.2.1 e.2.2
 ·have hb:=ht.i x (List.mem_of_getElem? f2)
  have e5:=Hg x.2.2.1 s (by omega)
  have e6:=Hg x.2.2.2.1 s (by omega)
  refine(((e1.and e2).and (e3.and e4)).and (e5.and e6)).mono fun k e=>?_;simp only [go_sem,cK,e.1.1.1,f1,aa,ge0,show decide ((0:Int)≤(n:Int))=true by simp,bh f2,e.2.1,e.2.2,nk,f3]
  cases decide (0≤nj (fun y=>y == s) x.2.2.1 0) with
  |true=>rfl
  |false=>
   cases decide (0≤nj (fun y=>y == s) x.2.2.2.1 0) with
   |true=>rfl
   |false=>simp only [go_sem];exact tail k e.1.1.2 e.1.2.1 e.1.2.2
def k0X(s:ao):Option (ao×Int×XS×XS×Int)→Unit⊕(Int×Int×Unit)
 |none=>.inl ()
 |some x=>bif decide (0≤nj (fun y=>y == s) x.2.2.1 0) then .inr (3,nj (fun y=>y == s) x.2.2.1 0,()) else(bif decide (0≤nj (fun y=>y == s) x.2.2.2.1 0) then .inr (4,nj (fun y=>y == s) x.2.2.2.1 0,()) else .inl ())
theorem T3{F:FS}(hF:∀ x∈F,x.2.2.1.length≤8∧x.2.2.2.1.length≤3)(hl:F.length≤6)(fn s:ao):∀ m i,m + i=F.length→cm fun q k=>kl q k fn s F (F.length:Int) (i:Int) =
  some (k0X s ((F.drop i).find? (fun x=>x.1 == fn)))
 |0,i,h=>by
  have h2:¬ i < F.length:=by omega
  have e:F.drop i = []:=by simp;omega
  rw [e];exact cm.succ (cm.of fun q k=>by simp only [go_sem,kl,Int.ofNat_lt,h2];rfl)
 |m + 1,i,h=>by
  have bq:i < F.length:=by omega
  have hb:=hF F[i] (List.getElem_mem bq);refine cm.succ (((T3 hF hl fn s m (i + 1) (by omega)).and ((WX F[i].2.2.1 s (by omega)).and (WX F[i].2.2.2.1 s (by omega))).tw).mono fun q k e=>?_)
  rw [List.drop_eq_getElem_cons bq,List.find?_cons];simp only [go_sem,kl,Int.ofNat_lt,bq,cV bq,ag (show i < _ by omega),e.1,e.2.1,e.2.2,ge0]
  cases (F[i].1 == fn) with
  |false=>rfl
  |true=>simp only [go_sem,k0X];cases decide (0≤nj (fun y=>y == s) F[i].2.2.1 0)<;>cases decide (0≤nj (fun y=>y == s) F[i].2.2.2.1 0)<;>rfl
theorem WW{t:xX}(ht:iy t)(fn s:ao):Ev fun k=>fC k t fn s=some ((nk t fn s).1,(nk t fn s).2,()):=by
 have e1:=(T3 (fun x hx=>let h:=ht.i x hx;⟨h.1,h.2.1⟩) ht.f fn s t.2.2.length 0 rfl).jI
 have e2:=(aae t.1 s (by have:=ht.a;omega) t.1.length 0 rfl).jI
 have e3:=WX t.2.1 s (by have:=ht.g;omega)
 have e4:=(aaf t.2.2 s (by have:=ht.f;omega) t.2.2.length 0 rfl).jI
 refine((e1.and e2).and (e3.and e4)).mono fun k e=>?_;obtain⟨⟨e1,e2⟩,e3,e4⟩:=e;have e1:kl k k fn s t.2.2 (t.2.2.length:Int) 0=_:=e1;have e2:jp k k s t.1 (t.1.length:Int) 0=_:=e2;have e4:jq k k s t.2.2 (t.2.2.length:Int) 0=_:=e4;simp only [List.drop_zero,Int.natCast_zero] at e1 e2 e4;have tail:((jp k k s t.1 (t.1.length:Int) 0).bind fun r=>match r with
  |.inl o3=>
   (mB k t.2.1 s).bind fun r1=>
   bif decide (r1.1≥0) then
    some ((2:Int),r1.1,())
   else
    (jq k k s t.2.2 (t.2.2.length:Int) 0).bind fun r=>match r with
    |.inl o5=>
     some (0,0,())
    |.inr o6=>
     some (o6.1,o6.2.1,())
  |.inr o4=>
   some (o4.1,o4.2.1,()))=some ((ML t s).1,(ML t s).2,()):=by
   simp only [go_sem,e2,e3,e4,ML,ge0,plY];cases decide (0≤nj (fun x=>x.1 == s) t.1 0)<;>cases decide (0≤nj (fun x=>x == s) t.2.1 0)<;>cases decide (0≤nj (fun x=>x.1 == s) t.2.2 0)<;>rfl
 simp only [go_sem,fC,e1,nk];cases hf:t.2.2.find? (fun x=>x.1 == fn) with
 |none=>simp only [hf,k0X];exact tail
 |some x=>
   simp only [hf,k0X];cases decide (0≤nj (fun y=>y == s) x.2.2.1 0) with
   |true=>rfl
   |false=>
     cases decide (0≤nj (fun y=>y == s) x.2.2.2.1 0) with
     |true=>rfl
     |false=>simp only [go_sem];exact tail
end Go.Fx.R5
namespace Go.Fx.R5
open Go Go.Fx
theorem Dq(D:AS)(n s:ao)(v:Int):p7 (qu D n v) s=if n=s then v else p7 D s:=by
 induction D with
 |nil=>by_cases h:n=s<;>simp [qu,p7,h]
 |cons p r ih=>
  by_cases h:p.1=n
  ·subst h;by_cases h2:p.1=s<;>simp [qu,p7,h2]
  ·simp only [go_sem,qu,h,p7,ih]
   by_cases h2:p.1=s
   ·have:¬ n=s:=fun e=>h (by rw [h2,e])
    simp [h2,this]
   ·simp [h2]
def pd(t:xX)(s:ao):Prop:=(∃ x∈t.1,x.1=s)∨s∈t.2.1∨∃ x∈t.2.2,x.1=s
theorem Uf(t:xX)(s:ao):(ML t s).1≠0↔pd t s:=by
 have h1:(0≤nj (fun x:ao×Int=>x.1 == s) t.1 0)↔∃ x∈t.1,x.1=s:=by rw [AU];simp
 have h2:(0≤nj (fun x=>x == s) t.2.1 0)↔s∈t.2.1:=by rw [AU];simp
 have h3:(0≤nj (fun x:ao×Int×XS×XS×Int=>x.1 == s) t.2.2 0)↔∃ x∈t.2.2,x.1=s:=by rw [AU];simp
 unfold pd;rw [←h1,←h2,←h3];simp only [ML];by_cases g1:0≤nj (fun x:ao×Int=>x.1 == s) t.1 0
 ·simp [g1]
 ·by_cases g2:0≤nj (fun x=>x == s) t.2.1 0
  ·simp [g1,g2]
  ·by_cases g3:0≤nj (fun x:ao×Int×XS×XS×Int=>x.1 == s) t.2.2 0<;>simp [g1,g2,g3]
theorem Y8{t:xX}{s:ao}(h:∀ x∈t.2.2,x.1≠[]):nk t [] s=ML t s:=by
 have:t.2.2.find? (fun x=>x.1 == ([]:ao))=none:=by rw [List.find?_eq_none];intro x hx;simpa using h x hx
 simp only [nk,this]
theorem YK{F:FS}(hd:F.Pairwise fun x y=>x.1≠y.1):∀{f:Nat} {x:ao×Int×XS×XS×Int},F[f]? = some x→F.find? (fun y=>y.1 == x.1)=some x:=by
 induction F with
 |nil=>intro f x h;simp at h
 |cons y r ih=>
  intro f x h;obtain⟨h1,h2⟩:=List.pairwise_cons.1 hd;cases f with
  |zero=>simp at h;subst h;simp
  |succ f=>
   have h:r[f]? = some x:=by simpa using h
   have:y.1≠x.1:=h1 x (List.mem_of_getElem? h);rw [List.find?_cons,beq_eq_false_iff_ne.2 this];exact ih h2 h
theorem abp{t:xX}(hd:t.2.2.Pairwise fun x y=>x.1≠y.1){f:Nat}{x:ao×Int×XS×XS×Int}(h:t.2.2[f]? = some x)(s:ao):
  (nk t x.1 s).1≠0↔(s∈x.2.2.1∨s∈x.2.2.2.1)∨pd t s:=by
 have h2:(0≤nj (fun y=>y == s) x.2.2.1 0)↔s∈x.2.2.1:=by rw [AU];simp
 have h3:(0≤nj (fun y=>y == s) x.2.2.2.1 0)↔s∈x.2.2.2.1:=by rw [AU];simp
 simp only [nk,YK hd h];rw [←h2,←h3,←Uf];by_cases g2:0≤nj (fun y=>y == s) x.2.2.1 0
 ·simp [g2]
 ·by_cases g3:0≤nj (fun y=>y == s) x.2.2.2.1 0<;>simp [g2,g3]
structure P1(ns:List eg)(t:xX)(D:AS):Prop where
 ir:iy t
 ne:∀ x∈t.2.2,x.1≠[]
 bd:∀ x∈t.2.2,0≤x.2.2.2.2∧x.2.2.2.2 < ns.length∧kd ns x.2.2.2.2=8∧wt ns x.2.2.2.2≤ns.length
 Wh:t.2.2.Pairwise fun x y=>x.1≠y.1
 dec:∀ s,0 < p7 D s↔pd t s
theorem Mi{ns:List eg}{i:Nat}{x:eg}(h:ns[i]? = some x)(hk:∀ j∈x.2.2.2.2,0≤j∧j < (i:Int)):wt ns (i:Int)=1 + ju ns x.2.2.2.2:=by
 obtain⟨hl,hx⟩:=List.getElem?_eq_some_iff.1 h;have hp:ns.take i ++ [x] <+: ns:=⟨ns.drop (i + 1),by rw [←hx];simp⟩
 have FQ:ns.take i <+: ns:=List.take_prefix _ _;have jD:(ns.take i).length=i:=by simp;omega
 rw [qQ hp (by omega) (by simp;omega)]
 have:=nJ (ns:=ns.take i) (x:=x);rw [jD] at this;rw [this,pp FQ (fun j hj=>by rw [jD];exact hk j hj)]
theorem Ys{ns:List eg}{l:XI}{j:Int}(h:j∈l):wt ns j≤ju ns l:=by
 induction l with
 |nil=>cases h
 |cons a l ih=>
  have e:ju ns (a :: l)=wt ns a + ju ns l:=by simp [ju]
  rcases List.mem_cons.1 h with rfl | h
  ·omega
  ·have:=ih h;omega
theorem uf{ns:List eg}{j:Int}(h0:0≤j)(h1:j < ns.length):∃ x,ns[j.toNat]? = some x∧kd ns j=x.1∧bK ns j=some x:=by
 have:j.toNat < ns.length:=by omega
 refine⟨ns[j.toNat],by simp [this],by simp [kd,this],?_⟩
 have:bK ns ((j.toNat:Nat):Int)=some ns[j.toNat]:=cV this;rwa [Int.toNat_of_nonneg h0] at this
theorem X9{ns:List eg}{i:Nat}{x:eg}(h:nK ns i x)(hk:x.1=4):∃ b,x.2.2.2.2.getLast? = some b∧0≤b∧b < i∧kd ns b=8∧(∀ j∈x.2.2.2.2.dropLast,0≤j∧j < i∧vm (kd ns j)=true):=by
 have hs:=h.shp;rw [hk] at hs;have hs:((x.2.2.2.2.map (kd ns)).dropLast.all vm && ((x.2.2.2.2.map (kd ns)).getLast? == some 8))=true:=hs;simp only [Bool.and_eq_true,beq_iff_eq] at hs;cases hl:x.2.2.2.2.getLast? with
 |none=>rw [List.getLast?_map,hl] at hs;simp at hs
 |some b=>
  have hb:=List.mem_of_getLast? hl;have:=h.cA b hb;refine⟨b,rfl,this.1,this.2,?_,fun j hj=>?_⟩
  ·rw [List.getLast?_map,hl] at hs;simpa using hs.2
  ·have:=h.cA j ((List.dropLast_sublist _).subset hj)
   refine⟨this.1,this.2,?_⟩;have h1:=hs.1;rw [←List.map_dropLast,List.all_map,List.all_eq_true] at h1;exact h1 j hj
theorem W6{l:XI}{b:Int}(h:l.getLast? = some b)(hl:l.length≤1000000):bK l (dP ((l.length:Int) - 1))=some b:=by
 have gU:l≠[]:=by intro e;rw [e] at h;cases h
 have hp:=List.length_pos_iff.2 gU;rw [eK (by omega) (by omega),show(l.length:Int) - 1=((l.length - 1:Nat):Int) by omega]
 exact bh (by rw [←h,List.getLast?_eq_getElem?])
theorem FO{t:xX}{s:ao}{t':xX}(h:(∃ z,t' = (t.1 ++ [(s,z)],t.2.1,t.2.2))∨t' = (t.1,t.2.1 ++ [s],t.2.2)∨∃ z,t' = (t.1,t.2.1,t.2.2 ++ [(s,z)]))(u:ao):pd t' u↔s=u∨pd t u:=by
 rcases h with ⟨z,rfl⟩ | rfl |⟨z,rfl⟩
 ·simp only [pd,List.mem_append,List.mem_singleton]
  constructor
  ·rintro(⟨x,hx | rfl,rfl⟩ | h | h)
   ·exact .inr (.inl ⟨x,hx,rfl⟩)
   ·exact .inl rfl
   ·exact .inr (.inr (.inl h))
   ·exact .inr (.inr (.inr h))
  ·rintro(rfl |⟨x,hx,rfl⟩ | h | h)
   ·exact .inl ⟨_,.inr rfl,rfl⟩
   ·exact .inl ⟨x,.inl hx,rfl⟩
   ·exact .inr (.inl h)
   ·exact .inr (.inr h)
 ·simp only [pd,List.mem_append,List.mem_singleton]
  constructor
  ·rintro(h |(h | rfl) | h)
   ·exact .inr (.inl h)
   ·exact .inr (.inr (.inl h))
   ·exact .inl rfl
   ·exact .inr (.inr (.inr h))
  ·rintro(rfl | h | h | h)
   ·exact .inr (.inl (.inr rfl))
   ·exact .inl h
   ·exact .inr (.inl (.inl h))
   ·exact .inr (.inr h)
 ·simp only [pd,List.mem_append,List.mem_singleton]
  constructor
  ·rintro(h | h |⟨x,hx | rfl,rfl⟩)
   ·exact .inr (.inl h)
   ·exact .inr (.inr (.inl h))
   ·exact .inr (.inr (.inr ⟨x,hx,rfl⟩))
   ·exact .inl rfl
  ·rintro(rfl | h | h |⟨x,hx,rfl⟩)
   ·exact .inr (.inr ⟨_,.inr rfl,rfl⟩)
   ·exact .inl h
   ·exact .inr (.inl h)
   ·exact .inr (.inr ⟨x,.inl hx,rfl⟩)
theorem OL{t t':xX}{D:AS}{s:ao}(h:∀ u,0 < p7 D u↔pd t u)(h2:∀ u,pd t' u↔s=u∨pd t u):∀ u,0 < p7 (qu D s 1) u↔pd t' u:=by
 intro u;rw [Dq,h2];by_cases e:s=u
 ·simp [e]
 ·simp [e,h]
theorem UZ{ns:List eg}{t:xX}{D:AS}(hp:P1 ns t D){j:Int}{x:eg}(h0:0≤j)(hx:ns[j.toNat]? = some x)(ze:bK ns j=some x)(hn:nK ns j.toNat x)(hk:D5 x.1=true)(hl:ns.length≤100000)(hw:wt ns j≤ns.length):
  (∃ c,c≠0∧∃ A' G' F' D',Ev (fun k=>kA k t.1 t.2.1 t.2.2 x=some (t.1,t.2.1,t.2.2,c,()))∧eH t.1 t.2.1 t.2.2 ns j D=some (c,A',G',F',D',()))∨
  ∃(t':xX) (D':AS),P1 ns t' D'∧t'.2.2.length=t.2.2.length + (if x.1=4 then 1 else 0)∧((∀ f∈t.2.2,f.2.1=0∧f.2.2.1 = []∧f.2.2.2.1 = [])→∀ f∈t'.2.2,f.2.1=0∧f.2.2.1 = []∧f.2.2.2.1 = [])∧
   Ev (fun k=>kA k t.1 t.2.1 t.2.2 x=some (t'.1,t'.2.1,t'.2.2,0,()))∧eH t.1 t.2.1 t.2.2 ns j D=some (0,t'.1,t'.2.1,t'.2.2,D',()):=by
 obtain⟨A,G,F⟩:=t;have hj:j.toNat < ns.length:=(List.getElem?_eq_some_iff.1 hx).1;have hs:=Tg hp.ir ([]:ao) x.2.2.2.1;rw [Y8 hp.ne] at hs;have SF:=hp.dec x.2.2.2.1;have acO:=Uf (A,G,F) x.2.2.2.1;have ha:=hp.ir.a;have hg:=hp.ir.g;have hf:=hp.ir.f;simp only at ha hg hf;by_cases ht:pd (A,G,F) x.2.2.2.1
 ·have h1:0 < p7 D x.2.2.2.1:=SF.2 ht
  have h2:((ML (A,G,F) x.2.2.2.1).1 != 0)=true:=bne_iff_ne.2 (acO.2 ht);refine .inl ⟨9,by decide,A,G,F,D,hs.mono fun k e=>?_,?_⟩
  ·simp only [go_sem,kA,e,h2]
  ·simp only [go_sem,eH,ze,gt_iff_lt,h1]
 ·have h1:¬ 0 < p7 D x.2.2.2.1:=fun h=>ht (SF.1 h)
  have h2:((ML (A,G,F) x.2.2.2.1).1 != 0)=false:=by
   cases h:((ML (A,G,F) x.2.2.2.1).1 != 0) with
   |false=>rfl
   |true=>exact absurd (acO.1 (bne_iff_ne.1 h)) ht
  have hk:x.1=2∨x.1=3∨x.1=4:=by simpa [D5,or_assoc] using hk
  rcases hk with hk | hk | hk
  ·
   have hin:DB x.2.2.1 1 64=some (decide (1≤x.2.2.1) && decide (x.2.2.1≤64),()):=by simp only [DB,aa,ge_iff_le];cases decide (1≤x.2.2.1)<;>rfl
   by_cases JG:A.length=4∨¬ (1≤x.2.2.1∧x.2.2.1≤64)
   ·refine .inl ⟨8,by decide,A,G,F,qu D x.2.2.2.1 1,hs.mono fun k e=>?_,?_⟩
    ·by_cases h4:A.length=4
     ·simp only [go_sem,kA,e,h2,hk,aa,h4,show decide (((4:Nat):Int)≥4)=true from rfl]
     ·have hb:(decide (1≤x.2.2.1) && decide (x.2.2.1≤64))=false:=by
       rcases JG with h | h
       ·exact absurd h h4
       ·simpa using h
      simp only [go_sem,kA,e,h2,hk,aa,show decide ((A.length:Int)≥4)=false from decide_eq_false (by omega),hin,hb]
    ·by_cases h4:A.length=4
     ·simp only [go_sem,eH,ze,gt_iff_lt,h1,hk,aa,h4,show(((4:Nat):Int) == 4)=true from rfl]
     ·have h5:((A.length:Int) == 4)=false:=by simp;omega
      by_cases h6:x.2.2.1 < 1
      ·simp only [go_sem,eH,ze,gt_iff_lt,h1,hk,aa,h5,h6]
      ·have h7:64 < x.2.2.1:=by omega
       simp only [go_sem,eH,ze,gt_iff_lt,h1,hk,aa,h5,h6,h7]
   ·simp only [not_or,Decidable.not_not] at JG
    have JD:lM A [(x.2.2.2.1,x.2.2.1)]=some (A ++ [(x.2.2.2.1,x.2.2.1)]):=qJ (by simp;omega)
    have h5:((A.length:Int) == 4)=false:=by simp;omega
    have h6:¬ x.2.2.1 < 1:=by omega
    have h7:¬ 64 < x.2.2.1:=by omega
    refine .inr ⟨(A ++ [(x.2.2.2.1,x.2.2.1)],G,F),qu D x.2.2.2.1 1,⟨⟨by simp;omega,hg,hf,hp.ir.i⟩,hp.ne,hp.bd,hp.Wh,OL hp.dec (FO (.inl ⟨_,rfl⟩))⟩,by simp [hk],fun h=>h,hs.mono fun k e=>?_,?_⟩
    ·simp only [go_sem,kA,e,h2,hk,aa,show decide ((A.length:Int)≥4)=false from decide_eq_false (by omega),hin,JG.2.1,JG.2.2,Bool.and_self,JD]
    ·simp only [go_sem,eH,ze,gt_iff_lt,h1,hk,aa,h5,h6,h7,JD]
  ·
   have e2:((3:Int) == 2)=false:=rfl;by_cases JG:G.length=4
   ·refine .inl ⟨8,by decide,A,G,F,qu D x.2.2.2.1 1,hs.mono fun k e=>?_,?_⟩
    ·simp only [go_sem,kA,e,h2,hk,e2,JG,show decide (((4:Nat):Int)≥4)=true from rfl]
    ·simp only [go_sem,eH,ze,gt_iff_lt,h1,hk,e2,aa,JG,show(((4:Nat):Int) == 4)=true from rfl]
   ·have JD:lM G [x.2.2.2.1]=some (G ++ [x.2.2.2.1]):=qJ (by simp;omega)
    have h5:((G.length:Int) == 4)=false:=by simp;omega
    refine .inr ⟨(A,G ++ [x.2.2.2.1],F),qu D x.2.2.2.1 1,⟨⟨ha,by simp;omega,hf,hp.ir.i⟩,hp.ne,hp.bd,hp.Wh,OL hp.dec (FO (.inr (.inl rfl)))⟩,by simp [hk],fun h=>h,hs.mono fun k e=>?_,?_⟩
    ·simp only [go_sem,kA,e,h2,hk,e2,show decide ((G.length:Int)≥4)=false from decide_eq_false (by omega),JD]
    ·simp only [go_sem,eH,ze,gt_iff_lt,h1,hk,e2,aa,h5,JD]
  ·
   obtain⟨b,hb,b0,b1,b2,_⟩:=X9 hn hk;have e2:((4:Int) == 2)=false:=rfl;have e3:((4:Int) == 3)=false:=rfl;have Fo:=W6 hb (by have:=hn.nm.2;omega)
   by_cases JG:F.length=6
   ·refine .inl ⟨8,by decide,A,G,F,qu D x.2.2.2.1 1,hs.mono fun k e=>?_,?_⟩
    ·simp only [go_sem,kA,e,h2,hk,e2,e3,JG,show decide (((6:Nat):Int)≥6)=true from rfl]
    ·simp only [go_sem,eH,ze,gt_iff_lt,h1,hk,e2,e3,aa,JG,show(((6:Nat):Int) == 6)=true from rfl]
   ·have JD:lM F [(x.2.2.2.1,0,[],[],b)]=some (F ++ [(x.2.2.2.1,0,[],[],b)]):=qJ (by simp;omega)
    have h5:((F.length:Int) == 6)=false:=by simp;omega
    refine .inr ⟨(A,G,F ++ [(x.2.2.2.1,0,[],[],b)]),qu D x.2.2.2.1 1,⟨⟨ha,hg,by simp;omega,?_⟩,?_,?_,?_,OL hp.dec (FO (.inr (.inr ⟨_,rfl⟩)))⟩,by simp [hk],?_,hs.mono fun k e=>?_,?_⟩
    ·intro y hy
     rcases List.mem_append.1 hy with hy | hy
     ·exact hp.ir.i y hy
     ·rw [List.mem_singleton.1 hy];simp
    ·intro y hy
     rcases List.mem_append.1 hy with hy | hy
     ·exact hp.ne y hy
     ·rw [List.mem_singleton.1 hy];exact hn.nm.1 hk
    ·intro y hy
     rcases List.mem_append.1 hy with hy | hy
     ·exact hp.bd y hy
     ·rw [List.mem_singleton.1 hy]
      have h1:=Mi hx hn.cA;rw [Int.toNat_of_nonneg h0] at h1;have h2:=Ys (ns:=ns) (List.mem_of_getLast? hb);exact⟨b0,by show b < _;omega,b2,by show wt ns b≤_;omega⟩
    ·refine List.pairwise_append.2 ⟨hp.Wh,List.pairwise_singleton _ _,fun y hy z hz=>?_⟩
     rw [List.mem_singleton.1 hz];exact fun e=>ht (.inr (.inr ⟨y,hy,e⟩))
    ·intro h f hf
     rcases List.mem_append.1 hf with hf | hf
     ·exact h f hf
     ·rw [List.mem_singleton.1 hf];exact⟨rfl,rfl,rfl⟩
    ·simp only [go_sem,kA,e,h2,hk,e2,e3,show decide ((F.length:Int)≥6)=false from decide_eq_false (by omega),Fo,JD]
    ·simp only [go_sem,eH,ze,gt_iff_lt,h1,hk,e2,e3,aa,h5,Fo,JD]
end Go.Fx.R5
namespace Go.Fx.R5
open Go Go.Fx
def cnt(ns:List eg)(l:XI):Nat:=(l.filter fun j=>kd ns j == 4).length
def ZG(t:xX):Prop:=∀ f∈t.2.2,f.2.1=0∧f.2.2.1 = []∧f.2.2.2.1 = []
section
variable {ns:List eg} {cA:XI}
theorem T6(fj:jh ns)(hk:iK D5 ns cA){i:Nat}(hi:i < cA.length):∃ x:eg,bK cA (i:Int)=some cA[i]∧bK ns cA[i]=some x∧ns[cA[i].toNat]? = some x∧nK ns cA[i].toNat x∧D5 x.1=true∧kd ns cA[i]=x.1∧0≤cA[i]:=by have hv:=hk.v _ (List.getElem_mem hi);obtain⟨x,e1,e2,e3⟩:=uf hv.1 hv.2;exact⟨x,cV hi,e3,e1,fj _ _ e1,by rw [←e2];exact hk.c _ (List.getElem_mem hi),e2,hv.1⟩
theorem Ni(fj:jh ns)(hl:ns.length≤100000)(hk:iK D5 ns cA)(y0:cA.length≤5000)(hks:ju ns cA≤ns.length):∀ m i (t:xX) (D:AS),m + i=cA.length→P1 ns t D→ZG t→
  (∃(c p:Int),c≠0∧cm fun q k=>de q k ns cA 0 0 t.1 t.2.1 t.2.2 (i:Int)=some (.inr (c,p,()))∧dF q k ns cA (cA.length:Int) t.1 t.2.1 t.2.2 0 0 D (i:Int)=some (.inr (c,p,())))∨
  ∃(t':xX) (D':AS),P1 ns t' D'∧ZG t'∧t'.2.2.length=t.2.2.length + cnt ns (cA.drop i)∧cm fun q k=>de q k ns cA 0 0 t.1 t.2.1 t.2.2 (i:Int)=some (.inl (0,0,t'.1,t'.2.1,t'.2.2,()))∧
   dF q k ns cA (cA.length:Int) t.1 t.2.1 t.2.2 0 0 D (i:Int)=some (.inl (t'.1,t'.2.1,t'.2.2,0,0,D',()))
 |0,i,t,D,h,hp,hf=>by
  have h2:¬ i < cA.length:=by omega
  refine .inr ⟨t,D,hp,hf,?_,cm.succ (cm.of fun q k=>⟨?_,?_⟩)⟩
  ·have:cA.drop i = []:=by simp;omega
   simp [this,cnt]
  ·simp only [go_sem,de,Int.ofNat_lt,h2]
  ·simp only [go_sem,dF,Int.ofNat_lt,h2]
 |m + 1,i,t,D,h,hp,hf=>by
  have bq:i < cA.length:=by omega
  obtain⟨x,e1,e2,e3,e4,e5,e6,e7⟩:=T6 fj hk bq;have hwk:=Ys (ns:=ns) (List.getElem_mem bq);rcases UZ hp e7 e3 e2 e4 e5 hl (by omega) with ⟨c,hc,A',G',F',D',g1,g2⟩ |⟨t',D',zf,jD,su,g1,g2⟩
  ·refine .inl ⟨c,x.2.1,hc,cm.succ (g1.tw.mono fun q k e=>⟨?_,?_⟩)⟩
   ·simp only [go_sem,de,o7,Int.ofNat_lt,bq,e1,e2,e,bne_iff_ne.2 hc]
   ·simp only [go_sem,dF,Int.ofNat_lt,bq,e1,e2,g2,bne_iff_ne.2 hc]
  ·have hdr:cnt ns (cA.drop i)=(if x.1=4 then 1 else 0) + cnt ns (cA.drop (i + 1)):=by
    rw [List.drop_eq_getElem_cons bq];simp only [cnt,List.filter_cons,e6];by_cases h4:x.1=4<;>simp [h4]<;>omega
   have aao:∀{q k r},kA q t.1 t.2.1 t.2.2 x=some (t'.1,t'.2.1,t'.2.2,0,())→de q k ns cA 0 0 t'.1 t'.2.1 t'.2.2 ((i + 1:Nat):Int)=r→de q (k + 1) ns cA 0 0 t.1 t.2.1 t.2.2 (i:Int)=r:=by intro q k r a1 a2;simp only [go_sem,de,o7,Int.ofNat_lt,bq,e1,e2,a1,ag (show i < _ by omega),a2]
   have aap:∀{q k r},dF q k ns cA (cA.length:Int) t'.1 t'.2.1 t'.2.2 0 0 D' ((i + 1:Nat):Int)=r→dF q (k + 1) ns cA (cA.length:Int) t.1 t.2.1 t.2.2 0 0 D (i:Int)=r:=by intro q k r a2;simp only [go_sem,dF,Int.ofNat_lt,bq,e1,g2,ag (show i < _ by omega),a2]
   rcases Ni fj hl hk y0 hks m (i + 1) t' D' (by omega) zf (su hf) with ⟨c,p,hc,he⟩ |⟨t2,D2,q1,q2,q3,he⟩
   ·exact .inl ⟨c,p,hc,cm.succ ((g1.tw.and he).mono fun q k e=>⟨aao e.1 e.2.1,aap e.2.2⟩)⟩
   ·exact .inr ⟨t2,D2,q1,q2,by omega,cm.succ ((g1.tw.and he).mono fun q k e=>⟨aao e.1 e.2.1,aap e.2.2⟩)⟩
end
section
variable {ns:List eg} {t:xX} {D:AS}
theorem Tv{F:FS}{A:AS}{G:XS}{f:Nat}{x y:ao×Int×XS×XS×Int}(hx:F[f]? = some x)(hn:y.1=x.1)(u:ao):pd (A,G,F.set f y) u↔pd (A,G,F) u:=by
 have:(∃ z∈F.set f y,z.1=u)↔∃ z∈F,z.1=u:=by
  have h1:(F.set f y).map (·.1)=F.map (·.1):=by
   rw [List.map_set,hn];have:(F.map (·.1))[f]? = some x.1:=by simp [hx]
   apply List.ext_getElem?;intro n;rw [List.getElem?_set];by_cases e:f=n
   ·subst e
    obtain⟨bq,NC⟩:=List.getElem?_eq_some_iff.1 hx;simp [bq,NC]
   ·simp [e]
  have:∀ F':FS,(∃ z∈F',z.1=u)↔u∈F'.map (·.1):=fun F'=>by simp
  rw [this,this,h1]
 simp only [pd,this]
theorem Wi{F:FS}{f:Nat}{x y:ao×Int×XS×XS×Int}(hx:F[f]? = some x)(hn:y.1=x.1)(h:F.Pairwise fun x y=>x.1≠y.1):(F.set f y).Pairwise fun x y=>x.1≠y.1:=by
 have h1:(F.set f y).map (·.1)=F.map (·.1):=by
  rw [List.map_set,hn];apply List.ext_getElem?;intro n;rw [List.getElem?_set];by_cases e:f=n
  ·subst e
   obtain⟨bq,NC⟩:=List.getElem?_eq_some_iff.1 hx;simp [bq,NC]
  ·simp [e]
 have h2:∀ F':FS,F'.Pairwise (fun x y=>x.1≠y.1)↔(F'.map (·.1)).Pairwise (·≠·):=fun F'=>by rw [List.pairwise_map]
 rw [h2,h1,←h2];exact h
theorem P1.set(hp:P1 ns t D){f:Nat}{x y:ao×Int×XS×XS×Int}(hx:t.2.2[f]? = some x)(hn:y.1=x.1)(hb:y.2.2.2.2=x.2.2.2.2)(hi:y.2.2.1.length≤8∧y.2.2.2.1.length≤3∧0≤y.2.1∧y.2.1≤3):P1 ns (t.1,t.2.1,t.2.2.set f y) D:=by
 have hm:∀ z∈t.2.2.set f y,z∈t.2.2∨z=y:=fun z hz=>List.mem_or_eq_of_mem_set hz;have hxm:=List.mem_of_getElem? hx;refine⟨⟨hp.ir.a,hp.ir.g,by simpa using hp.ir.f,fun z hz=>?_⟩,fun z hz=>?_,fun z hz=>?_,Wi hx hn hp.Wh,fun s=>?_⟩
 ·rcases hm z hz with h | rfl
  ·exact hp.ir.i z h
  ·exact hi
 ·rcases hm z hz with h | rfl
  ·exact hp.ne z h
  ·rw [hn];exact hp.ne x hxm
 ·rcases hm z hz with h | rfl
  ·exact hp.bd z h
  ·rw [hb];exact hp.bd x hxm
 ·rw [hp.dec];exact(Tv hx hn s).symm
theorem aag(is rs:XS)(n s:ao):(s∈is ++ [n]∨s∈rs)↔n=s∨(s∈is∨s∈rs):=by
 rw [List.mem_append,List.mem_singleton];constructor
 ·rintro((h | rfl) | h)
  ·exact .inr (.inl h)
  ·exact .inl rfl
  ·exact .inr (.inr h)
 ·rintro(rfl | h | h)
  ·exact .inl (.inr rfl)
  ·exact .inl (.inl h)
  ·exact .inr h
theorem acY(is rs:XS)(n s:ao):(s∈is∨s∈rs ++ [n])↔n=s∨(s∈is∨s∈rs):=by
 rw [List.mem_append,List.mem_singleton];constructor
 ·rintro(h | h | rfl)
  ·exact .inr (.inl h)
  ·exact .inr (.inr h)
  ·exact .inl rfl
 ·rintro(rfl | h | h)
  ·exact .inr (.inr rfl)
  ·exact .inl h
  ·exact .inr (.inl h)
def So(ns:List eg)(D:AS)(K:XI)(f:Nat)(nm:ao)(body:Int)(t:xX)(ps:Int)(is rs:XS)(oW:AS)(i:Nat):Prop:=
 (∃(c p:Int),c≠0∧cm fun q k=>(∃ A G F,dA q k K ns (f:Int) t.1 t.2.1 t.2.2 0 0 (i:Int)=some (.inr (c,p,A,G,F,())))∧
  ∃ FR D4 D9,bR q k D ns K.dropLast (K.dropLast.length:Int) 0 0 ps is rs oW (i:Int)=some (.inr (c,p,FR,D4,D9,())))∨
 ∃(FR:Int) (D4 D9:XS),P1 ns (t.1,t.2.1,t.2.2.set f (nm,FR,D4,D9,body)) D∧cm fun q k=>dA q k K ns (f:Int) t.1 t.2.1 t.2.2 0 0 (i:Int)=some (.inl (t.1,t.2.1,t.2.2.set f (nm,FR,D4,D9,body),0,0,()))∧
  bR q k D ns K.dropLast (K.dropLast.length:Int) 0 0 ps is rs oW (i:Int)=some (.inl (0,0,FR,D4,D9,()))
theorem XD(fj:jh ns){K:XI}{f:Nat}(hK:∀ j∈K.dropLast,0≤j∧j < (ns.length:Int)∧vm (kd ns j)=true)(hKl:K.length≤5000){nm:ao}{body:Int}:∀ m i (t:xX) (ps:Int) (is rs:XS) (oW:AS),m + i=K.dropLast.length→P1 ns t D→t.2.2[f]? = some (nm,ps,is,rs,body)→(∀ s,0 < p7 oW s↔(s∈is∨s∈rs))→
  So ns D K f nm body t ps is rs oW i:=by
 intro m;have mq:K.dropLast.length=K.length - 1:=List.length_dropLast;induction m with
 |zero=>
  intro i t ps is rs oW h hp hx ho;have h1:¬ (i + 1:Nat) < K.length:=by omega
  have h2:¬ i < K.dropLast.length:=by omega
  have Ie:t.2.2.set f (nm,ps,is,rs,body)=t.2.2:=by obtain⟨hl,he⟩:=List.getElem?_eq_some_iff.1 hx;rw [←he];simp
  refine .inr ⟨ps,is,rs,by rw [Ie];exact hp,cm.succ (cm.of fun q k=>⟨?_,?_⟩)⟩
  ·simp only [go_sem,dA,ag (show i < _ by omega),Int.ofNat_lt,h1,Ie]
  ·simp only [go_sem,bR,Int.ofNat_lt,h2]
 |succ m ih=>
  intro i t ps is rs oW h hp hx ho;obtain⟨A,G,F⟩:=t;have hx:F[f]? = some (nm,ps,is,rs,body):=hx;have bq:i < K.dropLast.length:=by omega
  have h1:(i + 1:Nat) < K.length:=by omega
  have Fp:i < K.length:=by omega
  have hj:K.dropLast[i]=K[i]:=by simp
  have hv:=hK _ (List.getElem_mem bq);rw [hj] at hv;obtain⟨x,e1,e2,e3⟩:=uf hv.1 hv.2.1;rw [e2] at hv;have hbb:=hp.ir.i _ (List.mem_of_getElem? hx);simp only at hbb;have hnk:=Tg hp.ir nm x.2.2.2.1;have jo:=abp hp.Wh (t:=(A,G,F)) (f:=f) hx x.2.2.2.1;have SF:=hp.dec x.2.2.2.1;simp only at jo;have i1:bK K (i:Int)=some K[i]:=cV Fp;have i2:bK K.dropLast (i:Int)=some K[i]:=by rw [cV bq,hj]
  have i3:bK F (f:Int)=some (nm,ps,is,rs,body):=bh hx;have ft:((f:Int)).toNat=f:=Int.toNat_natCast f;by_cases htw:(x.2.2.2.1∈is∨x.2.2.2.1∈rs)∨pd (A,G,F) x.2.2.2.1
  ·have hz:((nk (A,G,F) nm x.2.2.2.1).1 != 0)=true:=bne_iff_ne.2 (jo.2 htw)
   refine .inl ⟨9,x.2.1,by decide,cm.succ (hnk.tw.mono fun q k e=>⟨⟨A,G,F,?_⟩,ps,is,rs,?_⟩)⟩
   ·simp only [go_sem,dA,ag (show i < _ by omega),Int.ofNat_lt,h1,i1,e3,ft,i3,e,hz]
   ·have:((decide (p7 D x.2.2.2.1 > 0)) ||(decide (p7 oW x.2.2.2.1 > 0)))=true:=by
     simp only [Bool.or_eq_true,decide_eq_true_eq,gt_iff_lt,SF,ho];exact htw.elim .inr .inl
    simp only [go_sem,bR,Int.ofNat_lt,bq,i2,e3,yI,this]
  ·have hz:((nk (A,G,F) nm x.2.2.2.1).1 != 0)=false:=by
    cases hh:((nk (A,G,F) nm x.2.2.2.1).1 != 0) with
    |false=>rfl
    |true=>exact absurd (jo.1 (bne_iff_ne.1 hh)) htw
   have hor:((decide (p7 D x.2.2.2.1 > 0)) ||(decide (p7 oW x.2.2.2.1 > 0)))=false:=by simp only [Bool.or_eq_false_iff,decide_eq_false_iff_not,gt_iff_lt,SF,ho];exact⟨fun h=>htw (.inr h),fun h=>htw (.inl h)⟩
   have ho':∀{D4 D9:XS},((∀ s,(s∈D4∨s∈D9)↔x.2.2.2.1=s∨(s∈is∨s∈rs)))→∀ s,0 < p7 (qu oW x.2.2.2.1 1) s↔(s∈D4∨s∈D9):=fun hh s=>by
    rw [Dq,hh];by_cases e:x.2.2.2.1=s
    ·simp [e]
    ·simp [e,ho]
   have r0:∀(FR:Int) (D4 D9:XS),D4.length≤8∧D9.length≤3∧0≤FR∧FR≤3→(∀ s,(s∈D4∨s∈D9)↔x.2.2.2.1=s∨(s∈is∨s∈rs))→
     (∀ q k r,cK q (A,G,F) nm x.2.2.2.1=some ((nk (A,G,F) nm x.2.2.2.1).1,(nk (A,G,F) nm x.2.2.2.1).2,())→dA q k K ns (f:Int) A G (F.set f (nm,FR,D4,D9,body)) 0 0 ((i + 1:Nat):Int)=r→dA q (k + 1) K ns (f:Int) A G F 0 0 (i:Int)=r)→
     (∀ q k r,bR q k D ns K.dropLast (K.dropLast.length:Int) 0 0 FR D4 D9 (qu oW x.2.2.2.1 1) ((i + 1:Nat):Int)=r→bR q (k + 1) D ns K.dropLast (K.dropLast.length:Int) 0 0 ps is rs oW (i:Int)=r)→
     So ns D K f nm body (A,G,F) ps is rs oW i:=fun FR D4 D9 hb hh s1 s2=>by
    have Ie:P1 ns (A,G,F.set f (nm,FR,D4,D9,body)) D:=hp.set (t:=(A,G,F)) hx rfl rfl hb;have Ld:(F.set f (nm,FR,D4,D9,body))[f]? = some (nm,FR,D4,D9,body):=by have:=(List.getElem?_eq_some_iff.1 hx).1;simp [this]
    rcases ih (i + 1) (A,G,F.set f (nm,FR,D4,D9,body)) FR D4 D9 (qu oW x.2.2.2.1 1) (by omega) Ie Ld (ho' hh) with ⟨c,p,hc,he⟩ |⟨ps2,is2,rs2,FQ,he⟩
    ·exact .inl ⟨c,p,hc,cm.succ ((hnk.tw.and he).mono fun q k e=>⟨by obtain⟨A',G',F',e2⟩:=e.2.1;exact⟨A',G',F',s1 q k _ e.1 e2⟩,by obtain⟨p',i',r',e2⟩:=e.2.2;exact⟨p',i',r',s2 q k _ e2⟩⟩)⟩
    ·refine .inr ⟨ps2,is2,rs2,?_,cm.succ ((hnk.tw.and he).mono fun q k e=>⟨?_,s2 q k _ e.2.2⟩)⟩
     ·simpa only [List.set_set] using FQ
     ·have:=s1 q k _ e.1 e.2.1
      simpa only [List.set_set] using this
   have lim:∀(aeB:∀ q k,cK q (A,G,F) nm x.2.2.2.1=some ((nk (A,G,F) nm x.2.2.2.1).1,(nk (A,G,F) nm x.2.2.2.1).2,())→dA q (k + 1) K ns (f:Int) A G F 0 0 (i:Int)=some (.inr (8,x.2.1,A,G,F,())))
     (adU:∀ q k,∃ FR D4 D9,bR q (k + 1) D ns K.dropLast (K.dropLast.length:Int) 0 0 ps is rs oW (i:Int)=some (.inr (8,x.2.1,FR,D4,D9,()))),So ns D K f nm body (A,G,F) ps is rs oW i:=
    fun hf1 hf2=>Or.inl ⟨8,x.2.1,by decide,cm.succ (hnk.tw.mono fun q k e=>⟨⟨A,G,F,hf1 q k e⟩,hf2 q k⟩)⟩
   have hkk:x.1=5∨x.1=6∨x.1=7:=by simpa [vm,or_assoc] using hv.2.2
   rcases hkk with hkk | hkk | hkk
   ·
    have n1:((5:Int) == 7)=false:=rfl;have n2:((5:Int) != 7)=true:=rfl;have hai:lM is [x.2.2.2.1]=some (is ++ [x.2.2.2.1]):=qJ (by simp;omega)
    by_cases hl:is.length=8∨ps=3
    ·refine lim (fun q k e=>?_) (fun q k=>⟨dP (ps + 1),is ++ [x.2.2.2.1],rs,?_⟩)
     ·by_cases h8:is.length=8
      ·simp only [go_sem,dA,aa,ag (show i < _ by omega),Int.ofNat_lt,h1,i1,e3,ft,i3,e,hz,hkk,n1,n2,h8,show decide (((8:Nat):Int)≥8)=true from rfl]
      ·have h3:ps=3:=hl.resolve_left h8
       simp only [go_sem,dA,aa,ag (show i < _ by omega),Int.ofNat_lt,h1,i1,e3,ft,i3,e,hz,hkk,n1,n2,show decide ((is.length:Int)≥8)=false from decide_eq_false (by omega),h3,show decide ((3:Int)≥3)=true from rfl]
     ·have hb:(((is.length:Int) == 8) ||(ps == 3))=true:=by
       rcases hl with h | h
       ·simp [h]
       ·simp [h]
      simp only [go_sem,bR,Int.ofNat_lt,bq,i2,e3,yI,hor,hkk,n1,hb,hai];simp only [go_sem,aa]
    ·simp only [not_or] at hl
     have hw:dP (ps + 1)=ps + 1:=eK (by omega) (by omega)
     refine r0 (ps + 1) (is ++ [x.2.2.2.1]) rs ⟨by simp;omega,by omega,by omega,by omega⟩ (aag is rs _) (fun q k r e er=>?_) (fun q k r er=>?_)
     ·simp only [go_sem,dA,aa,ag (show i < _ by omega),Int.ofNat_lt,h1,i1,e3,ft,i3,e,hz,hkk,n1,n2,show decide ((is.length:Int)≥8)=false from decide_eq_false (by omega),show decide (ps≥3)=false from decide_eq_false (by omega),hai,hw,Nat.beq_refl,Bool.and_self,er]
     ·have hb:(((is.length:Int) == 8) ||(ps == 3))=false:=by
       simp only [Bool.or_eq_false_iff,beq_eq_false_iff_ne];exact⟨by omega,hl.2⟩
      simp only [go_sem,bR,Int.ofNat_lt,bq,i2,e3,yI,hor,hkk,n1,hb,hai,hw];simp only [go_sem,aa,ag (show i < _ by omega),er]
   ·
    have n1:((6:Int) == 7)=false:=rfl;have n2:((6:Int) != 7)=true:=rfl;have n3:((6:Int) == 5)=false:=rfl;have hai:lM is [x.2.2.2.1]=some (is ++ [x.2.2.2.1]):=qJ (by simp;omega)
    by_cases hl:is.length=8
    ·refine lim (fun q k e=>?_) (fun q k=>⟨ps,is ++ [x.2.2.2.1],rs,?_⟩)
     ·simp only [go_sem,dA,aa,ag (show i < _ by omega),Int.ofNat_lt,h1,i1,e3,ft,i3,e,hz,hkk,n1,n2,hl,show decide (((8:Nat):Int)≥8)=true from rfl]
     ·simp only [go_sem,bR,Int.ofNat_lt,bq,i2,e3,yI,hor,hkk,n1,n3,hl,hai]
      simp only [go_sem,aa,show(((8:Nat):Int) == 8)=true from rfl]
    ·refine r0 ps (is ++ [x.2.2.2.1]) rs ⟨by simp;omega,by omega,by omega,by omega⟩ (aag is rs _) (fun q k r e er=>?_) (fun q k r er=>?_)
     ·simp only [go_sem,dA,aa,ag (show i < _ by omega),Int.ofNat_lt,h1,i1,e3,ft,i3,e,hz,hkk,n1,n2,n3,show decide ((is.length:Int)≥8)=false from decide_eq_false (by omega),hai,Nat.beq_refl,Bool.and_self,er]
     ·have hb:((is.length:Int) == 8)=false:=by simp;omega
      simp only [go_sem,bR,Int.ofNat_lt,bq,i2,e3,yI,hor,hkk,n1,n3,hb,hai];simp only [go_sem,aa,ag (show i < _ by omega),er]
   ·
    have n2:((7:Int) != 7)=false:=rfl;have n3:((7:Int) == 5)=false:=rfl;have hai:lM rs [x.2.2.2.1]=some (rs ++ [x.2.2.2.1]):=qJ (by simp;omega)
    by_cases hl:rs.length=3
    ·refine lim (fun q k e=>?_) (fun q k=>⟨ps,is,rs ++ [x.2.2.2.1],?_⟩)
     ·simp only [go_sem,dA,aa,ag (show i < _ by omega),Int.ofNat_lt,h1,i1,e3,ft,i3,e,hz,hkk,hl,show decide (((3:Nat):Int)≥3)=true from rfl]
     ·simp only [go_sem,bR,Int.ofNat_lt,bq,i2,e3,yI,hor,hkk,hl,hai]
      simp only [go_sem,aa,show(((3:Nat):Int) == 3)=true from rfl]
    ·refine r0 ps is (rs ++ [x.2.2.2.1]) ⟨by omega,by simp;omega,by omega,by omega⟩ (acY is rs _) (fun q k r e er=>?_) (fun q k r er=>?_)
     ·simp only [go_sem,dA,aa,ag (show i < _ by omega),Int.ofNat_lt,h1,i1,e3,ft,i3,e,hz,hkk,n2,n3,show decide ((rs.length:Int)≥3)=false from decide_eq_false (by omega),hai,Nat.beq_refl,Bool.and_self,er]
     ·have hb:((rs.length:Int) == 3)=false:=by simp;omega
      simp only [go_sem,bR,Int.ofNat_lt,bq,i2,e3,yI,hor,hkk,hb,hai];simp only [go_sem,aa,ag (show i < _ by omega),er]
end
end Go.Fx.R5
namespace Go.Fx.R5
open Go Go.Fx
section
variable {ns:List eg} {cA:XI} {D:AS}
theorem Yh{K:XI}(h:K≠[])(hl:K.length≤5000):sub K 0 (dP ((K.length:Int) - 1))=some K.dropLast:=by
 have hp:=List.length_pos_iff.2 h;have:=FN (l:=K) (m:=0) (n:=K.length - 1) (by omega) (by omega)
 rw [eK (by omega) (by omega),show(K.length:Int) - 1=((K.length - 1:Nat):Int) by omega]
 rw [show(0:Int)=((0:Nat):Int) from rfl,this,List.drop_zero,List.dropLast_eq_take]
theorem SR(fj:jh ns)(hl:ns.length≤100000)(hk:iK D5 ns cA)(y0:cA.length≤5000):∀ m i f (t:xX),m + i=cA.length→P1 ns t D→t.2.2.length=f + cnt ns (cA.drop i)→(∀ n x,f≤n→t.2.2[n]? = some x→x.2.1=0∧x.2.2.1 = []∧x.2.2.2.1 = [])→
  (∃(c p:Int),c≠0∧cm fun q k=>cR q k ns cA 0 0 t.1 t.2.1 t.2.2 (f:Int) (i:Int)=some (.inr (c,p,()))∧dj q k ns cA (cA.length:Int) t.2.2 0 0 D (f:Int) (i:Int)=some (.inr (c,p,())))∨
  ∃(F':FS),P1 ns (t.1,t.2.1,F') D∧cm fun q k=>cR q k ns cA 0 0 t.1 t.2.1 t.2.2 (f:Int) (i:Int)=some (.inl (0,0,t.1,t.2.1,F',()))∧
   dj q k ns cA (cA.length:Int) t.2.2 0 0 D (f:Int) (i:Int)=some (.inl (F',0,0,())):=by
 intro m;induction m with
 |zero=>
  intro i f t h hp hc hf;have h2:¬ i < cA.length:=by omega
  refine .inr ⟨t.2.2,hp,cm.succ (cm.of fun q k=>⟨?_,?_⟩)⟩
  ·simp only [go_sem,cR,Int.ofNat_lt,h2]
  ·simp only [go_sem,dj,Int.ofNat_lt,h2]
 |succ m ih=>
  intro i f t h hp hc hf;have bq:i < cA.length:=by omega
  obtain⟨x,e1,e2,e3,e4,e5,e6,e7⟩:=T6 fj hk bq;have hdr:cnt ns (cA.drop i)=(if x.1=4 then 1 else 0) + cnt ns (cA.drop (i + 1)):=by rw [List.drop_eq_getElem_cons bq];simp only [cnt,List.filter_cons,e6];by_cases h4:x.1=4<;>simp [h4]<;>omega
  by_cases h4:x.1=4
  rotate_left
  ·have b1:(x.1 == 4)=false:=beq_eq_false_iff_ne.2 h4
   have b2:(x.1 != 4)=true:=bne_iff_ne.2 h4;rw [if_neg h4] at hdr;rcases ih (i + 1) f t (by omega) hp (by omega) hf with ⟨c,p,g,he⟩ |⟨F',g,he⟩
   ·refine .inl ⟨c,p,g,cm.succ (he.mono fun q k e=>⟨?_,?_⟩)⟩
    ·simp only [go_sem,cR,aa,Int.ofNat_lt,bq,e1,e2,b1,ag (show i < _ by omega),e.1]
    ·simp only [go_sem,dj,aa,Int.ofNat_lt,bq,e1,e2,b2,ag (show i < _ by omega),e.2]
   ·refine .inr ⟨F',g,cm.succ (he.mono fun q k e=>⟨?_,?_⟩)⟩
    ·simp only [go_sem,cR,aa,Int.ofNat_lt,bq,e1,e2,b1,ag (show i < _ by omega),e.1]
    ·simp only [go_sem,dj,aa,Int.ofNat_lt,bq,e1,e2,b2,ag (show i < _ by omega),e.2]
  ·rw [if_pos h4] at hdr
   have b1:(x.1 == 4)=true:=beq_iff_eq.2 h4;have b2:(x.1 != 4)=false:=by rw [h4];rfl
   obtain⟨b,hb,_,_,_,hlc⟩:=X9 e4 h4;have gU:x.2.2.2.2≠[]:=by intro e;rw [e] at hb;cases hb
   have acw:=e4.nm.2;have adS:f < t.2.2.length:=by omega
   obtain⟨nm,ps,is,rs,body,Ld⟩:∃ nm ps is rs body,t.2.2[f]? = some (nm,ps,is,rs,body):=⟨_,_,_,_,_,by rw [List.getElem?_eq_getElem adS]⟩
   obtain⟨z1,z2,z3⟩:=hf f _ (Nat.le_refl _) Ld;simp only at z1 z2 z3;subst z1;subst z2;subst z3;have acv:bK t.2.2 (f:Int)=some (nm,0,[],[],body):=bh Ld;have Lg:=(List.getElem?_eq_some_iff.1 e3).1;have how:=XD fj (K:=x.2.2.2.2) (f:=f) (fun j hj=>⟨(hlc j hj).1,by have:=(hlc j hj).2.1;omega,(hlc j hj).2.2⟩) acw (nm:=nm) (body:=body) x.2.2.2.2.dropLast.length 0 t 0 [] [] [] (by omega) hp Ld (fun s=>by simp [p7])
   have pV:=Yh gU acw;have ft:((f:Int)).toNat=f:=Int.toNat_natCast f;have hf6:=hp.ir.f;rcases how with ⟨c,p,hc0,he⟩ |⟨FR,D4,D9,FQ,he⟩
   ·have he:Ev fun k=>(∃ A G F,dA k k x.2.2.2.2 ns (f:Int) t.1 t.2.1 t.2.2 0 0 0=some (.inr (c,p,A,G,F,())))∧
      ∃ FR D4 D9,bR k k D ns x.2.2.2.2.dropLast (x.2.2.2.2.dropLast.length:Int) 0 0 0 [] [] [] 0=some (.inr (c,p,FR,D4,D9,())):=he.jI
    refine .inl ⟨c,p,hc0,cm.succ (he.tw.mono fun q k e=>?_)⟩;obtain⟨⟨A',G',F',e8⟩,FR,D4,D9,e9⟩:=e;refine⟨?_,?_⟩
    ·simp only [go_sem,cR,o8,A4,aa,Int.ofNat_lt,bq,e1,e2,b1,e8,bne_iff_ne.2 hc0]
    ·simp only [go_sem,dj,pH,rL,aa,Int.ofNat_lt,bq,e1,e2,b2,acv,ft,pV,e9,bne_iff_ne.2 hc0]
   ·have he:Ev fun k=>dA k k x.2.2.2.2 ns (f:Int) t.1 t.2.1 t.2.2 0 0 0=some (.inl (t.1,t.2.1,t.2.2.set f (nm,FR,D4,D9,body),0,0,()))∧
      bR k k D ns x.2.2.2.2.dropLast (x.2.2.2.2.dropLast.length:Int) 0 0 0 [] [] [] 0=some (.inl (0,0,FR,D4,D9,())):=he.jI
    have s1:∀{q k r},dA q q x.2.2.2.2 ns (f:Int) t.1 t.2.1 t.2.2 0 0 0=some (.inl (t.1,t.2.1,t.2.2.set f (nm,FR,D4,D9,body),0,0,()))→cR q k ns cA 0 0 t.1 t.2.1 (t.2.2.set f (nm,FR,D4,D9,body)) ((f + 1:Nat):Int) ((i + 1:Nat):Int)=r→
      cR q (k + 1) ns cA 0 0 t.1 t.2.1 t.2.2 (f:Int) (i:Int)=r:=fun a1 a2=>by
     simp only [go_sem,cR,o8,A4,aa,Int.ofNat_lt,bq,e1,e2,b1,a1,ag (show i < _ by omega),ag (show f < _ by omega),a2]
    have s2:∀{q k r},bR q q D ns x.2.2.2.2.dropLast (x.2.2.2.2.dropLast.length:Int) 0 0 0 [] [] [] 0=some (.inl (0,0,FR,D4,D9,()))→dj q k ns cA (cA.length:Int) (t.2.2.set f (nm,FR,D4,D9,body)) 0 0 D ((f + 1:Nat):Int) ((i + 1:Nat):Int)=r→
      dj q (k + 1) ns cA (cA.length:Int) t.2.2 0 0 D (f:Int) (i:Int)=r:=fun a1 a2=>by
     simp only [go_sem,dj,pH,rL,aa,Int.ofNat_lt,bq,e1,e2,b2,acv,ft,pV,a1,ag (show i < _ by omega),ag (show f < _ by omega),a2]
    rcases ih (i + 1) (f + 1) (t.1,t.2.1,t.2.2.set f (nm,FR,D4,D9,body)) (by omega) FQ (by simp;omega) (fun n y hn hy=>hf n y (by omega) (by
      have:(t.2.2.set f (nm,FR,D4,D9,body))[n]? = some y:=hy;rwa [List.getElem?_set_ne (by omega)] at this)) with ⟨c,p,g,hh⟩ |⟨F',g,hh⟩
    ·exact .inl ⟨c,p,g,cm.succ ((he.tw.and hh).mono fun q k e=>⟨s1 e.1.1 e.2.1,s2 e.1.2 e.2.2⟩)⟩
    ·exact .inr ⟨F',g,cm.succ ((he.tw.and hh).mono fun q k e=>⟨s1 e.1.1 e.2.1,s2 e.1.2 e.2.2⟩)⟩
end
end Go.Fx.R5
namespace Go.Fx.R5
open Go Go.Fx
def W(t:xX)(fn s:ao)(a b:Int):Int:=if(nk t fn s).1=0 then 10 else if(nk t fn s).1=a∨(nk t fn s).1=b then 0 else 11
def Jg(l:XS)(D:AS):Prop:=∀ s,0 < p7 D s↔s∈l
def F8(t:xX)(fn:ao)(l:XS)(s:ao)(a b:Int):Int:=if W t fn s a b≠0 then W t fn s a b else if s∈l then 11 else 0
def J2(c a:Int):Int:=if c=0 then 0 else a
section
variable {t:xX} {fn s:ao} {ns:List eg} {l:XS} {D:AS}
theorem C5(ht:iy t)(s:ao)(lj a b:Int):Ev fun k=>gN k t.1 t.2.1 t.2.2 fn 0 0 s lj a b=some (W t fn s a b,J2 (W t fn s a b) lj,()):=
 (Tg ht fn s).mono fun k e=>by
  simp only [go_sem,gN,show cK k (t.1,t.2.1,t.2.2) fn s=_ from e,cg,aa,W,J2]
  by_cases h0:(nk t fn s).1=0
  ·simp [h0]
  ·by_cases ha:(nk t fn s).1=a
   ·have h0':¬ a=0:=fun h=>h0 (ha.trans h)
    simp [ha,h0',beq_eq_false_iff_ne.2 h0']
   ·by_cases hb:(nk t fn s).1=b
    ·have h0':¬ b=0:=fun h=>h0 (hb.trans h)
     have ha':(b != a)=true:=bne_iff_ne.2 fun h=>ha (hb.trans h);simp [hb,h0',beq_eq_false_iff_ne.2 h0',ha']
    ·simp [h0,ha,hb,beq_eq_false_iff_ne.2 h0,bne,beq_eq_false_iff_ne.2 ha,beq_eq_false_iff_ne.2 hb]
theorem UC{c p:Int}(hc:c≠0)(ht:iy t)(s:ao)(lj a b:Int):Ev fun k=>gN k t.1 t.2.1 t.2.2 fn c p s lj a b=some (c,p,()):=
 (Tg ht fn s).mono fun k e=>by
  simp only [go_sem,gN,show cK k (t.1,t.2.1,t.2.2) fn s=_ from e,cg,beq_eq_false_iff_ne.2 hc,aa]
  cases ((nk t fn s).1 == 0)<;>cases ((nk t fn s).1 != a)<;>cases ((nk t fn s).1 != b)<;>rfl
theorem pm(l:XS)(s:ao):decide (0≤nj (fun x=>x == s) l 0)=decide (s∈l):=decide_eq_decide.2 (by rw [AU];simp)
theorem aal(ht:iy t)(hl:l.length≤1000000)(s:ao)(lj:Int):Ev fun k=>tr k t.1 t.2.1 t.2.2 fn l 0 0 s lj = some (l,F8 t fn l s 3 2,J2 (F8 t fn l s 3 2) lj,()):=
 ((C5 (fn:=fn) ht s lj 3 2).and (Hg l s hl)).mono fun k e=>by
  simp only [go_sem,tr,e.1,e.2,ge0,pm,cg,F8,J2];by_cases hw:W t fn s 3 2=0
  ·by_cases hm:s∈l<;>simp [hw,hm]
  ·by_cases hm:s∈l<;>simp [hw,hm,beq_eq_false_iff_ne.2 hw]
theorem SU(q:Nat)(n a:Int)(k:Nat):dZ q (k + 2) n [a] 1 0=some (bif a == n then .inr (0,()) else .inl ()):=by
 rw [dZ];simp only [go_sem,show decide ((0:Int) < 1)=true from rfl,show bK [a] 0=some a from rfl,show dP (0 + 1)=1 from rfl]
 rw [dZ];simp only [go_sem,show decide ((1:Int) < 1)=false from rfl]
 cases (a == n)<;>rfl
theorem SV(q:Nat)(n a b:Int)(k:Nat):dZ q (k + 3) n [a,b] 2 0=some (bif a == n then .inr (0,()) else bif b == n then .inr (0,()) else .inl ()):=by
 rw [dZ];simp only [go_sem,show decide ((0:Int) < 2)=true from rfl,show bK [a,b] 0=some a from rfl,show dP (0 + 1)=1 from rfl]
 rw [dZ];simp only [go_sem,show decide ((1:Int) < 2)=true from rfl,show bK [a,b] 1=some b from rfl,show dP (1 + 1)=2 from rfl]
 rw [dZ];simp only [go_sem,show decide ((2:Int) < 2)=false from rfl]
 cases (a == n)<;>cases (b == n)<;>rfl
theorem Dm(ht:iy t)(s:ao)(a:Int):Ev fun k=>dG k t.1 t.2.1 t.2.2 fn s [a]=some (W t fn s a a,()):=
 ((WW ht fn s).and ⟨2,fun k hk=>hk⟩).mono fun k e=>by
  obtain⟨j,rfl⟩:∃ j,k=j + 2:=⟨k - 2,by omega⟩
  simp only [go_sem,dG,gz,show fC (j + 2) (t.1,t.2.1,t.2.2) fn s=_ from e.1,show((([a]:XI).length:Int))=1 from rfl,SU,W,or_self]
  by_cases h0:(nk t fn s).1=0
  ·simp [h0]
  ·by_cases ha:(nk t fn s).1=a
   ·have:¬ a=0:=fun h=>h0 (ha.trans h)
    simp [ha,this,beq_eq_false_iff_ne.2 this]
   ·have:(a == (nk t fn s).1)=false:=beq_eq_false_iff_ne.2 (Ne.symm ha)
    simp [h0,ha,this,beq_eq_false_iff_ne.2 h0]
theorem YY(ht:iy t)(s:ao)(a b:Int):Ev fun k=>dG k t.1 t.2.1 t.2.2 fn s [a,b]=some (W t fn s a b,()):=
 ((WW ht fn s).and ⟨3,fun k hk=>hk⟩).mono fun k e=>by
  obtain⟨j,rfl⟩:∃ j,k=j + 3:=⟨k - 3,by omega⟩
  simp only [go_sem,dG,gz,show fC (j + 3) (t.1,t.2.1,t.2.2) fn s=_ from e.1,show((([a,b]:XI).length:Int))=2 from rfl,SV,W]
  by_cases h0:(nk t fn s).1=0
  ·simp [h0]
  ·by_cases ha:(nk t fn s).1=a
   ·have:¬ a=0:=fun h=>h0 (ha.trans h)
    simp [ha,this,beq_eq_false_iff_ne.2 this]
   ·have h1:(a == (nk t fn s).1)=false:=beq_eq_false_iff_ne.2 (Ne.symm ha)
    by_cases hb:(nk t fn s).1=b
    ·have h0':¬ b=0:=fun h=>h0 (hb.trans h)
     have h1':(a == b)=false:=beq_eq_false_iff_ne.2 fun h=>ha (hb.trans h.symm);simp [hb,h0',beq_eq_false_iff_ne.2 h0',h1']
    ·have h2:(b == (nk t fn s).1)=false:=beq_eq_false_iff_ne.2 (Ne.symm hb)
     simp [h0,ha,hb,h1,h2,beq_eq_false_iff_ne.2 h0]
theorem TX{k:Nat}{c:Int}{ks:XI}{a b:Int}(hr:Jg l D)(e:dG k t.1 t.2.1 t.2.2 fn s ks=some (W t fn s a b,())):mC k t.1 t.2.1 t.2.2 fn D s ks=some (F8 t fn l s a b,()):=by
 simp only [go_sem,mC,e,F8];by_cases hw:W t fn s a b=0
 ·have:=hr s
  by_cases hm:s∈l
  ·have h:p7 D s > 0:=this.2 hm
   simp [hw,hm,h]
  ·have h:¬ p7 D s > 0:=fun h=>hm (this.1 h)
   simp [hw,hm,h]
 ·simp [hw,bne_iff_ne.2 hw]
def oq(t:xX)(fn:ao)(l:XS)(x:eg):Int:=
 if x.1=25 then W t fn x.2.2.2.1 3 2 else if x.1=26∨x.1=10 then W t fn x.2.2.2.1 1 1 else
 if x.1=27∨x.1=11∨x.1=13∨x.1=34∨x.1=12 then W t fn x.2.2.2.1 4 4 else
 if x.1=17∨x.1=22 then F8 t fn l x.2.2.2.1 3 2 else if x.1=16 then F8 t fn l x.2.2.2.1 3 3 else 0
theorem UA(ht:iy t)(hl:l.length≤1000000){i:Nat}{x:eg}(hx:ns[i]? = some x):Ev fun k=>gB k t.1 t.2.1 t.2.2 ns fn l 0 0 (i:Int)=some (l,oq t fn l x,J2 (oq t fn l x) x.2.1,()):=by
 obtain⟨kk,lj,nu,nm,ks⟩:=x;refine((((C5 (fn:=fn) ht nm lj 3 2).and (C5 (fn:=fn) ht nm lj 1 1)).and ((C5 (fn:=fn) ht nm lj 4 4).and (aal (fn:=fn) ht hl nm lj))).and ((C5 (fn:=fn) ht nm lj 3 3).and (Hg l nm hl))).mono fun k e=>?_;obtain⟨⟨⟨e1,e2⟩,e3,e4⟩,e5,e6⟩:=e;by_cases h25:kk=25
 ·subst h25
  simp only [go_sem,gB,bh hx,aa,show((25:Int) == 25)=true from rfl,show((25:Int) == 26)=false from rfl,show((25:Int) == 10)=false from rfl,show((25:Int) == 27)=false from rfl,show((25:Int) == 11)=false from rfl,show((25:Int) == 13)=false from rfl,show((25:Int) == 34)=false from rfl,show((25:Int) == 12)=false from rfl,show((25:Int) == 17)=false from rfl,show((25:Int) == 22)=false from rfl,show((25:Int) == 16)=false from rfl,e1,e2,e3,e4,e5,e6,ge0,pm,cg,oq,Int.reduceEq,reduceIte,or_true,true_or,or_false,false_or,or_self]
 by_cases h26:kk=26
 ·subst h26
  simp only [go_sem,gB,bh hx,aa,show((26:Int) == 25)=false from rfl,show((26:Int) == 26)=true from rfl,show((26:Int) == 10)=false from rfl,show((26:Int) == 27)=false from rfl,show((26:Int) == 11)=false from rfl,show((26:Int) == 13)=false from rfl,show((26:Int) == 34)=false from rfl,show((26:Int) == 12)=false from rfl,show((26:Int) == 17)=false from rfl,show((26:Int) == 22)=false from rfl,show((26:Int) == 16)=false from rfl,e1,e2,e3,e4,e5,e6,ge0,pm,cg,oq,Int.reduceEq,reduceIte,or_true,true_or,or_false,false_or,or_self]
 by_cases h10:kk=10
 ·subst h10
  simp only [go_sem,gB,bh hx,aa,show((10:Int) == 25)=false from rfl,show((10:Int) == 26)=false from rfl,show((10:Int) == 10)=true from rfl,show((10:Int) == 27)=false from rfl,show((10:Int) == 11)=false from rfl,show((10:Int) == 13)=false from rfl,show((10:Int) == 34)=false from rfl,show((10:Int) == 12)=false from rfl,show((10:Int) == 17)=false from rfl,show((10:Int) == 22)=false from rfl,show((10:Int) == 16)=false from rfl,e1,e2,e3,e4,e5,e6,ge0,pm,cg,oq,Int.reduceEq,reduceIte,or_true,true_or,or_false,false_or,or_self]
 by_cases h27:kk=27
 ·subst h27
  simp only [go_sem,gB,bh hx,aa,show((27:Int) == 25)=false from rfl,show((27:Int) == 26)=false from rfl,show((27:Int) == 10)=false from rfl,show((27:Int) == 27)=true from rfl,show((27:Int) == 11)=false from rfl,show((27:Int) == 13)=false from rfl,show((27:Int) == 34)=false from rfl,show((27:Int) == 12)=false from rfl,show((27:Int) == 17)=false from rfl,show((27:Int) == 22)=false from rfl,show((27:Int) == 16)=false from rfl,e1,e2,e3,e4,e5,e6,ge0,pm,cg,oq,Int.reduceEq,reduceIte,or_true,true_or,or_false,false_or,or_self]
 by_cases h11:kk=11
 ·subst h11
  simp only [go_sem,gB,bh hx,aa,show((11:Int) == 25)=false from rfl,show((11:Int) == 26)=false from rfl,show((11:Int) == 10)=false from rfl,show((11:Int) == 27)=false from rfl,show((11:Int) == 11)=true from rfl,show((11:Int) == 13)=false from rfl,show((11:Int) == 34)=false from rfl,show((11:Int) == 12)=false from rfl,show((11:Int) == 17)=false from rfl,show((11:Int) == 22)=false from rfl,show((11:Int) == 16)=false from rfl,e1,e2,e3,e4,e5,e6,ge0,pm,cg,oq,Int.reduceEq,reduceIte,or_true,true_or,or_false,false_or,or_self]
 by_cases h13:kk=13
 ·subst h13
  simp only [go_sem,gB,bh hx,aa,show((13:Int) == 25)=false from rfl,show((13:Int) == 26)=false from rfl,show((13:Int) == 10)=false from rfl,show((13:Int) == 27)=false from rfl,show((13:Int) == 11)=false from rfl,show((13:Int) == 13)=true from rfl,show((13:Int) == 34)=false from rfl,show((13:Int) == 12)=false from rfl,show((13:Int) == 17)=false from rfl,show((13:Int) == 22)=false from rfl,show((13:Int) == 16)=false from rfl,e1,e2,e3,e4,e5,e6,ge0,pm,cg,oq,Int.reduceEq,reduceIte,or_true,true_or,or_false,false_or,or_self]
 by_cases h34:kk=34
 ·subst h34
  simp only [go_sem,gB,bh hx,aa,show((34:Int) == 25)=false from rfl,show((34:Int) == 26)=false from rfl,show((34:Int) == 10)=false from rfl,show((34:Int) == 27)=false from rfl,show((34:Int) == 11)=false from rfl,show((34:Int) == 13)=false from rfl,show((34:Int) == 34)=true from rfl,show((34:Int) == 12)=false from rfl,show((34:Int) == 17)=false from rfl,show((34:Int) == 22)=false from rfl,show((34:Int) == 16)=false from rfl,e1,e2,e3,e4,e5,e6,ge0,pm,cg,oq,Int.reduceEq,reduceIte,or_true,true_or,or_false,false_or,or_self]
 by_cases IS:kk=12
 ·subst IS
  simp only [go_sem,gB,bh hx,aa,show((12:Int) == 25)=false from rfl,show((12:Int) == 26)=false from rfl,show((12:Int) == 10)=false from rfl,show((12:Int) == 27)=false from rfl,show((12:Int) == 11)=false from rfl,show((12:Int) == 13)=false from rfl,show((12:Int) == 34)=false from rfl,show((12:Int) == 12)=true from rfl,show((12:Int) == 17)=false from rfl,show((12:Int) == 22)=false from rfl,show((12:Int) == 16)=false from rfl,e1,e2,e3,e4,e5,e6,ge0,pm,cg,oq,Int.reduceEq,reduceIte,or_true,true_or,or_false,false_or,or_self]
 by_cases h17:kk=17
 ·subst h17
  simp only [go_sem,gB,bh hx,aa,show((17:Int) == 25)=false from rfl,show((17:Int) == 26)=false from rfl,show((17:Int) == 10)=false from rfl,show((17:Int) == 27)=false from rfl,show((17:Int) == 11)=false from rfl,show((17:Int) == 13)=false from rfl,show((17:Int) == 34)=false from rfl,show((17:Int) == 12)=false from rfl,show((17:Int) == 17)=true from rfl,show((17:Int) == 22)=false from rfl,show((17:Int) == 16)=false from rfl,e1,e2,e3,e4,e5,e6,ge0,pm,cg,oq,Int.reduceEq,reduceIte,or_true,true_or,or_false,false_or,or_self]
 by_cases Cz:kk=22
 ·subst Cz
  simp only [go_sem,gB,bh hx,aa,show((22:Int) == 25)=false from rfl,show((22:Int) == 26)=false from rfl,show((22:Int) == 10)=false from rfl,show((22:Int) == 27)=false from rfl,show((22:Int) == 11)=false from rfl,show((22:Int) == 13)=false from rfl,show((22:Int) == 34)=false from rfl,show((22:Int) == 12)=false from rfl,show((22:Int) == 17)=false from rfl,show((22:Int) == 22)=true from rfl,show((22:Int) == 16)=false from rfl,e1,e2,e3,e4,e5,e6,ge0,pm,cg,oq,Int.reduceEq,reduceIte,or_true,true_or,or_false,false_or,or_self]
 by_cases Ek:kk=16
 ·subst Ek
  simp only [go_sem,gB,bh hx,aa,show((16:Int) == 25)=false from rfl,show((16:Int) == 26)=false from rfl,show((16:Int) == 10)=false from rfl,show((16:Int) == 27)=false from rfl,show((16:Int) == 11)=false from rfl,show((16:Int) == 13)=false from rfl,show((16:Int) == 34)=false from rfl,show((16:Int) == 12)=false from rfl,show((16:Int) == 17)=false from rfl,show((16:Int) == 22)=false from rfl,show((16:Int) == 16)=true from rfl,e1,e2,e3,e4,e5,e6,ge0,pm,cg,oq,Int.reduceEq,reduceIte,or_true,true_or,or_false,false_or,or_self]
  simp only [F8,J2];by_cases hw:W t fn nm 3 3=0
  ·by_cases hm:nm∈l<;>simp [hw,hm]
  ·by_cases hm:nm∈l<;>simp [hw,hm,beq_eq_false_iff_ne.2 hw]
 simp only [go_sem,gB,bh hx,aa,beq_eq_false_iff_ne.2 h25,h25,beq_eq_false_iff_ne.2 h26,h26,beq_eq_false_iff_ne.2 h10,h10,beq_eq_false_iff_ne.2 h27,h27,beq_eq_false_iff_ne.2 h11,h11,beq_eq_false_iff_ne.2 h13,h13,beq_eq_false_iff_ne.2 h34,h34,beq_eq_false_iff_ne.2 IS,IS,beq_eq_false_iff_ne.2 h17,h17,beq_eq_false_iff_ne.2 Cz,Cz,beq_eq_false_iff_ne.2 Ek,Ek,oq,or_self,reduceIte];rfl
theorem Fq(ht:iy t)(l:XS)(x:eg):Ev fun k=>∀ D,Jg l D→cG k t.1 t.2.1 t.2.2 fn D x=some (if x.1=9 then F8 t fn l x.2.2.2.1 3 2 else oq t fn l x,()):=by
 obtain⟨kk,lj,nu,nm,ks⟩:=x;refine(((YY (fn:=fn) ht nm 3 2).and (Dm (fn:=fn) ht nm 1)).and ((Dm (fn:=fn) ht nm 4).and (Dm (fn:=fn) ht nm 3))).mono fun k e=>?_;obtain⟨⟨e1,e2⟩,e3,e4⟩:=e;intro D hr;have e5:=TX (c:=0) hr e1;have e6:=TX (c:=0) hr e4;by_cases h25:kk=25
 ·subst h25
  simp only [go_sem,cG,aa,show((25:Int) == 25)=true from rfl,show((25:Int) == 26)=false from rfl,show((25:Int) == 10)=false from rfl,show((25:Int) == 27)=false from rfl,show((25:Int) == 11)=false from rfl,show((25:Int) == 13)=false from rfl,show((25:Int) == 34)=false from rfl,show((25:Int) == 12)=false from rfl,show((25:Int) == 17)=false from rfl,show((25:Int) == 22)=false from rfl,show((25:Int) == 9)=false from rfl,show((25:Int) == 16)=false from rfl,e1,e2,e3,e5,e6,oq,Int.reduceEq,reduceIte,or_true,true_or,or_false,false_or,or_self]
 by_cases h26:kk=26
 ·subst h26
  simp only [go_sem,cG,aa,show((26:Int) == 25)=false from rfl,show((26:Int) == 26)=true from rfl,show((26:Int) == 10)=false from rfl,show((26:Int) == 27)=false from rfl,show((26:Int) == 11)=false from rfl,show((26:Int) == 13)=false from rfl,show((26:Int) == 34)=false from rfl,show((26:Int) == 12)=false from rfl,show((26:Int) == 17)=false from rfl,show((26:Int) == 22)=false from rfl,show((26:Int) == 9)=false from rfl,show((26:Int) == 16)=false from rfl,e1,e2,e3,e5,e6,oq,Int.reduceEq,reduceIte,or_true,true_or,or_false,false_or,or_self]
 by_cases h10:kk=10
 ·subst h10
  simp only [go_sem,cG,aa,show((10:Int) == 25)=false from rfl,show((10:Int) == 26)=false from rfl,show((10:Int) == 10)=true from rfl,show((10:Int) == 27)=false from rfl,show((10:Int) == 11)=false from rfl,show((10:Int) == 13)=false from rfl,show((10:Int) == 34)=false from rfl,show((10:Int) == 12)=false from rfl,show((10:Int) == 17)=false from rfl,show((10:Int) == 22)=false from rfl,show((10:Int) == 9)=false from rfl,show((10:Int) == 16)=false from rfl,e1,e2,e3,e5,e6,oq,Int.reduceEq,reduceIte,or_true,true_or,or_false,false_or,or_self]
 by_cases h27:kk=27
 ·subst h27
  simp only [go_sem,cG,aa,show((27:Int) == 25)=false from rfl,show((27:Int) == 26)=false from rfl,show((27:Int) == 10)=false from rfl,show((27:Int) == 27)=true from rfl,show((27:Int) == 11)=false from rfl,show((27:Int) == 13)=false from rfl,show((27:Int) == 34)=false from rfl,show((27:Int) == 12)=false from rfl,show((27:Int) == 17)=false from rfl,show((27:Int) == 22)=false from rfl,show((27:Int) == 9)=false from rfl,show((27:Int) == 16)=false from rfl,e1,e2,e3,e5,e6,oq,Int.reduceEq,reduceIte,or_true,true_or,or_false,false_or,or_self]
 by_cases h11:kk=11
 ·subst h11
  simp only [go_sem,cG,aa,show((11:Int) == 25)=false from rfl,show((11:Int) == 26)=false from rfl,show((11:Int) == 10)=false from rfl,show((11:Int) == 27)=false from rfl,show((11:Int) == 11)=true from rfl,show((11:Int) == 13)=false from rfl,show((11:Int) == 34)=false from rfl,show((11:Int) == 12)=false from rfl,show((11:Int) == 17)=false from rfl,show((11:Int) == 22)=false from rfl,show((11:Int) == 9)=false from rfl,show((11:Int) == 16)=false from rfl,e1,e2,e3,e5,e6,oq,Int.reduceEq,reduceIte,or_true,true_or,or_false,false_or,or_self]
 by_cases h13:kk=13
 ·subst h13
  simp only [go_sem,cG,aa,show((13:Int) == 25)=false from rfl,show((13:Int) == 26)=false from rfl,show((13:Int) == 10)=false from rfl,show((13:Int) == 27)=false from rfl,show((13:Int) == 11)=false from rfl,show((13:Int) == 13)=true from rfl,show((13:Int) == 34)=false from rfl,show((13:Int) == 12)=false from rfl,show((13:Int) == 17)=false from rfl,show((13:Int) == 22)=false from rfl,show((13:Int) == 9)=false from rfl,show((13:Int) == 16)=false from rfl,e1,e2,e3,e5,e6,oq,Int.reduceEq,reduceIte,or_true,true_or,or_false,false_or,or_self]
 by_cases h34:kk=34
 ·subst h34
  simp only [go_sem,cG,aa,show((34:Int) == 25)=false from rfl,show((34:Int) == 26)=false from rfl,show((34:Int) == 10)=false from rfl,show((34:Int) == 27)=false from rfl,show((34:Int) == 11)=false from rfl,show((34:Int) == 13)=false from rfl,show((34:Int) == 34)=true from rfl,show((34:Int) == 12)=false from rfl,show((34:Int) == 17)=false from rfl,show((34:Int) == 22)=false from rfl,show((34:Int) == 9)=false from rfl,show((34:Int) == 16)=false from rfl,e1,e2,e3,e5,e6,oq,Int.reduceEq,reduceIte,or_true,true_or,or_false,false_or,or_self]
 by_cases IS:kk=12
 ·subst IS
  simp only [go_sem,cG,aa,show((12:Int) == 25)=false from rfl,show((12:Int) == 26)=false from rfl,show((12:Int) == 10)=false from rfl,show((12:Int) == 27)=false from rfl,show((12:Int) == 11)=false from rfl,show((12:Int) == 13)=false from rfl,show((12:Int) == 34)=false from rfl,show((12:Int) == 12)=true from rfl,show((12:Int) == 17)=false from rfl,show((12:Int) == 22)=false from rfl,show((12:Int) == 9)=false from rfl,show((12:Int) == 16)=false from rfl,e1,e2,e3,e5,e6,oq,Int.reduceEq,reduceIte,or_true,true_or,or_false,false_or,or_self]
 by_cases h17:kk=17
 ·subst h17
  simp only [go_sem,cG,aa,show((17:Int) == 25)=false from rfl,show((17:Int) == 26)=false from rfl,show((17:Int) == 10)=false from rfl,show((17:Int) == 27)=false from rfl,show((17:Int) == 11)=false from rfl,show((17:Int) == 13)=false from rfl,show((17:Int) == 34)=false from rfl,show((17:Int) == 12)=false from rfl,show((17:Int) == 17)=true from rfl,show((17:Int) == 22)=false from rfl,show((17:Int) == 9)=false from rfl,show((17:Int) == 16)=false from rfl,e1,e2,e3,e5,e6,oq,Int.reduceEq,reduceIte,or_true,true_or,or_false,false_or,or_self]
 by_cases Cz:kk=22
 ·subst Cz
  simp only [go_sem,cG,aa,show((22:Int) == 25)=false from rfl,show((22:Int) == 26)=false from rfl,show((22:Int) == 10)=false from rfl,show((22:Int) == 27)=false from rfl,show((22:Int) == 11)=false from rfl,show((22:Int) == 13)=false from rfl,show((22:Int) == 34)=false from rfl,show((22:Int) == 12)=false from rfl,show((22:Int) == 17)=false from rfl,show((22:Int) == 22)=true from rfl,show((22:Int) == 9)=false from rfl,show((22:Int) == 16)=false from rfl,e1,e2,e3,e5,e6,oq,Int.reduceEq,reduceIte,or_true,true_or,or_false,false_or,or_self]
 by_cases h9:kk=9
 ·subst h9
  simp only [go_sem,cG,aa,show((9:Int) == 25)=false from rfl,show((9:Int) == 26)=false from rfl,show((9:Int) == 10)=false from rfl,show((9:Int) == 27)=false from rfl,show((9:Int) == 11)=false from rfl,show((9:Int) == 13)=false from rfl,show((9:Int) == 34)=false from rfl,show((9:Int) == 12)=false from rfl,show((9:Int) == 17)=false from rfl,show((9:Int) == 22)=false from rfl,show((9:Int) == 9)=true from rfl,show((9:Int) == 16)=false from rfl,e1,e2,e3,e5,e6,oq,Int.reduceEq,reduceIte,or_true,true_or,or_false,false_or,or_self]
 by_cases Ek:kk=16
 ·subst Ek
  simp only [go_sem,cG,aa,show((16:Int) == 25)=false from rfl,show((16:Int) == 26)=false from rfl,show((16:Int) == 10)=false from rfl,show((16:Int) == 27)=false from rfl,show((16:Int) == 11)=false from rfl,show((16:Int) == 13)=false from rfl,show((16:Int) == 34)=false from rfl,show((16:Int) == 12)=false from rfl,show((16:Int) == 17)=false from rfl,show((16:Int) == 22)=false from rfl,show((16:Int) == 9)=false from rfl,show((16:Int) == 16)=true from rfl,e1,e2,e3,e5,e6,oq,Int.reduceEq,reduceIte,or_true,true_or,or_false,false_or,or_self]
 simp only [go_sem,cG,aa,beq_eq_false_iff_ne.2 h25,h25,beq_eq_false_iff_ne.2 h26,h26,beq_eq_false_iff_ne.2 h10,h10,beq_eq_false_iff_ne.2 h27,h27,beq_eq_false_iff_ne.2 h11,h11,beq_eq_false_iff_ne.2 h13,h13,beq_eq_false_iff_ne.2 h34,h34,beq_eq_false_iff_ne.2 IS,IS,beq_eq_false_iff_ne.2 h17,h17,beq_eq_false_iff_ne.2 Cz,Cz,beq_eq_false_iff_ne.2 h9,h9,beq_eq_false_iff_ne.2 Ek,Ek,oq,or_self,reduceIte]
end
end Go.Fx.R5
namespace Go.Fx.R5
open Go Go.Fx
def CP(ns:List eg)(j:Int):ao:=match ns[j.toNat]? with | some y=>y.2.2.2.1 | none=>[]
inductive F0(ns:List eg)(t:xX)(fn:ao):Nat→Prop
 |mk (i:Nat) (x:eg) (hx:ns[i]? = some x) (hk:∀ j∈x.2.2.2.2,F0 ns t fn j.toNat) (hc:x.1=22→∀ u,x.2.2.2.2.head? = some u→(nk t fn (CP ns u)).1=5)
  (ha:x.1=12→∀ u,x.2.2.2.2.head? = some u→(nk t fn (CP ns u)).1=1):F0 ns t fn i
def Ss(l:XS)(B:Nat)(c p:Int)(o:Option (XS×Int×Int×Unit)):Prop:=∃ bl,o=some (bl,c,p,())∧bl.length≤l.length + B∧(c=0→bl=l)
def Yv(l:XS)(c p:Int)(o:Option ((Int×Int)×AS×Unit)):Prop:=∃ bm,o=some ((c,p),bm,())∧(c=0→Jg l bm)
def Qi(l:XS)(c p:Int)(o:Option ((Int×Int×AS×Unit)⊕(Int×Int×AS×Unit))):Prop:=∃ bm,o=some (if c=0 then .inl (0,0,bm,()) else .inr (c,p,bm,()))∧(c=0→Jg l bm)
theorem nF(k:Nat):dB (k + 1)=cF (dB k) (dx k) (eE k) k:=rfl
theorem Dy(k:Nat):dx (k + 1)=hJ (dB k) (dx k) (eE k) k:=rfl
theorem Kl(k:Nat):eE (k + 1)=lJ (dB k) (dx k) (eE k) k:=rfl
theorem TZ(k:Nat):bF (k + 1)=kc (bF k) (ci k) (bS k) k:=rfl
theorem kb(k:Nat):ci (k + 1)=aZ (bF k) (ci k) (bS k) k:=rfl
theorem Lm(k:Nat):bS (k + 1)=gJ (bF k) (ci k) (bS k) k:=rfl
theorem zE{rn ra rc}(q:Nat)(Kd:Int)(hK:(Kd == 16)=false)(nm:ao):∀ k K A G F ns fn b c p i,ix rn ra rc q k K A G F ns fn b c p i=bH rn ra rc q k Kd nm K A G F ns fn b c p i
 |0,_,_,_,_,_,_,_,_,_,_=>rfl
 |k + 1,K,A,G,F,ns,fn,b,c,p,i=>by simp only [go_sem,ix,bH,aa,hK,zE q Kd hK nm k]
theorem Wa{rn ra rc}(q:Nat):∀ k ns A G F fn P I R B K n w w2 b i,cC rn ra rc q k ns A G F fn P I R B K n w w2 b i=aR rn ra rc q k ns A G F fn P I R B K n w w2 b i
 |0,_,_,_,_,_,_,_,_,_,_,_,_,_,_,_=>rfl
 |k + 1,ns,A,G,F,fn,P,I,R,B,K,n,w,w2,b,i=>by simp only [cC,aR,Wa q k]
section
variable {t:xX} {fn:ao} {ns:List eg} {P:Int} {Is Rs:XS} {B:Int}
theorem Gu{c p:Int}(hc:c≠0){i:Nat}{x:eg}(hx:ns[i]? = some x)(k:Nat)(b:XS):dB (k + 1) t.1 t.2.1 t.2.2 ns fn b c p (i:Int)=some (b,c,p,()):=by rw [nF];simp only [go_sem,cF,bh hx,bne_iff_ne.2 hc]
theorem IR{c p:Int}(hc:c≠0){Kd:Int}(hK:(Kd == 16)=false){nm:ao}{K:XI}(hv:∀ j∈K,0≤j∧j < (ns.length:Int))(hl:K.length≤1000000)(q:Nat):∀(m s k:Nat) (b:XS),m + s=K.length→m < k→
  bH (dB (q + 1)) (dx (q + 1)) (eE (q + 1)) (q + 1) k Kd nm K t.1 t.2.1 t.2.2 ns fn b c p (s:Int)=some (b,c,p,())
 |0,s,k + 1,b,h,_=>by
  have:¬ s < K.length:=by omega
  simp only [go_sem,bH,Int.ofNat_lt,this]
 |m + 1,s,k + 1,b,h,hk=>by
  have bq:s < K.length:=by omega
  have hj:=hv _ (List.getElem_mem bq);obtain⟨x,e1,_,_⟩:=uf hj.1 hj.2;have en:=Gu (t:=t) (fn:=fn) (p:=p) hc e1 q b;rw [Int.toNat_of_nonneg hj.1] at en;simp only [go_sem,bH,aa,Int.ofNat_lt,bq,hK,cV bq,en,ag (show s < _ by omega),IR hc hK hv hl q m (s + 1) k b (by omega) (by omega)]
def NB(t:xX)(fn:ao)(ns:List eg)(P:Int)(Is Rs:XS)(B:Int)(i:Nat):Prop:=∀ l:XS,l.length + i≤4000→∃ c p,(c=0→p=0∧F0 ns t fn i)∧
 Ev fun k=>Ss l (i + 1) c p (dB k t.1 t.2.1 t.2.2 ns fn l 0 0 (i:Int))∧∀ D,Jg l D→Yv l c p (ci k ns t.1 t.2.1 t.2.2 fn P Is Rs B D (i:Int))
theorem zT{Kd:Int}(hK:(Kd == 16)=false){nm:ao}{K:XI}(hv:∀ j∈K,0≤j∧j < (ns.length:Int))(hl:K.length≤1000000){l:XS}{i:Nat}(hli:l.length + i≤4000):∀ m s,m + s=K.length→(∀ j∈K.drop s,j < (i:Int)∧NB t fn ns P Is Rs B j.toNat)→
  ∃ c p,(c=0→p=0∧∀ j∈K.drop s,F0 ns t fn j.toNat)∧cm fun q k=>
   Ss l i c p (bH (dB q) (dx q) (eE q) q k Kd nm K t.1 t.2.1 t.2.2 ns fn l 0 0 (s:Int))∧
   ∀ D,Jg l D→Qi l c p (aR (bF q) (ci q) (bS q) q k ns t.1 t.2.1 t.2.2 fn P Is Rs B K (K.length:Int) 0 0 D (s:Int))
 |0,s,h,_=>by
  have h2:¬ s < K.length:=by omega
  have e:K.drop s = []:=by simp;omega
  refine⟨0,0,fun _=>⟨rfl,by rw [e];simp⟩,cm.succ (cm.of fun q k=>⟨⟨l,?_,by omega,fun _=>rfl⟩,fun D hr=>⟨D,?_,fun _=>hr⟩⟩)⟩
  ·simp only [go_sem,bH,Int.ofNat_lt,h2]
  ·simp only [go_sem,aR,Int.ofNat_lt,h2,reduceIte]
 |m + 1,s,h,hn=>by
  have bq:s < K.length:=by omega
  have hd:K.drop s=K[s] :: K.drop (s + 1):=List.drop_eq_getElem_cons bq;have hj:=hv _ (List.getElem_mem bq);have hnj:=hn K[s] (by rw [hd];exact List.mem_cons_self)
  have hjn:((K[s].toNat:Nat):Int)=K[s]:=Int.toNat_of_nonneg hj.1;obtain⟨c,p,hc,he⟩:=hnj.2 l (by omega)
  rw [hjn] at he;by_cases h0:c=0
  ·subst h0
   obtain⟨rfl,Fl⟩:=hc rfl;obtain⟨c2,p2,wr,he2⟩:=zT hK hv hl hli m (s + 1) (by omega) (fun j hj=>hn j (by rw [hd];exact List.mem_cons_of_mem _ hj))
   refine⟨c2,p2,fun hz=>⟨(wr hz).1,fun j hj=>?_⟩,cm.succ ((he.tw.and he2).mono fun q k e=>?_)⟩
   ·rw [hd] at hj
    rcases List.mem_cons.1 hj with rfl | hj
    ·exact Fl
    ·exact(wr hz).2 j hj
   ·obtain⟨⟨⟨bl,e1,_,e2⟩,e3⟩,e4,e5⟩:=e
    obtain rfl:=e2 rfl;refine⟨?_,fun D hr=>?_⟩
    ·simp only [go_sem,bH,aa,Int.ofNat_lt,bq,hK,cV bq,e1,ag (show s < _ by omega)]
     exact e4
    ·obtain⟨bm,e6,e7⟩:=e3 D hr
     simp only [go_sem,aR,Int.ofNat_lt,bq,cV bq,e6,ag (show s < _ by omega)]
     exact e5 bm (e7 rfl)
  ·refine⟨c,p,fun hz=>absurd hz h0,cm.succ ((he.tw.and (Ev.tw (p:=fun q=>1≤q) ⟨1,fun k hk=>hk⟩ |>.and (Ev.aev (p:=fun k=>m < k) ⟨m + 1,fun k hk=>by omega⟩))).mono fun q k e=>?_)⟩
   obtain⟨⟨⟨bl,e1,eb,_⟩,e3⟩,hq,hk⟩:=e;obtain⟨q,rfl⟩:∃ j,q=j + 1:=⟨q - 1,by omega⟩
   refine⟨⟨bl,?_,by have:=hnj.1;omega,fun hz=>absurd hz h0⟩,fun D hr=>?_⟩
   ·simp only [go_sem,bH,aa,Int.ofNat_lt,bq,hK,cV bq,e1,ag (show s < _ by omega)]
    exact IR h0 hK hv hl q m (s + 1) k bl (by omega) hk
   ·obtain⟨bm,e6,e7⟩:=e3 D hr
    refine⟨bm,?_,fun hz=>absurd hz h0⟩;simp only [go_sem,aR,Int.ofNat_lt,bq,cV bq,e6,bne_iff_ne.2 h0,if_neg h0]
theorem Oq(ht:iy t){i:Nat}{x:eg}(hx:ns[i]? = some x)(h23:x.1=23)(hk:x.2.2.2.2 = [])(l:XS):Ev fun k=>∀ D,Jg l D→ci k ns t.1 t.2.1 t.2.2 fn P Is Rs B D (i:Int)=some ((0,0),D,()):=by
 have hb:Ev fun k=>∀ D:AS,bF k ns t.1 t.2.1 t.2.2 fn P Is Rs B D (i:Int)=some ((0,0),D,()):=Ev.succ (Ev.succ (Ev.of fun k D=>by
  rw [TZ (k + 1)];simp only [go_sem,kc,bh hx,hk];simp only [go_sem,aR,List.length_nil,show decide ((0:Int) < ((0:Nat):Int))=false from rfl]))
 refine Ev.succ ((hb.and (Fq (fn:=fn) ht l x)).mono fun k e D hr=>?_);have kN:=e.2 D hr;simp only [h23,show ¬ (23:Int)=9 by decide,if_false,oq,Int.reduceEq,reduceIte,or_self] at kN
 rw [kb];simp only [go_sem,aZ,bh hx,aa,h23,show((23:Int) == 9)=false from rfl,show((23:Int) == 12)=false from rfl,show((23:Int) == 22)=false from rfl,show((23:Int) == 16)=false from rfl,kN,e.1]
theorem nk5{s:ao}(h:(nk t fn s).1=5):∃(n:Nat) (f:ao×Int×XS×XS×Int),(nk t fn s).2=(n:Int)∧t.2.2[n]? = some f∧f.1=s:=by
 have key:(ML t s).1=5→∃(n:Nat) (f:ao×Int×XS×XS×Int),(ML t s).2=(n:Int)∧t.2.2[n]? = some f∧f.1=s:=fun h=>by
  unfold ML at h ⊢;by_cases g1:0≤nj (fun x:ao×Int=>x.1 == s) t.1 0
  ·simp [g1] at h
  ·by_cases g2:0≤nj (fun x=>x == s) t.2.1 0
   ·simp [g1,g2] at h
   ·by_cases g3:0≤nj (fun x:ao×Int×XS×XS×Int=>x.1 == s) t.2.2 0
    ·obtain⟨n,f,e1,e2,e3⟩:=G8 g3
     exact⟨n,f,by simp [g1,g2,g3,e1],e2,beq_iff_eq.1 e3⟩
    ·simp [g1,g2,g3] at h
 unfold nk at h ⊢;cases hf:t.2.2.find? (fun x=>x.1 == fn) with
 |none=>simp only [hf] at h ⊢;exact key h
 |some x=>
  simp only [hf] at h ⊢;by_cases g1:0≤nj (fun y=>y == s) x.2.2.1 0
  ·simp [g1] at h
  ·by_cases g2:0≤nj (fun y=>y == s) x.2.2.2.1 0
   ·simp [g1,g2] at h
   ·simp only [go_sem,g1,g2] at h ⊢;exact key h
theorem V0{s:ao}{a b:Int}(h:W t fn s a b=0):(nk t fn s).1=a∨(nk t fn s).1=b:=by
 unfold W at h;by_cases h0:(nk t fn s).1=0
 ·simp [h0] at h
 ·by_cases h1:(nk t fn s).1=a∨(nk t fn s).1=b
  ·exact h1
  ·simp [h0,h1] at h
end
end Go.Fx.R5
